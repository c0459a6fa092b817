/-
  ScrapTexts: for every two sources, every list, all numbers and every list put in, the text of a splice is the splice of the texts; the size of a list is how long its text is. No conditions.
-/
import Derived.Test.YtlgablhlpcmcaaaLawg
import Derived.Test.YtlgablhlpcmcaaaOpenc
import Derived.Lib.SmallJoins
namespace Go.Proofs.Ytlgablhlpcmcaaa.scrapTexts
open Go.ChangeShapes Go.WideShapes Go.ChangeAt Go.RowKit

theorem bounds_scraps {l : List S} (h : ∀ s ∈ l, (Lit.int .i64 s.src).wf = true ∧ (Lit.int .i64 s.at_).wf = true ∧ (Lit.int .i64 s.len).wf = true) :
    ∀ s ∈ l, -9223372036854775808 ≤ s.src ∧ s.src ≤ 9223372036854775807 ∧ -9223372036854775808 ≤ s.at_ ∧ s.at_ ≤ 9223372036854775807 ∧ -9223372036854775808 ≤ s.len ∧ s.len ≤ 9223372036854775807 := by
  intro s hs
  obtain ⟨h1, h2, h3⟩ := h s hs
  have := wf_bounds h1
  have := wf_bounds h2
  have := wf_bounds h3
  omega
set_option maxRecDepth 100000 in
theorem lifted (os : Os) (started : os.Started) (H : Type) (enc : TypeId × Value → H) :
    ReturnsInHanded {} Try.checked os 4 .any (Rows.scrapTextsSpec.pre6 enc Try.prog Try.f4 Rows.scrapTextsRow.domain false) (Rows.scrapTextsSpec.post enc Try.prog Try.f4 false true false false) := by
  refine returnsInHanded_of_change (C := Try.checked) own started (by kernel_rfl) Try.func4
    (ChangeSpec.witness6 (enc := enc) (C := Try.checked) false ⟨#[], #[.agg #[.slice none 0 0, .slice none 0 0], .slice none 0 0, .int .i64 0, .int .i64 0, .slice none 0 0], []⟩ 8 (by kernel_rfl) (by kernel_rfl) (by kernel_rfl) (by kernel_rfl)) ?_
  intro W base args ds gs before hval0 hW _ _
  have hval : ∀ (j : Nat) t v, Try.f4.params[j]? = some t → args[j]? = some v → Value.okWide Try.prog W .any base t v := hval0
  have hW' := hW
  obtain ⟨p, q, hA0, hV, rfl, _, _⟩ := hW
  have hA : DataW.TrodAll enc Try.prog W 0 (fun _ => true) true Try.f4.params.toList args.toList ds p := hA0
  rw [Try.params4] at hA hval
  obtain ⟨v0, vs0, d0, ds0, p0, q0, hargs, rfl, rfl, h0, r0⟩ := trodAll_cons hA
  obtain ⟨v1, vs1, d1, ds1, p1, q1, rfl, rfl, rfl, h1, r1⟩ := trodAll_cons r0
  obtain ⟨v2, vs2, d2, ds2, p2, q2, rfl, rfl, rfl, h2, r2⟩ := trodAll_cons r1
  obtain ⟨v3, vs3, d3, ds3, p3, q3, rfl, rfl, rfl, h3, r3⟩ := trodAll_cons r2
  obtain ⟨v4, vs4, d4, ds4, p4, q4, rfl, rfl, rfl, h4, r4⟩ := trodAll_cons r3
  obtain ⟨rfl, rfl, rfl⟩ := trodAll_nil r4
  obtain rfl : args = #[v0, v1, v2, v3, v4] := by cases args; simp_all
  obtain ⟨rfl, rfl⟩ := trodVars_none hV
  have k0 := h0
  have lt0 : ∀ x ∈ p0, x.block < W.heap.size := by obtain ⟨m, hm⟩ := k0; exact DataW.trod_lt m _ _ _ hm
  obtain ⟨e0, e1, y0, y1, m, rfl, hdd, hpp, hy0, hy1⟩ := Go.Joins.open_agg2 Try.underlying36 (by kernel_rfl) (by kernel_rfl) (hval 0 36 v0 rfl rfl) h0
  obtain ⟨Ax, cx, lx, rfl, hrx, hcx, hmx, _, _⟩ := cells_bytes hy0
  obtain ⟨Ay, cy, ly, rfl, hry, hcy, hmy, _, _⟩ := cells_bytes hy1
  obtain ⟨a1, len1, cap1, rfl⟩ := okWide_slice Try.underlying22 (hval 1 22 v1 rfl rfl)
  have k1 := h1
  have lt1 : ∀ x ∈ p1, x.block < W.heap.size := by obtain ⟨m, hm⟩ := k1; exact DataW.trod_lt m _ _ _ hm
  obtain ⟨l1, hl1, hr1, hc1, hcm1, hwf1⟩ := open_scraps h1
  unfold maxLen at hcm1
  obtain ⟨a2, rfl, rfl, rfl, w2⟩ := open_int Try.underlying3 (hval 2 3 v2 rfl rfl) h2
  have b2 := wf_bounds w2
  obtain ⟨a3, rfl, rfl, rfl, w3⟩ := open_int Try.underlying3 (hval 3 3 v3 rfl rfl) h3
  have b3 := wf_bounds w3
  obtain ⟨a4, len4, cap4, rfl⟩ := okWide_slice Try.underlying22 (hval 4 22 v4 rfl rfl)
  have k4 := h4
  have lt4 : ∀ x ∈ p4, x.block < W.heap.size := by obtain ⟨m, hm⟩ := k4; exact DataW.trod_lt m _ _ _ hm
  obtain ⟨l4, hl4, hr4, hc4, hcm4, hwf4⟩ := open_scraps h4
  unfold maxLen at hcm4
  clear hA0 hval0
  refine (texts_walk Ax _ cx Ay _ cy a1 len1 cap1 a2 a3 a4 len4 cap4 W lx ly l1 l4 rfl hrx hcx hmx rfl hry hcy hmy hl1 hr1 (by omega) (bounds_scraps hwf1) b2.1 b2.2 b3.1 b3.2 hl4 hr4 (by omega) (bounds_scraps hwf4)).mono fun e W' ⟨he, bel⟩ => ?_
  subst he
  exact ⟨_, rfl, _, _, _, [], _, [], hW', trodAll_mk1 (shut_bool Try.underlying4 _), (trodAll_cons_mk (Below.trod laidOut (by kernel_rfl) (of_decide_eq_true (by kernel_rfl)) k0 bel lt0) (trodAll_cons_mk (Below.trod laidOut (by kernel_rfl) (of_decide_eq_true (by kernel_rfl)) k1 bel lt1) (trodAll_cons_mk (shut_int Try.underlying3 w2) (trodAll_cons_mk (shut_int Try.underlying3 w3) (trodAll_cons_mk (Below.trod laidOut (by kernel_rfl) (of_decide_eq_true (by kernel_rfl)) k4 bel lt4) trodAll_mk0))))), rfl, bel.frame _, fun h => by cases h⟩

theorem over : Rows.scrapTextsRow.holds Try.pinned (OpenSpec.ofChange Rows.scrapTextsSpec) :=
  OpenClaim.holds_of_wide 4 Try.f4 rfl rfl rfl rfl rfl rfl rfl ⟨rfl, rfl, rfl, rfl, rfl⟩ rfl rfl rfl rfl rfl (by kernel_rfl) Try.func4 (by kernel_rfl)
    (of_decide_eq_true (by kernel_rfl)) (by unfold Func.isWrapper; first | (rw [if_pos (by decide +kernel)]; kernel_rfl) | (rw [if_neg (by decide +kernel)]; exact ⟨rfl, rfl⟩))
    (fun os started H enc _ => lifted os started H enc)
end Go.Proofs.Ytlgablhlpcmcaaa.scrapTexts
namespace Go.Proofs.Ytlgablhlpcmcaaa
theorem scrapTexts_holds : Rows.ScrapTextsSaid := scrapTexts.over
#print axioms scrapTexts_holds
end Go.Proofs.Ytlgablhlpcmcaaa

/-
  What Pick answers, for all numbers; what few answers: at most forty scraps, all of whose bytes are there (sources of at most 3000 bytes).
-/
import Derived.Test.YtlgablhlpcmcaaaLawf
import Derived.Test.YtlgablhlpcmcaaaPlc
namespace Go.Proofs.Ytlgablhlpcmcaaa
open Go.RowKit
theorem pick_tmod (x n : Int) (h : 1 ≤ n) : (x.tmod n < 0 → x.tmod n + n = x % n) ∧ (0 ≤ x.tmod n → x.tmod n = x % n) := by
  have h1 := Int.mul_tdiv_add_tmod x n
  have h2 : x.tmod n < n := Int.tmod_lt_of_pos x (by omega)
  have h3 : -n < x.tmod n := by
    by_cases hx : 0 ≤ x
    · have := Int.tmod_nonneg n hx; omega
    · have h4 := Int.tmod_lt_of_pos (-x) (show 0 < n by omega)
      rw [Int.neg_tmod] at h4
      omega
  generalize hr : x.tmod n = r at *
  generalize x.tdiv n = q at *
  constructor
  · intro hneg
    have e : x = (r + n) + n * (q - 1) := by rw [← h1, Int.mul_sub]; omega
    rw [e, Int.add_mul_emod_self_left, Int.emod_eq_of_lt (by omega) (by omega)]
  · intro hpos
    have e : x = r + n * q := by omega
    rw [e, Int.add_mul_emod_self_left, Int.emod_eq_of_lt hpos h2]
theorem Pick_any (x n : Int) (w : World) (hn : 1 ≤ n) (hn1 : n ≤ 9223372036854775807) (x0 : -9223372036854775808 ≤ x) (x1 : x ≤ 9223372036854775807) :
    Calls Try.prog 19 #[.int .i64 x, .int .i64 n] w fun e w' => e = .returned (.int .i64 (x % n)) ∧ w = w' := by
  have H := Lib.hid (pick_tmod x n hn)
  have hlt := Int.emod_lt_of_pos x (show 0 < n by omega)
  by_cases hx : 0 ≤ x
  · have h0 := Int.emod_nonneg x (show n ≠ 0 by omega)
    go_enter Try.func19, Try.ntmps19
    go_wp2_with fail
    go_ret
    exact ⟨rfl, rfl⟩
  · have h3 : -n < x.tmod n := by
      have h4 := Int.tmod_lt_of_pos (-x) (show 0 < n by omega)
      rw [Int.neg_tmod] at h4
      omega
    have h5 : x.tmod n < n := Int.tmod_lt_of_pos x (by omega)
    clear hlt
    by_cases hr : x.tmod n < 0
    · have E := Lib.hid (H.out.1 hr)
      go_enter Try.func19, Try.ntmps19
      go_wp2_with fail
      go_ret
      exact ⟨ret_int E.out, rfl⟩
    · have E := Lib.hid (H.out.2 (by omega))
      go_enter Try.func19, Try.ntmps19
      go_wp2_with fail
      go_ret
      exact ⟨ret_int E.out, rfl⟩

/-- The sources, as the law ScrapTexts makes them. -/
def Srcs (srcs : List (List Int)) : Prop := ∃ a b : List Int, srcs = [a, b] ∧ a.length ≤ 3000 ∧ b.length ≤ 3000
def FewP (srcs : List (List Int)) (l : List S) : Prop := Hass srcs l ∧ (∀ s ∈ l, 0 ≤ s.src ∧ s.src ≤ 1 ∧ 0 ≤ s.at_ ∧ 1 ≤ s.len)
theorem Srcs.len {srcs : List (List Int)} (h : Srcs srcs) (s : S) : (srcOf srcs s).length ≤ 3000 := by
  obtain ⟨a, b, rfl, ha, hb⟩ := h
  unfold srcOf
  match s.src.toNat with
  | 0 => exact ha
  | 1 => exact hb
  | k+2 => simp
theorem FewP.may {srcs : List (List Int)} {l : List S} (h : FewP srcs l) (hs : Srcs srcs) (hl : l.length ≤ 40) : MayP l ∧ tot l ≤ 120000 := by
  have ho : ∀ s ∈ l, okS s ∧ s.len ≤ 3000 := by
    intro s hm
    have h1 := h.1 s hm
    have h2 := h.2 s hm
    have h3 := hs.len s
    unfold Has at h1
    unfold okS
    omega
  have ht : ∀ l : List S, (∀ s ∈ l, s.len ≤ 3000) → tot l ≤ 3000 * l.length := by
    intro l
    induction l with
    | nil => intro _; simp [tot]
    | cons a l ih =>
      intro h
      have h1 := h a (by simp)
      have h2 := ih (fun s hs => h s (by simp [hs]))
      simp only [tot, List.length_cons]
      omega
  have h4 := ht l (fun s hm => (ho s hm).2)
  exact ⟨⟨fun s hm => (ho s hm).1, by omega⟩, by omega⟩
set_option maxHeartbeats 800000 in
theorem few_any (A : Option Addr) (len cap : Nat) (As : Option Addr) (w : World) (l : List S) (srcs : List (List Int)) (hlen : l.length = len) (hr : Rd w w.heap.size A l) (_hm : len ≤ 9223372036854775807)
    (hwf : ∀ s ∈ l, -9223372036854775808 ≤ s.src ∧ s.src ≤ 9223372036854775807 ∧ -9223372036854775808 ≤ s.at_ ∧ s.at_ ≤ 9223372036854775807 ∧ -9223372036854775808 ≤ s.len ∧ s.len ≤ 9223372036854775807)
    (hS : Srcs srcs) (hrs : RdBL w w.heap.size As srcs) :
    Calls Try.prog 16 #[.slice A len cap, .slice As 2 2] w fun e w' => (∃ L A' n c, e = .returned (.slice A' n c) ∧ n ≤ 40 ∧ FewP srcs L ∧ Own w' w.heap.size A' n c L) ∧ Below w.heap.size w w' := by
  obtain ⟨i0, hi, hz0, hz1, hz2⟩ := info_parts info31
  have H := Lib.hid hlen; have HR := Lib.hid hr; have HWF := Lib.hid hwf; have HS := Lib.hid hS; have HRS := Lib.hid hrs
  clear hlen hr hwf hS hrs
  go_enter Try.func16, Try.ntmps16
  go_wp2_with fail
  generalize hBB : w.heap.size = BB at *
  have HB := Lib.hid hBB; clear hBB
  go_loopw [5, 6] (fun v i wr => ∃ k L A' n c, k ≤ len ∧ k ≤ 40 ∧ i = .int .i64 (k : Nat) ∧ v = .slice A' n c ∧ n ≤ k ∧ Hid (FewP srcs L) ∧ Own wr BB A' n c L ∧ Below BB w wr) (fun _ i _ => len - (intOf i).toNat)
  case atStart => exact ⟨0, [], _, _, _, Nat.zero_le _, by omega, rfl, rfl, Nat.le_refl _, Lib.hid ⟨Hass.nil _, fun s hs => by simp at hs⟩, Own.nil _ _, Below.refl _ _⟩
  case round =>
    obtain ⟨k, L, A', n, c, hk, hk40, rfl, rfl, hnk, hfew, hown, hb⟩ := hrel
    have HO := Lib.hid hown
    have HBel := Lib.hid hb
    by_cases hlt : k < len ∧ k < 40
    · obtain ⟨hlt1, hlt2⟩ := hlt
      obtain ⟨s, hs⟩ := get_some l k (by have := H.out; omega)
      obtain ⟨f0, f1, f2, f3, f4, f5⟩ := HWF.out s (List.mem_of_getElem? hs)
      obtain ⟨b, off, rfl, hb', h0, h1, h2⟩ := HR.out.below hb (by omega) k s hs
      have hsz : BB ≤ wr.heap.size := by have := hb.size; have := HB.out; omega
      clear hs hown hb
      go_wp2_with fail
      refine (Pick_any s.src 2 _ (by omega) (by omega) f0 f1).mono ?_
      rintro e w2 ⟨rfl, rfl⟩
      have p0 := Int.emod_nonneg s.src (show (2 : Int) ≠ 0 by omega)
      have p1 := Int.emod_lt_of_pos s.src (show (0 : Int) < 2 by omega)
      generalize s.src % 2 = σ at *
      obtain ⟨σ, rfl⟩ := Int.eq_ofNat_of_zero_le p0
      obtain ⟨t, ht⟩ := get_some srcs σ (by obtain ⟨a, b, hab, _⟩ := HS.out; rw [hab]; simp; omega)
      obtain ⟨b2, off2, Ak, ck, rfl, hb2, c0, c1, c2, hrb⟩ := HRS.out.below HBel.out (by omega) σ t ht
      have hsrc : srcOf srcs ⟨(σ : Int), 0, 0⟩ = t := by unfold srcOf; simp only [Int.toNat_natCast]; rw [List.getD_eq_getElem?_getD, ht]; rfl
      have ht3 := HS.out.len ⟨(σ : Int), 0, 0⟩
      rw [hsrc] at ht3
      have HSrc := Lib.hid hsrc
      clear hrb ht hsrc
      by_cases ht0 : t.length = 0
      · have d0 : ((t.length : Int) == 0) = true := by simpa using ht0
        clear ht0
        go_wp2_with fail
        go_roundw
        case rel => exact ⟨k+1, L, A', n, c, by omega, by omega, by go_num, rfl, by omega, hfew, HO.out, HBel.out⟩
        case measure => simp [intOf]; omega
      · have d0 : ((t.length : Int) == 0) = false := by simp; intro h; rw [h] at ht0; exact ht0 rfl
        have d1 : 1 ≤ t.length := by omega
        clear ht0
        go_wp2_with fail
        refine (Pick_any s.at_ _ _ (by omega) (by omega) f2 f3).mono ?_
        rintro e w3 ⟨rfl, rfl⟩
        have q0 := Int.emod_nonneg s.at_ (show (t.length : Int) ≠ 0 by omega)
        have q1 := Int.emod_lt_of_pos s.at_ (show (0 : Int) < t.length by omega)
        generalize s.at_ % (t.length : Int) = α at *
        go_wp2_with fail
        refine (Pick_any s.len _ _ (by omega) (by omega) f4 f5).mono ?_
        rintro e w4 ⟨rfl, rfl⟩
        have r0 := Int.emod_nonneg s.len (show (t.length : Int) - α ≠ 0 by omega)
        have r1 := Int.emod_lt_of_pos s.len (show (0 : Int) < t.length - α by omega)
        generalize s.len % ((t.length : Int) - α) = μ at *
        go_wp2_with (at_builtin; refine wpList_append_own _ rfl _ _ 22 rfl BB 31 i0 _ 3 24 Try.underlying22 hi hz0 hz1 hz2 rfl (by decide) _ _ _ rfl (HO.out.alloc _).2 ⟨wr.heap.size, 0, none⟩ 1 1 (cells [⟨(σ : Int), α, 1 + μ⟩]) rfl rfl (new_one _ ⟨(σ : Int), α, 1 + μ⟩ _ rfl) (cells_one_cell _) (by unfold maxLen; omega) (by omega) (by simp; omega) ?_)
        intro v' w1 hown' hgrow _
        obtain ⟨⟨A'', c'', hv, hown2⟩, hb3, hst, hz3, hcl⟩ := app_step HO.out HBel.out hsz ((Below.refl _ _).alloc (Nat.le_refl _) _) hown' hgrow
        have hfew2 : FewP srcs (L ++ [⟨(σ : Int), α, 1 + μ⟩]) := by
          refine ⟨hfew.out.1.append (Hass.one ?_), ?_⟩
          · have e : srcOf srcs ⟨(σ : Int), α, 1 + μ⟩ = t := HSrc.out
            unfold Has
            rw [e]
            obtain ⟨a, b, hab, _⟩ := HS.out
            rw [hab]
            simp only [List.length_cons, List.length_nil]
            omega
          · intro u hu
            rcases List.mem_append.1 hu with h | h
            · exact hfew.out.2 u h
            · simp at h; subst h; simp only; omega
        have HF2 := Lib.hid hfew2
        rw [hv]
        clear hcl hgrow hown' hv hfew2
        go_wp2_with fail
        go_roundw
        case rel => exact ⟨k+1, _, A'', n+1, c'', by omega, by omega, by go_num, rfl, by omega, HF2, hown2, hb3⟩
        case measure => simp [intOf]; omega
    · go_wp2_with fail
      all_goals
        go_ret
        obtain rfl := HB.out
        exact ⟨⟨L, _, _, _, rfl, by omega, hfew.out, HO.out⟩, HBel.out⟩
end Go.Proofs.Ytlgablhlpcmcaaa

/-
  An index of bytes and its disk, as the laws make them; whole; the document's example.
-/
import Derived.Test.YtpnajbpakeimiaaIWalkc
import Derived.Test.YtpnajbpakeimiaaIWalkd
import Derived.Test.YtpnajbpakeimiaaRWalki
namespace Go.Proofs.Ytpnajbpakeimiaa
open Go.RowKit
/-- An index and its disk, all made behind B. -/
structure Live (B : Nat) (w : World) (b : List Int) (xb cb db mb fb : Nat) (S : Nat → Prop) (d : Dv) (rd : Int) (n : Nat) (u : Int → Option Int) : Prop where
  dk : Dk w db mb d 0 0 S (some fb) none 0 0 []
  f : d.f = some ⟨b, b, true⟩
  ix : IxAt w xb cb db b.length rd n u
  good : Good b u
  xS : ¬ S xb
  cS : ¬ S cb
  low : ∀ g, S g → B ≤ g
  xB : B ≤ xb
  cB : B ≤ cb
section
variable {B : Nat} {w : World} {b : List Int} {xb cb db mb fb : Nat} {S : Nat → Prop} {d : Dv} {rd : Int} {n : Nat} {u : Int → Option Int}
theorem Live.up {w' : World} (h : Live B w b xb cb db mb fb S d rd n u) (hb : Below w.heap.size w w') : Live B w' b xb cb db mb fb S d rd n u :=
  ⟨h.dk.up hb, h.f, h.ix.up hb, h.good, h.xS, h.cS, h.low, h.xB, h.cB⟩
theorem Live.went {w' : World} (h : Live B w b xb cb db mb fb S d rd n u) (hf : Fr w w' (Ix xb cb) (Ix xb cb)) {rd' : Int} {n' : Nat} {u' : Int → Option Int} (hi : IxAt w' xb cb db b.length rd' n' u') (hg : Good b u') : Live B w' b xb cb db mb fb S d rd' n' u' :=
  ⟨h.dk.keep hf.size (fun g hg => (hf.beside g (h.dk.lt g hg) (fun e => e.elim (fun e => h.xS (e ▸ hg)) (fun e => h.cS (e ▸ hg)))).1), h.f, hi, hg, h.xS, h.cS, h.low, h.xB, h.cB⟩
theorem Live.below {w' : World} (h : Live B w b xb cb db mb fb S d rd n u) (hf : Fr w w' (Ix xb cb) (Ix xb cb)) (hB : B ≤ w.heap.size) : Below B w w' :=
  hf.below hB (fun g hg e => e.elim (fun e => by have := h.xB; omega) (fun e => by have := h.cB; omega))
theorem Live.keys (h : Live B w b xb cb db mb fb S d rd n u) (hl : b.length ≤ 1048576) : ∀ j, (u j).isSome = true → 0 ≤ j ∧ j ≤ 1048576 := fun j hj => by
  obtain ⟨v, hv⟩ := Option.isSome_iff_exists.1 hj
  obtain ⟨k, rfl, hk, _⟩ := h.good j v hv
  omega
theorem LCount (w : World) (h : Live B w b xb cb db mb fb S d rd n u) (hd : d.down = false) (hB : Byt b) (hl : b.length ≤ 1048576) (fr to_ : Nat) (h1 : fr ≤ to_) (h2 : to_ ≤ b.length) (hr0 : 0 ≤ rd) (hr1 : rd ≤ 549755813888) (hn : n ≤ 549755813888) (hBs : B ≤ w.heap.size) :
    Calls Try.prog 9 #[.pointer (some ⟨xb, 0, none⟩), .int .i64 fr, .int .i64 to_] w fun e w' => e = .returned (.tuple #[.int .i64 (cnt (seg b fr to_)), .int .i64 0]) ∧
      Live B w' b xb cb db mb fb S d (run b to_ (to_ - fr) fr (u, rd)).2 (n + (to_ - fr)) (run b to_ (to_ - fr) fr (u, rd)).1 ∧ Below B w w' := by
  refine (Count_live w h.dk hd ⟨b, b, true⟩ h.f h.ix h.xS h.cS hB h.good fr to_ h1 h2 hr0 hr1 hl hn).mono ?_
  rintro e w' ⟨rfl, hi, hg, hf⟩
  exact ⟨rfl, h.went hf hi hg, h.below hf hBs⟩
end
theorem run_rd (b : List Int) (to_ : Nat) (hs : to_ ≤ b.length) : ∀ (f fr : Nat) (s : (Int → Option Int) × Int), s.2 ≤ (run b to_ f fr s).2 ∧ (run b to_ f fr s).2 ≤ s.2 + (to_ - fr : Nat) := by
  intro f
  induction f with
  | zero => intro fr s; simp only [run]; omega
  | succ f ih =>
    intro fr s
    unfold run
    by_cases hlt : fr < to_
    · rw [if_pos hlt]
      obtain ⟨n1, n2, n3, n4⟩ := nxt_gt hlt hs
      split
      · split
        · have := ih (nxt b.length to_ fr) s; omega
        · have := ih (nxt b.length to_ fr) (updN s.1 (fr / 64 : Nat) (cnt (seg b fr (nxt b.length to_ fr))), s.2 + (nxt b.length to_ fr - fr : Nat)); simp only at this; omega
      · have := ih (nxt b.length to_ fr) (s.1, s.2 + (nxt b.length to_ fr - fr : Nat)); simp only at this; omega
    · rw [if_neg hlt]; omega
theorem of_any (w : World) (A : Option Addr) (m c : Nat) (b : List Int) (hlen : b.length = m) (hr : RdB w w.heap.size A b) (hno : A = none → m = 0 ∧ c = 0) (hm : m ≤ 1048576) :
    Calls Try.prog 8 #[.slice A m c] w fun e w' => (∃ xb cb db mb fb S, e = .returned (.tuple #[.pointer (some ⟨xb, 0, none⟩), .pointer (some ⟨db, 0, none⟩)]) ∧ Live w.heap.size w' b xb cb db mb fb S { nu 2097152 with f := some ⟨b, b, true⟩ } 0 0 (fun _ => none)) ∧ Below w.heap.size w w' := by
  have HLEN := Lib.hid hlen; have HR := Lib.hid hr; have HNO := Lib.hid hno
  clear hlen hr hno
  go_enter Try.func8, Try.ntmps8
  go_wp2_with fail
  refine (New_any w 2097152 (by omega) (by omega) 0).mono ?_
  rintro e w1 ⟨db, mb, rfl, hd1, l1, l2, hb1⟩
  have HD1 := Lib.hid hd1
  have HB1 := Lib.hid hb1
  clear hd1 hb1
  go_wp2_with fail
  refine (Load_new w1 HD1.out A m c b HLEN.out (HR.out.up HB1.out) HNO.out (fun a e hne hx => ?_) hm (by show (m : Int) ≤ 2097152; omega)).mono ?_
  · cases b with
    | nil => exact absurd rfl hne
    | cons x b =>
      obtain ⟨bb, off, e2, hbb, _⟩ := HR.out 0 x rfl
      rw [e] at e2; injection e2 with e2; subst e2
      simp only at hx
      rcases hx with hx | hx <;> omega
  rintro e w2 ⟨rfl, fb, S', hd2, hf2⟩
  have HD2 := Lib.hid hd2
  have HF2 := Lib.hid hf2
  clear hd2 hf2
  go_wp2_with fail
  refine (New_index w2 db (m : Int) (by omega) (by omega)).mono ?_
  rintro e w3 ⟨⟨xb, cb, rfl, hi, hx, hc⟩, hb3⟩
  have HB3 := Lib.hid hb3
  have HI := Lib.hid hi
  clear hb3 hi
  go_wp2_with fail
  go_ret2
  have hs1 := HB1.out.size
  have hs2 := HF2.out.size
  have hlow : ∀ g, g < w.heap.size → ¬ (g = mb ∨ g = db) := fun g hg e => by omega
  refine ⟨⟨xb, cb, db, mb, fb, S', rfl, ⟨HD2.out.up HB3.out, rfl, by have := HI.out; rwa [← HLEN.out] at this, Good.none b, fun hS => by have := HD2.out.lt _ hS; omega, fun hS => by have := HD2.out.lt _ hS; omega, fun g hS => ?_, by omega, by omega⟩⟩, ?_⟩
  · by_cases hlt : g < w.heap.size
    · exact absurd hS (HF2.out.beside g (by omega) (hlow g hlt)).2
    · omega
  · exact HB1.out.trans ((HF2.out.below hs1 hlow).trans (HB3.out.mono (by omega)))
theorem agg2 {a b x y : Int} (h1 : a = x) (h2 : b = y) : Ending.returned (.agg #[.int .i64 a, .int .i64 b]) = .returned (.agg #[.int .i64 x, .int .i64 y]) := by rw [h1, h2]
theorem whole_any (w : World) (fr to_ size : Nat) (h1 : fr ≤ 1099511627776) (h2 : to_ ≤ 1099511627776) :
    Calls Try.prog 11 #[.int .i64 fr, .int .i64 to_, .int .i64 size] w fun e w' => e = .returned (.agg #[.int .i64 ((fr + 63) / 64 : Nat), .int .i64 (if to_ = size then (to_ + 63) / 64 else to_ / 64 : Nat)]) ∧ Below w.heap.size w w' := by
  have q1 : IntKind.i64.wrap ((fr : Int) + 63) = (fr : Int) + 63 := IntWalk.i64_in _ (by omega)
  have q2 : IntKind.i64.wrap ((to_ : Int) + 63) = (to_ : Int) + 63 := IntWalk.i64_in _ (by omega)
  have e0 : ∀ a b : Int, (w.alloc (.cells #[.int .i64 a, .int .i64 b] 36)).cell? ⟨w.heap.size, 0, none⟩ = some (.int .i64 a) := fun a b => by rw [cell_new]; rfl
  have e1 : ∀ a b : Int, (w.alloc (.cells #[.int .i64 a, .int .i64 b] 36)).cell? ⟨w.heap.size, 1, none⟩ = some (.int .i64 b) := fun a b => by rw [cell_new]; rfl
  by_cases hc : to_ = size
  · have f1 : ((to_ : Int) == (size : Int)) = true := by rw [beq_iff_eq]; omega
    rw [if_pos hc]
    clear hc
    go_enter Try.func11, Try.ntmps11
    go_wp2_with fail
    refine bodyPost_ret (v := .agg #[.int .i64 (((fr : Int) + 63) / 64), .int .i64 (((to_ : Int) + 63) / 64)]) (by simp [results, Try.results11, go_sem, e0, e1]) rfl ⟨agg2 (by omega) (by omega), (Below.refl _ _).alloc (Nat.le_refl _) _⟩
  · have f1 : ((to_ : Int) == (size : Int)) = false := by rw [beq_eq_false_iff_ne]; omega
    rw [if_neg hc]
    clear hc
    go_enter Try.func11, Try.ntmps11
    go_wp2_with fail
    refine bodyPost_ret (v := .agg #[.int .i64 (((fr : Int) + 63) / 64), .int .i64 ((to_ : Int) / 64)]) (by simp [results, Try.results11, go_sem, e0, e1]) rfl ⟨agg2 (by omega) (by omega), (Below.refl _ _).alloc (Nat.le_refl _) _⟩
/-- The example's bytes. -/
def b0 : List Int := ((List.replicate 200 (0 : Int)).set 70 10).set 199 10
theorem b0_len : b0.length = 200 := by unfold b0; rw [List.length_set, List.length_set, List.length_replicate]
theorem b0_byt : Byt b0 := by
  intro n hn
  have : n = 0 ∨ n = 10 := by
    rcases List.mem_or_eq_of_mem_set hn with h | h
    · rcases List.mem_or_eq_of_mem_set h with h | h
      · exact .inl (List.eq_of_mem_replicate h)
      · exact .inr h
    · exact .inr h
  omega
theorem make_bytes (n : Nat) (N : Int) (hN : N = (n : Int)) (hn : n ≤ 1048576) : ∃ Z : Array Value, (∀ k, k < n → Z[k]? = some (.int .u8 0)) ∧ ∀ W : World, (Instr.makeSlice 22 (.int .i64 N) (.int .i64 N)).run Try.prog W = .ok (.slice (some ⟨W.heap.size, 0, none⟩) n n) (W.alloc (.cells Z 5)) := by
  subst hN
  obtain ⟨i0, hi, hz0, hz1, hz2⟩ := info_parts info5
  refine ⟨madeCells (Value.int .u8 0).cells (n * 1), ?_, fun W => ?_⟩
  · intro k hk
    simp [madeCells, hk, Value.cells, Nat.mod_one]
  · have h := run_makeSlice (P := Try.prog) (w := W) 22 5 i0 (.int .u8 0) (by kernel_rfl) hi hz0 .i64 .i64 (n : Int) (n : Int) (by omega) (by omega) (by rw [hz1]; simp; omega) (by rw [hz2]; omega) (by omega)
    rw [hz1] at h
    simpa using h
theorem rd_b0 (w : World) (Z : Array Value) (hZ : ∀ k, k < 200 → Z[k]? = some (.int .u8 0)) (W : World) (hW : W = ((w.alloc (.cells Z 5)).setCell ⟨w.heap.size, 70, none⟩ (.int .u8 10)).setCell ⟨w.heap.size, 199, none⟩ (.int .u8 10)) :
    RdB W W.heap.size (some ⟨w.heap.size, 0, none⟩) b0 := by
  subst hW
  intro k v hv
  have hk : k < 200 := (List.getElem?_eq_some_iff.1 hv).1
  refine ⟨w.heap.size, 0, rfl, by simp, ?_⟩
  have hc : ∀ j, j < 200 → (w.alloc (.cells Z 5)).cell? ⟨w.heap.size, j, none⟩ = some (.int .u8 0) := fun j hj => by rw [cell_new]; exact hZ j hj
  have o : ∀ (W : World) (i j : Nat) (x : Value), i ≠ j → (W.setCell ⟨w.heap.size, i, none⟩ x).cell? ⟨w.heap.size, j, none⟩ = W.cell? ⟨w.heap.size, j, none⟩ := fun W i j x h => World.cell?_setCell_other _ _ _ _ (by intro hh; injection hh with _ h2 _; omega)
  rw [Nat.zero_add]
  by_cases h1 : k = 199
  · subst h1
    have : v = 10 := by have e : b0[199]? = some 10 := rfl; rw [e] at hv; injection hv with hv; exact hv.symm
    subst this
    exact World.cell?_setCell_same _ _ _ ((o _ 70 199 _ (by decide)).trans (hc 199 (by omega)))
  · rw [o _ 199 k _ (fun e => h1 e.symm)]
    by_cases h2 : k = 70
    · subst h2
      have : v = 10 := by have e : b0[70]? = some 10 := rfl; rw [e] at hv; injection hv with hv; exact hv.symm
      subst this
      exact World.cell?_setCell_same _ _ _ (hc 70 (by omega))
    · rw [o _ 70 k _ (fun e => h2 e.symm), hc k hk]
      unfold b0 at hv
      rw [List.getElem?_set_ne (fun e => h1 e.symm), List.getElem?_set_ne (fun e => h2 e.symm), List.getElem?_replicate_of_lt hk] at hv
      injection hv with hv
      subst hv; rfl
def s1 : (Int → Option Int) × Int := run b0 200 190 10 (fun _ => none, 0)
def s2 : (Int → Option Int) × Int := run b0 200 136 64 s1
theorem s1_rd : s1.2 = 190 := by kernel_rfl
theorem s2_rd : s2.2 = 190 := by kernel_rfl
theorem s12_cnt : cnt (seg b0 10 200) = 2 ∧ cnt (seg b0 64 200) = 2 := ⟨by kernel_rfl, by kernel_rfl⟩
theorem s2_keys (c : Nat) : (s2.1 c).isSome = true ↔ 1 ≤ c ∧ c < 4 := by
  unfold s2
  rw [run_keys b0 200 (by rw [b0_len]; omega) 136 64 s1 (by omega) c]
  unfold s1
  rw [run_keys b0 200 (by rw [b0_len]; omega) 190 10 _ (by omega) c, b0_len]
  simp
  omega
theorem s2_is {l : List R} (h : Is l (fun x => 0 ≤ x ∧ (s2.1 x).isSome = true)) : l = [(1, 4)] := by
  refine h.uniq (p' := fun x => 1 ≤ x ∧ x < 4) ⟨⟨by decide, by decide, trivial⟩, fun x => in_one _ _⟩ fun x => ?_
  constructor
  · rintro ⟨h0, h1⟩
    obtain ⟨c, rfl⟩ := Int.eq_ofNat_of_zero_le h0
    have := (s2_keys c).1 h1
    omega
  · intro h
    obtain ⟨c, rfl⟩ := Int.eq_ofNat_of_zero_le (show 0 ≤ x by omega)
    exact ⟨by omega, (s2_keys c).2 (by omega)⟩
end Go.Proofs.Ytpnajbpakeimiaa

/-
  The law's state in memory; its read.
-/
import Derived.Test.YtlplhllcohoeaaaTpc
namespace Go.Proofs.Ytlplhllcohoeaaa
open Go.RowKit
theorem Tp.keep {B : Nat} {w w' : World} {db tb : Nat} {room : Int} {N : Nat} {dn : Bool} {l sf : List Int} {T : Nat → Prop} (h : Tp B w db tb room N dn l sf T) (hs : w.heap.size ≤ w'.heap.size) (hk : ∀ g, T g → w'.heap[g]? = w.heap[g]?) : Tp B w' db tb room N dn l sf T := by
  obtain ⟨mb, d, S, F, Ap, np, cp, ps, h1, h2, rfl, h3⟩ := h
  exact ⟨mb, d, S, F, Ap, np, cp, ps, ⟨h1.dk.keep hs fun g hg => hk g (.inl hg), (hk tb (.inr rfl)).trans h1.tl, h1.nt, h1.rm, h1.ll, h1.r3, h1.st⟩, h2, rfl, h3⟩
theorem Tp.low {B : Nat} {w : World} {db tb : Nat} {room : Int} {N : Nat} {dn : Bool} {l sf : List Int} {T : Nat → Prop} (h : Tp B w db tb room N dn l sf T) : ∀ g, T g → B ≤ g := by
  obtain ⟨mb, d, S, F, Ap, np, cp, ps, h1, h2, rfl, h3⟩ := h
  exact h3
/-- A row of the law's own, none of the disk's. -/
def RowF (w : World) (B : Nat) (T : Nat → Prop) (A : Option Addr) (c : Nat) (l : List Int) : Prop := OwnB w B A l.length c l ∧ ∀ a, A = some a → ¬ T a.block
theorem OwnB.blt {w : World} {base : Nat} {A : Option Addr} {n c : Nat} {l : List Int} (h : OwnB w base A n c l) : ∀ a, A = some a → a.block < w.heap.size := by
  intro a e
  subst e
  rcases h.2.2 with ⟨hv, _⟩ | ⟨g, cap, cur, hv, _, hg, _⟩
  · cases hv
  · injection hv with ha _ _
    injection ha with ha
    subst ha
    exact (Array.getElem?_eq_some_iff.1 hg).1
theorem RowF.fr {w w' : World} {B : Nat} {T T' : Nat → Prop} {A : Option Addr} {c : Nat} {l : List Int} (h : RowF w B T A c l) (hf : Fr w w' T T') : RowF w' B T' A c l :=
  ⟨h.1.keepS fun a e => (hf.beside _ (h.1.blt a e) (h.2 a e)).1, fun a e => (hf.beside _ (h.1.blt a e) (h.2 a e)).2⟩
/-- The state: the disk, the tail, what there is, what is safe. -/
structure Sv (B : Nat) (w : World) (sb db tb : Nat) (room : Int) (N : Nat) (dn : Bool) (l sf : List Int) (T : Nat → Prop) (Ah : Option Addr) (ch : Nat) (As : Option Addr) (cs : Nat) : Prop where
  head : w.heap[sb]? = some (.cells #[.pointer (some ⟨db, 0, none⟩), .pointer (some ⟨tb, 0, none⟩), .slice Ah l.length ch, .slice As sf.length cs] 49 (0, 0))
  tp : Tp B w db tb room N dn l sf T
  ns : ¬ T sb
  bs : B ≤ sb
  hv : RowF w B T Ah ch l
  sv : RowF w B T As cs sf
section
variable {B : Nat} {w w' : World} {sb db tb : Nat} {room : Int} {N : Nat} {dn : Bool} {l sf : List Int} {T : Nat → Prop} {Ah : Option Addr} {ch : Nat} {As : Option Addr} {cs : Nat}
theorem Sv.up (h : Sv B w sb db tb room N dn l sf T Ah ch As cs) (hb : Below w.heap.size w w') : Sv B w' sb db tb room N dn l sf T Ah ch As cs :=
  ⟨(hb.block _ (Array.getElem?_eq_some_iff.1 h.head).1).trans h.head, h.tp.up hb, h.ns, h.bs, h.hv.fr (Fr.of_below hb), h.sv.fr (Fr.of_below hb)⟩
theorem Sv.lt (h : Sv B w sb db tb room N dn l sf T Ah ch As cs) : sb < w.heap.size := (Array.getElem?_eq_some_iff.1 h.head).1
theorem Sv.cells (h : Sv B w sb db tb room N dn l sf T Ah ch As cs) : w.cell? ⟨sb, 0, none⟩ = some (.pointer (some ⟨db, 0, none⟩)) ∧ w.cell? ⟨sb, 1, none⟩ = some (.pointer (some ⟨tb, 0, none⟩)) ∧ w.cell? ⟨sb, 2, none⟩ = some (.slice Ah l.length ch) ∧ w.cell? ⟨sb, 3, none⟩ = some (.slice As sf.length cs) :=
  ⟨cell_of_row _ _ 0 _ 49 (0, 0) h.head, cell_of_row _ _ 1 _ 49 (0, 0) h.head, cell_of_row _ _ 2 _ 49 (0, 0) h.head, cell_of_row _ _ 3 _ 49 (0, 0) h.head⟩
theorem Sv.froz (h : Sv B w sb db tb room N dn l sf T Ah ch As cs) (j : Nat) : w.frozen? ⟨sb, j, none⟩ = false := by
  simp [World.frozen?, h.head]
theorem Sv.drewN (h : Sv B w sb db tb room N dn l sf T Ah ch As cs) (n : Nat) : Sv B (w.drewN n) sb db tb room N dn l sf T Ah ch As cs := h.up (belowDrewN (Below.refl _ _) n)
theorem Sv.len (h : Sv B w sb db tb room N dn l sf T Ah ch As cs) : l.length ≤ 3000 ∧ sf.length ≤ l.length ∧ l.take sf.length = sf ∧ 0 ≤ room ∧ room ≤ 3000 := by
  have := h.tp.len
  refine ⟨by omega, this.2.2.1, this.2.2.2, by omega, this.2.1⟩
/-- read, where it asks for what there isn't. -/
theorem read_bad (h : Sv B w sb db tb room N dn l sf T Ah ch As cs) (x y : Int) (hx0 : -9223372036854775808 ≤ x) (hx1 : x ≤ 9223372036854775807) (hy0 : -9223372036854775808 ≤ y) (hy1 : y ≤ 9223372036854775807) (hn : ¬ Within l x y) :
    Calls Try.prog 23 #[.pointer (some ⟨sb, 0, none⟩), .int .i64 x, .int .i64 y] w fun e w' => e = .returned (.bool true) ∧ w = w' := by
  obtain ⟨c0, c1, c2, c3⟩ := h.cells
  have hl := h.len
  have HR := Lib.hid (h.tp.readBad x y hn)
  clear h
  have hsp : x < 0 ∨ (¬ x < 0 ∧ y < 0) ∨ (¬ x < 0 ∧ ¬ y < 0 ∧ (l.length : Int) < x) ∨ (¬ x < 0 ∧ ¬ y < 0 ∧ ¬ (l.length : Int) < x ∧ (l.length : Int) - x < y) := by
    unfold Within at hn; omega
  clear hn
  rcases hsp with h1 | ⟨h1, h2⟩ | ⟨h1, h2, h3⟩ | ⟨h1, h2, h3, h4⟩
  · go_enter Try.func23, Try.ntmps23
    go_wp2_with fail
    refine HR.out.mono ?_
    rintro e w1 ⟨rfl, rfl⟩
    go_wp2_with fail
    go_ret
    exact ⟨rfl, rfl⟩
  · go_enter Try.func23, Try.ntmps23
    go_wp2_with fail
    refine HR.out.mono ?_
    rintro e w1 ⟨rfl, rfl⟩
    go_wp2_with fail
    go_ret
    exact ⟨rfl, rfl⟩
  · go_enter Try.func23, Try.ntmps23
    go_wp2_with fail
    refine HR.out.mono ?_
    rintro e w1 ⟨rfl, rfl⟩
    go_wp2_with fail
    go_ret
    exact ⟨rfl, rfl⟩
  · have q1 : IntKind.i64.wrap ((l.length : Int) - x) = (l.length : Int) - x := IntWalk.i64_in _ (by omega)
    go_enter Try.func23, Try.ntmps23
    go_wp2_with fail
    refine HR.out.mono ?_
    rintro e w1 ⟨rfl, rfl⟩
    go_wp2_with fail
    go_ret
    exact ⟨rfl, rfl⟩
/-- read, where the power is off. -/
theorem read_down (h : Sv B w sb db tb room N true l sf T Ah ch As cs) (x y : Nat) (hn : Within l x y) (hy : 0 < y) :
    Calls Try.prog 23 #[.pointer (some ⟨sb, 0, none⟩), .int .i64 x, .int .i64 y] w fun e w' => e = .returned (.bool true) ∧ w = w' := by
  obtain ⟨c0, c1, c2, c3⟩ := h.cells
  have hl := h.len
  have HR := Lib.hid (h.tp.readDown x y hn hy)
  have HD := Lib.hid h.tp.down
  clear h
  unfold Within at hn
  have h3 : ¬ (l.length : Int) < (x : Int) := by omega
  have h4 : ¬ (l.length : Int) - x < y := by omega
  have q1 : IntKind.i64.wrap ((l.length : Int) - x) = (l.length : Int) - x := IntWalk.i64_in _ (by omega)
  clear hn
  go_enter Try.func23, Try.ntmps23
  go_wp2_with fail
  refine HR.out.mono ?_
  rintro e w1 ⟨rfl, rfl⟩
  go_wp2_with fail
  refine HD.out.mono ?_
  rintro e w1 ⟨rfl, rfl⟩
  go_wp2_with fail
  go_ret
  exact ⟨rfl, rfl⟩
theorem row_stored {w : World} {B g n c : Nat} {l : List Int} (h : OwnB w B (some ⟨g, 0, none⟩) n c l) (j : Nat) (_hj : j < n) (u : Int) : OwnB (w.setCell ⟨g, j, none⟩ (.int .u8 u)) B (some ⟨g, 0, none⟩) n c (l.set j u) := by
  refine ⟨by rw [List.length_set]; exact h.1, ?_⟩
  have := (h.2.stored j (.int .u8 u)).1
  rwa [show (bcells l).set j (.int .u8 u) = bcells (l.set j u) from by unfold bcells; rw [List.map_set]] at this
set_option maxRecDepth 40000 in
set_option maxHeartbeats 4000000 in
/-- read, of what there is. -/
theorem read_ok (h : Sv B w sb db tb room N dn l sf T Ah ch As cs) (x y : Nat) (hn : Within l x y) (hy : 0 < y → dn = false) :
    Calls Try.prog 23 #[.pointer (some ⟨sb, 0, none⟩), .int .i64 x, .int .i64 y] w fun e w' => e = .returned (.bool true) ∧ Below w.heap.size w w' := by
  obtain ⟨c0, c1, c2, c3⟩ := h.cells
  have hl := h.len
  have HR := Lib.hid (h.tp.readOk x y hn hy)
  have HD := Lib.hid h.tp
  have HH := Lib.hid h
  have hcap := h.hv.1.cap
  have hown := h.hv.1
  have hsl := h.lt
  clear h
  unfold Within at hn
  have h3 : ¬ (l.length : Int) < (x : Int) := by omega
  have h4 : ¬ (l.length : Int) - x < y := by omega
  have q1 : IntKind.i64.wrap ((l.length : Int) - x) = (l.length : Int) - x := IntWalk.i64_in _ (by omega)
  have q2 : IntKind.i64.wrap ((x : Int) + y) = (x : Int) + y := IntWalk.i64_in _ (by omega)
  have k1 : (x : Int) ≤ (x : Int) + y := by omega
  have k2 : (x : Int) + y ≤ (ch : Int) := by omega
  have hsp : dn = false ∨ y = 0 := by
    by_cases h0 : 0 < y
    · exact .inl (hy h0)
    · exact .inr (by omega)
  have hlen : ((l.drop x).take y).length = y := by rw [List.length_take, List.length_drop]; omega
  have hR1 : ch = x → RdB w w.heap.size Ah ((l.drop x).take y) := fun e => by
    have : y = 0 := by omega
    subst this
    rw [List.take_zero]
    exact RdB.nil _ _ _
  have hR2 : RdB w w.heap.size (Option.map (fun a => a.add x) Ah) ((l.drop x).take y) := by
    by_cases hy0 : y = 0
    · subst hy0
      rw [List.take_zero]
      exact RdB.nil _ _ _
    · obtain ⟨g, rfl, _⟩ := hown.form (by omega)
      have := hown.rd.piece x y
      rw [Option.map_some, add_g]
      rwa [Nat.zero_add] at this
  have HL := Lib.hid hlen
  have HR1 := Lib.hid hR1
  have HR2 := Lib.hid hR2
  clear hlen hR1 hR2 hy
  have hyb : y ≤ 3000 := by omega
  have hsp2 : (dn = false) ∨ (¬ (0 : Int) < (y : Int)) := hsp.elim .inl fun e => .inr (by omega)
  clear hsp
  rcases hsp2 with rfl | hy0
  all_goals
    go_enter Try.func23, Try.ntmps23
    go_wp2_with fail
    refine HR.out.mono ?_
    rintro e w1 ⟨⟨A, c, rfl, ho⟩, hb⟩
    have HO := Lib.hid ho
    have HB := Lib.hid hb
    have HH1 := Lib.hid (HH.out.up hb)
    have HD1 := Lib.hid (HD.out.up hb)
    obtain ⟨e0, e1, e2, e3⟩ := HH1.out.cells
    clear ho hb hown
    go_wp2_with fail
    refine HD1.out.down.mono ?_
    rintro e w2 ⟨rfl, rfl⟩
    go_wp2_with fail
    all_goals
      refine (Same_true A y c _ y _ w1 ((l.drop x).take y) HL.out HO.out.rd (by omega) rfl (by first | exact HR2.out.up HB.out | exact (HR1.out (by assumption)).up HB.out)).mono ?_
      rintro e w3 ⟨rfl, hb3⟩
      have HO3 := Lib.hid (HO.out.below hb3 (Nat.le_refl _))
      have HB3 := Lib.hid (HB.out.trans (hb3.mono HB.out.size))
      clear hb3 HO HB HH1 HD1 hl e0 e1 e2 e3 HR1 HR2 HR HD HH c0 c1 c2 c3
      go_wp2_with fail
      go_loopw [10] (fun i wx => ∃ k l', k ≤ y ∧ i = .int .i64 k ∧ Hid (OwnB wx w.heap.size A y c l' ∧ Below w.heap.size w wx)) (fun i _ => y - (intOf i).toNat)
      case atStart => exact ⟨0, _, Nat.zero_le _, rfl, Lib.hid ⟨HO3.out, HB3.out⟩⟩
      case round =>
        obtain ⟨k, l', hk, rfl, HI⟩ := hrel
        clear HO3 HB3
        by_cases hlt : k < y
        · obtain ⟨g, rfl, hg0, hg1, hg2, hg3⟩ := HI.out.1.form (by omega)
          obtain ⟨v, hv⟩ := get_some l' k (by rw [HI.out.1.1]; exact hlt)
          have hcell : wr.cell? ⟨g, k, Option.none⟩ = some (.int .u8 v) := by
            have h1 := HI.out.1.rd.cells k (.int .u8 v) (by rw [bcells_get, hv]; rfl)
            rwa [add_g] at h1
          have hfz : wr.frozen? ⟨g, k, Option.none⟩ = false := HI.out.1.2.frozenAt k
          first
            | (exfalso; omega)
            | (go_wp2_with fail
               go_roundw
               case measure => simp [intOf]; omega
               case rel => exact ⟨k + 1, _, by omega, by go_num, Lib.hid ⟨row_stored HI.out.1 k hlt _, HI.out.2.setCell hg0 _⟩⟩)
        · obtain rfl : k = y := by omega
          clear hlt
          go_wp2_with fail
          go_ret
          exact ⟨rfl, HI.out.2⟩
end
end Go.Proofs.Ytlplhllcohoeaaa

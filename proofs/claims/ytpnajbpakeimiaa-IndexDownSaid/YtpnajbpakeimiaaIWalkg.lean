/-
  The power goes: Arm, Write that finds it off, Crash of a disk with one file and nothing pending.
-/
import Derived.Test.YtpnajbpakeimiaaIWalkf
import Derived.Test.YtpnajbpakeimiaaDSaved
import Derived.Deep.LoopGhost
namespace Go.Proofs.Ytpnajbpakeimiaa
open Go.RowKit
attribute [local go_sem ↓] append_told
section
variable {db mb : Nat} {d : Dv} {lo : Int} {N : Nat} {S : Nat → Prop} {F : Option Nat} {Ap : Option Addr} {np cp : Nat} {ps : List (Int × Value)}
theorem Write_goes (w : World) {fb : Nat} (h : Dk w db mb d lo N S (some fb) Ap np cp ps) (hd : d.down = false) (ha : d.armed = true) (hl : d.left = 0) (A : Option Addr) (n c : Nat) (hn : 0 < n) (hs : (n : Int) ≤ d.sum) :
    Calls Try.prog 19 #[.pointer (some ⟨db, 0, none⟩), .string tl, .int .i64 0, .slice A n c] w fun e w' => e = .returned (.int .i64 8) ∧ Dk w' db mb { d with down := true } lo N S (some fb) Ap np cp ps ∧ Fr w w' S S := by
  have hm := may_file w false h hd
  obtain ⟨f, An, cn, As, cs, q1, hff, _⟩ := h.fat
  have q : d.sum = f.now.length := by simp [Dv.sum, q1]
  obtain ⟨f0, _, _⟩ := hff.cells
  have hln := hff.ln
  have hft := fits_file w h (f.now.length : Int) (by omega) (by omega)
  rw [show fitE d (f.now.length : Int) = 0 from if_neg (fun h => by omega)] at hft
  have HH := Lib.hid h
  rw [q] at hs
  have q3 : max (f.now.length : Int) (n : Int) = (f.now.length : Int) := by omega
  have q4 : ¬ n = 0 := by omega
  have q5 : IntKind.i64.wrap ((0 : Int) + n) = (n : Int) := by rw [Int.zero_add]; exact IntWalk.i64_in _ (by omega)
  have q6 : IntKind.i64.wrap (n : Int) = (n : Int) := IntWalk.i64_in _ (by omega)
  clear h hff q q1
  generalize f.now.length = nl at *
  go_enter Try.func19, Try.ntmps19
  go_wp2_with fail
  refine hm.mono ?_
  rintro e w1 ⟨rfl, rfl⟩
  clear hm
  go_wp2_with fail
  refine hft.mono ?_
  rintro e w1 ⟨rfl, hbb⟩
  have HD1 := Lib.hid (HH.out.up hbb)
  have HB1 := Lib.hid hbb
  clear hft hbb
  go_wp2_with fail
  refine (change_off w1 HD1.out ha hl).mono ?_
  rintro e w2 ⟨rfl, hd2, hf2⟩
  have HD2 := Lib.hid hd2
  have HF2 := Lib.hid hf2
  clear hd2 hf2
  go_wp2_with fail
  go_ret
  exact ⟨rfl, HD2.out, (Fr.of_below HB1.out).trans HF2.out⟩
/-- 'append([]byte{}, b...)' told in a world of which the bytes read. -/
theorem told_lit (W : World) (A : Option Addr) (m c : Nat) (b : List Int) (hlen : b.length = m) (hr : RdB W W.heap.size A b) (hno : A = none → m = 0 ∧ c = 0) (hm : m ≤ 140737488355328) :
    ∃ g k w2, (appTold #[22, 22] 22 #[.slice (some ⟨W.heap.size, 0, none⟩) 0 0, .slice A m c]).run Try.prog (W.alloc (.cells #[] 5)) = .ok (.slice (some ⟨g, 0, none⟩) m k) w2 ∧ OwnB w2 W.heap.size (some ⟨g, 0, none⟩) m k b ∧ Below W.heap.size W w2 ∧ W.heap.size ≤ g := by
  obtain ⟨g, k, w2, hrun, hown, hgrow, _, _⟩ := run_append_lit (W.alloc (.cells #[] 5)) 22 W.heap.size W.heap.size (lit_one W) (Nat.le_refl _) A m c b hlen ((hr.alloc (Nat.le_refl _) _).more (by simp)) hno hm
  obtain ⟨_, _, hg⟩ := own_cells hown
  exact ⟨g, k, w2, hrun, hown, ((Below.refl _ _).alloc (Nat.le_refl _) _).grown hgrow (by simp) (fun k hk => by injection hk with hk; omega), hg⟩
theorem Dk.fat' {w : World} {fb : Nat} (h : Dk w db mb d lo N S (some fb) Ap np cp ps) {f : Fl} (hdf : d.f = some f) : ∃ An cn As cs, FileAt w S fb f An cn As cs ∧ (∀ p ∈ ps, Apart An p.2) := by
  obtain ⟨f', An, cn, As, cs, q1, hf, hap⟩ := h.fat
  obtain rfl : f' = f := by rw [hdf] at q1; injection q1 with q1; exact q1.symm
  exact ⟨An, cn, As, cs, hf, hap⟩
theorem fr_sub {w w' : World} {S S' : Nat → Prop} (h : Only w w' S) (hS : S' = Sx S w w') : Fr w w' S S' := by subst hS; exact h.fr
set_option maxRecDepth 40000 in
set_option maxHeartbeats 1000000 in
theorem Crash_one (w : World) {fb : Nat} (h : Dk w db mb d lo N S (some fb) none 0 0 []) (f : Fl) (hdf : d.f = some f) (hsu : f.sure = true) :
    Calls Try.prog 20 #[.pointer (some ⟨db, 0, none⟩), .slice none 0 0] w fun e w' => e = .returned (.tuple #[]) ∧ ∃ S', Dk w' db mb { d with down := false, armed := false, f := some ⟨f.safe, f.safe, true⟩ } lo N S' (some fb) none 0 0 [] ∧ Fr w w' S S' := by
  obtain ⟨_, _, _, _, _, c5, c6⟩ := h.cells
  have hmm := @run_makeMap Try.prog
  have hdl := h.lt _ h.sd
  have hb0 : Below w.heap.size w (w.alloc (Obj.map #[] 0)) := (Below.refl _ _).alloc (Nat.le_refl _) _
  have hd0 := h.up hb0
  obtain ⟨w1, hrun, hr1, hg1, hs1⟩ := hd0.map.range
  obtain ⟨w2, hnext, hr2, hg2, hs2, hent⟩ := hr1.one 0
  rw [show ptr (some fb) = Value.pointer (some ⟨fb, 0, none⟩) from rfl] at hnext hent
  have hb2 : Below w.heap.size w w2 := hb0.trans ((below_grown (B := w.heap.size) hg1 (by simp) (by simp)).trans (below_grown hg2 (by intro r e; injection e with e; simp at e; omega) (by simp at hs1; omega)))
  have hd2 := h.up hb2
  obtain ⟨An, cn, As, cs, hf2, hap2⟩ := hd2.fat' hdf
  obtain ⟨f0, f1, f2⟩ := hf2.cells
  have hls := hf2.ls
  obtain ⟨g, k, w3, hrun3, hown3, hb3, hg3⟩ := told_lit w2 As f.safe.length cs f.safe rfl hf2.safe.rd hf2.safe.none (by omega)
  have hfb2 := hd2.lt _ hf2.sf
  obtain ⟨hd4, ho4⟩ := hd2.laid hdf hf2 hap2 (fr_new (An := An) hb3 hg3) (hown3.mono (Nat.zero_le _)) hls
  have z0 : w3.frozen? ⟨fb, 0, none⟩ = false := (hb3.frozen (p := ⟨fb, 0, none⟩) hfb2).trans (hf2.froz 0)
  have y0 : w3.cell? ⟨fb, 0, none⟩ = some (.slice An f.now.length cn) := (hb3.cell (p := ⟨fb, 0, none⟩) hfb2).trans f0
  have hrs : (w.alloc (Obj.map #[] 0)).heap.size = w.heap.size + 1 := by simp
  have hr4 : RM (w3.setCell ⟨fb, 0, none⟩ (.slice (some ⟨g, 0, none⟩) f.safe.length k)) mb (w.alloc (Obj.map #[] 0)).heap.size (some fb) false := by
    have hgb : w2.grownBy w3 none := ⟨hb3.os, hb3.tape, hb3.output, hb3.size, fun x hx _ => hb3.block x hx⟩
    refine (hr2.kept hgb (by simp) (by simp)).kept (grown_setCell w3 ⟨fb, 0, none⟩ _) (fun e => ?_) (fun e => ?_)
    · injection e with e; exact hd2.map.ne hf2.head e
    · injection e with e; rw [hrs] at e; have := h.lt fb (by obtain ⟨_, _, _, _, hf, _⟩ := h.fat' hdf; exact hf.sf); simp only at e; omega
  have hdone := hr4.done (.inl rfl) 0
  obtain ⟨w5, hw5⟩ : ∃ w5, w5 = w3.setCell ⟨fb, 0, none⟩ (.slice (some ⟨g, 0, none⟩) f.safe.length k) := ⟨_, rfl⟩
  rw [← hw5] at hd4 ho4 hdone
  obtain ⟨_, _, _, _, _, d5, d6⟩ := hd4.cells
  obtain ⟨w6, hrun6, hr6, hg6, hs6⟩ := hd4.map.range
  obtain ⟨w7, hnext7, hr7, hg7, hs7, hent7⟩ := hr6.one 0
  rw [show ptr (some fb) = Value.pointer (some ⟨fb, 0, none⟩) from rfl] at hnext7 hent7
  have hb7 : Below w5.heap.size w5 w7 := (below_grown (B := w5.heap.size) hg6 (by simp) (Nat.le_refl _)).trans (below_grown hg7 (by simp) (by omega))
  have hd7 := hd4.up hb7
  obtain ⟨An7, cn7, As7, cs7, hf7, hap7⟩ := hd7.fat' rfl
  obtain ⟨e0, e1, e2⟩ := hf7.cells
  obtain ⟨g8, k8, w8, hrun8, hown8, hb8, hg8⟩ := told_lit w7 An7 f.safe.length cn7 f.safe rfl hf7.now.rd hf7.now.none (by omega)
  have hfb7 := hd7.lt _ hf7.sf
  obtain ⟨w9, hw9⟩ : ∃ w9, w9 = (w8.setCell ⟨fb, 1, none⟩ (.slice (some ⟨g8, 0, none⟩) f.safe.length k8)).setCell ⟨fb, 2, none⟩ (.bool true) := ⟨_, rfl⟩
  obtain ⟨hd9, ho9⟩ := hd7.saved hf7 hap7 hb8 hown8 hls w9 hw9
  have z1 : w8.frozen? ⟨fb, 1, none⟩ = false := (hb8.frozen (p := ⟨fb, 1, none⟩) hfb7).trans (hf7.froz 1)
  have z2 : w8.frozen? ⟨fb, 2, none⟩ = false := (hb8.frozen (p := ⟨fb, 2, none⟩) hfb7).trans (hf7.froz 2)
  have y1 : w8.cell? ⟨fb, 1, none⟩ = some (.slice As7 f.safe.length cs7) := (hb8.cell (p := ⟨fb, 1, none⟩) hfb7).trans e1
  have y2 : w8.cell? ⟨fb, 2, none⟩ = some (.bool f.sure) := (hb8.cell (p := ⟨fb, 2, none⟩) hfb7).trans e2
  have hr9 : RM w9 mb w5.heap.size (some fb) false := by
    have hgb : w7.grownBy w8 none := ⟨hb8.os, hb8.tape, hb8.output, hb8.size, fun x hx _ => hb8.block x hx⟩
    have hfb5 : fb < w5.heap.size := hd4.lt _ (.inl hf2.sf)
    subst hw9
    refine ((hr7.kept hgb (by simp) (by simp)).kept (grown_setCell w8 ⟨fb, 1, none⟩ _) (fun e => ?_) (fun e => ?_)).kept (grown_setCell _ ⟨fb, 2, none⟩ _) (fun e => ?_) (fun e => ?_)
    · injection e with e; exact hd7.map.ne hf7.head e
    · injection e with e; simp only at e; omega
    · injection e with e; exact hd7.map.ne hf7.head e
    · injection e with e; simp only at e; omega
  have hdone9 := hr9.done (.inl rfl) 0
  obtain ⟨_, _, _, x3, x4, x5, x6⟩ := hd9.cells
  have u3 := hd9.froz 3
  have u4 := hd9.froz 4
  have u6 := hd9.froz 6
  obtain ⟨wE, hwE⟩ : ∃ wE, wE = ((w9.setCell ⟨db, 6, none⟩ (.slice none 0 0)).setCell ⟨db, 4, none⟩ (.bool false)).setCell ⟨db, 3, none⟩ (.bool false) := ⟨_, rfl⟩
  have hdE : Dk wE db mb { d with down := false, armed := false, f := some ⟨f.safe, f.safe, true⟩ } lo N (Sx (Sx S w2 w5) w7 w9) (some fb) none 0 0 [] := by
    subst hwE
    refine hd9.setD (by simp) (fun g hg => ?_) ?_ rfl rfl (Nat.le_refl _) hd9.cg hd9.lf
    · rw [heap_setCell_other _ _ _ _ (by simpa using hg), heap_setCell_other _ _ _ _ (by simpa using hg), heap_setCell_other _ _ _ _ (by simpa using hg)]
    · rw [heap_setCell_same _ _ _ _ _ _ (heap_setCell_same _ _ _ _ _ _ (heap_setCell_same _ _ _ _ _ _ hd9.head))]
      rfl
  have hFE : Fr w9 wE (Sx (Sx S w2 w5) w7 w9) (Sx (Sx S w2 w5) w7 w9) := by
    subst hwE
    exact ((fr_set _ hd9.sd).trans (fr_set _ hd9.sd)).trans (fr_set _ hd9.sd)
  have HF : Hid (Fr w wE S (Sx (Sx S w2 w5) w7 w9)) := Lib.hid ((Fr.of_below hb2).trans (ho4.fr.trans ((Fr.of_below hb7).trans (ho9.fr.trans hFE))))
  have HE := Lib.hid hdE
  have hsu7 : (!f.sure) = false := by rw [hsu]; rfl
  rw [hsu] at e2 y2
  rw [hrs] at hrun hnext hent hdone
  have HW5 := Lib.hid hw5
  have HW9 := Lib.hid hw9
  have HWE := Lib.hid hwE
  clear hw5 hw9 hwE
  clear hd0 hr1 hg1 hs1 hr2 hg2 hs2 hb2 hd2 hf2 hap2 hown3 hd4 ho4 hr4 hr6 hg6 hs6 hr7 hg7 hs7 hb7 hd7 hf7 hap7 hown8 hd9 ho9 hr9 hdE hFE hb8 hb3 hb0 hg8 hg3 hsu hsu7 h hdf
  go_enter Try.func20, Try.ntmps20
  go_wp2_with fail
  go_loopg [6] 1 (fun g v wr => (g = 1 ∧ wr = w1) ∨ (g = 0 ∧ wr = w5))
  case atStart => exact .inl ⟨rfl, rfl⟩
  case round =>
    rcases hrel with ⟨rfl, rfl⟩ | ⟨rfl, rfl⟩
    · go_wp2_with fail
      go_roundg 0
      case measure => omega
      case rel => exact .inr ⟨rfl, HW5.out.symm⟩
    · go_wp2_with fail
      go_loopw [38] (fun i wx => i = .int .i64 0 ∧ wx = wr) (fun _ _ => 0)
      case atStart => exact ⟨rfl, rfl⟩
      case round =>
        obtain ⟨rfl, rfl⟩ := hrel
        go_wp2_with fail
        go_loopg [10] 1 (fun g v wy => (g = 1 ∧ wy = w6) ∨ (g = 0 ∧ wy = w9))
        case atStart => exact .inl ⟨rfl, rfl⟩
        case round =>
          rcases hrel with ⟨rfl, rfl⟩ | ⟨rfl, rfl⟩
          · go_wp2_with fail
            go_roundg 0
            case measure => omega
            case rel => exact .inr ⟨rfl, HW9.out.symm⟩
          · go_wp2_with fail
            rw [← HWE.out]
            refine ⟨rfl, .tuple #[], ?_, rfl, _, HE.out, HF.out⟩
            first | rfl | (simp [Results, Try.f20]; done) | kernel_rfl
end
section
variable {B : Nat} {w w' : World} {b : List Int} {xb cb db mb fb : Nat} {S S' : Nat → Prop} {d d' : Dv} {rd : Int} {n : Nat} {u : Int → Option Int}
theorem Live.disk (h : Live B w b xb cb db mb fb S d rd n u) (hd : Dk w' db mb d' 0 0 S' (some fb) none 0 0 []) (hf : Fr w w' S S') (hdf : d'.f = some ⟨b, b, true⟩) (hB : B ≤ w.heap.size) : Live B w' b xb cb db mb fb S' d' rd n u :=
  ⟨hd, hdf, h.ix.keep (hf.beside _ h.ix.lt h.xS).1 (hf.beside _ h.ix.map.lt h.cS).1, h.good, (hf.beside _ h.ix.lt h.xS).2, (hf.beside _ h.ix.map.lt h.cS).2, fun g hg => by
    by_cases hlt : g < w.heap.size
    · by_cases hS : S g
      · exact h.low g hS
      · exact absurd hg (hf.beside g hlt hS).2
    · omega, h.xB, h.cB⟩
theorem Live.frB (h : Live B w b xb cb db mb fb S d rd n u) (hf : Fr w w' S S') (hB : B ≤ w.heap.size) : Below B w w' := hf.below hB (fun g hg hS => by have := h.low g hS; omega)
/-- Count, of any places, nobody asks what it answers. -/
theorem LAny (w : World) (h : Live B w b xb cb db mb fb S d 0 0 (fun _ => none)) (hd : d.down = false) (hB : Byt b) (hl : b.length ≤ 1048576) (x y : Int) (hBs : B ≤ w.heap.size) :
    Calls Try.prog 9 #[.pointer (some ⟨xb, 0, none⟩), .int .i64 x, .int .i64 y] w fun e w' => (∃ v1 v2, e = .returned (.tuple #[v1, v2])) ∧ (∃ rd n u, Live B w' b xb cb db mb fb S d rd n u ∧ 0 ≤ rd ∧ rd ≤ 1048576 ∧ n ≤ 1048576) ∧ Below B w w' := by
  by_cases hg : 0 ≤ x ∧ x ≤ y ∧ y ≤ (b.length : Int)
  · obtain ⟨h0, h1, h2⟩ := hg
    obtain ⟨fr, rfl⟩ := Int.eq_ofNat_of_zero_le h0
    obtain ⟨to_, rfl⟩ := Int.eq_ofNat_of_zero_le (show 0 ≤ y by omega)
    have hr := run_rd b to_ (by omega) (to_ - fr) fr (fun _ => none, 0)
    refine (LCount w h hd hB hl fr to_ (by omega) (by omega) (by omega) (by omega) (by omega) hBs).mono ?_
    rintro e w1 ⟨rfl, hl1, hb1⟩
    simp only at hr
    exact ⟨⟨_, _, rfl⟩, ⟨_, _, _, hl1, by omega, by omega, by omega⟩, hb1⟩
  · refine (Count_range w h.ix x y (by omega)).mono ?_
    rintro e w1 ⟨rfl, rfl⟩
    exact ⟨⟨_, _, rfl⟩, ⟨_, _, _, h, by omega, by omega, by omega⟩, Below.refl _ _⟩
end
end Go.Proofs.Ytpnajbpakeimiaa

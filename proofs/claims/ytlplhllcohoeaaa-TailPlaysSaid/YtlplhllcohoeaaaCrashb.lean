/-
  Crash of a disk with a file, whatever is pending and whichever pieces are picked.
-/
import Derived.Test.YtlplhllcohoeaaaCrasha
import Derived.Deep.LoopGhost
import Derived.Deep.RegionHeld3
namespace Go.Proofs.Ytlplhllcohoeaaa
open Go.RowKit
attribute [local go_sem ↓] append_told
section
variable {db mb : Nat} {d : Dv} {lo : Int} {N : Nat} {S : Nat → Prop} {F : Option Nat} {Ap : Option Addr} {np cp : Nat} {ps : List (Int × Value)}
/-- What the first pieces leave: the first l0 bytes stay. -/
structure Mid (w wr : World) (S : Nat → Prop) (db mb fb kb : Nat) (d : Dv) (lo : Int) (l0 N : Nat) (f : Fl) (Ap : Option Addr) (np cp : Nat) (ps : List (Int × Value)) (l : List Int) (kp : Bool) (S' : Nat → Prop) : Prop where
  dk : Dk wr db mb { d with f := some ⟨l, f.safe, f.sure⟩ } lo N S' (some fb) Ap np cp ps
  km : KM wr kb kp
  nk : ¬ S' kb
  le : l0 ≤ l.length
  tk : l.take l0 = f.safe.take l0
  fr : Fr w wr S S'
  kw : w.heap.size ≤ kb
theorem Mid.up {w wr w' : World} {fb kb l0 : Nat} {f : Fl} {l : List Int} {kp : Bool} {S' : Nat → Prop} (h : Mid w wr S db mb fb kb d lo l0 N f Ap np cp ps l kp S') (hb : Below wr.heap.size wr w') : Mid w w' S db mb fb kb d lo l0 N f Ap np cp ps l kp S' :=
  ⟨h.dk.up hb, h.km.same (hb.block _ h.km.lt), h.nk, h.le, h.tk, h.fr.trans (Fr.of_below hb), h.kw⟩
/-- A name more is kept. -/
theorem Mid.put {w wr w' : World} {fb kb l0 : Nat} {f : Fl} {l : List Int} {kp : Bool} {S' : Nat → Prop} (h : Mid w wr S db mb fb kb d lo l0 N f Ap np cp ps l kp S') (hk : KM w' kb true) (hg : wr.grownBy w' (some kb)) : Mid w w' S db mb fb kb d lo l0 N f Ap np cp ps l true S' :=
  ⟨h.dk.keep hg.size (fun g hS => hg.block g (h.dk.lt g hS) (fun e => by injection e with e; subst e; exact h.nk hS)), hk, h.nk, h.le, h.tk,
    ⟨hg.os.trans h.fr.os, hg.tape.trans h.fr.tape, hg.output.trans h.fr.output, Nat.le_trans h.fr.size hg.size, fun g h1 h2 => by
      obtain ⟨a, b⟩ := h.fr.beside g h1 h2
      exact ⟨(hg.block g (Nat.lt_of_lt_of_le h1 h.fr.size) (fun e => by injection e with e; have := h.kw; omega)).trans a, b⟩⟩, h.kw⟩
/-- Other bytes. -/
theorem Mid.laid {w wr w1 : World} {fb kb l0 : Nat} {f : Fl} {l : List Int} {kp : Bool} {S' : Nat → Prop} (h : Mid w wr S db mb fb kb d lo l0 N f Ap np cp ps l kp S') {An : Option Addr} {cn : Nat} {As : Option Addr} {cs : Nat} (hf : FileAt wr S' fb ⟨l, f.safe, f.sure⟩ An cn As cs) (hap : ∀ p ∈ ps, Apart An p.2) {A' : Option Addr} {n' c' : Nat} {l' : List Int} (hfr : Fr wr w1 (inA An) (inA A')) (ho : OwnB w1 0 A' n' c' l') (hl : l'.length ≤ 1099511627776)
    (h0 : l0 ≤ l'.length) (h1 : l'.take l0 = l.take l0) : Mid w (w1.setCell ⟨fb, 0, none⟩ (.slice A' n' c')) S db mb fb kb d lo l0 N f Ap np cp ps l' kp (Sx S' wr (w1.setCell ⟨fb, 0, none⟩ (.slice A' n' c'))) := by
  obtain ⟨hd, ho'⟩ := h.dk.laid rfl hf hap hfr ho hl
  have hkl := h.km.lt
  refine ⟨hd, h.km.same (ho'.rest _ hkl h.nk), ?_, h0, h1.trans h.tk, h.fr.trans ho'.fr, h.kw⟩
  rintro (hx | hx)
  · exact h.nk hx
  · omega
theorem Fr.cell {w w' : World} {S S' : Nat → Prop} (h : Fr w w' S S') {g : Nat} (hg : g < w.heap.size) (hS : ¬ S g) (j : Nat) : w'.cell? ⟨g, j, none⟩ = w.cell? ⟨g, j, none⟩ := World.cell?_of_block (w := w) (a := ⟨g, j, none⟩) (h.beside g hg hS).1
theorem Fr.froz {w w' : World} {S S' : Nat → Prop} (h : Fr w w' S S') {g : Nat} (hg : g < w.heap.size) (hS : ¬ S g) (j : Nat) : w'.frozen? ⟨g, j, none⟩ = w.frozen? ⟨g, j, none⟩ := by
  have e := (h.beside g hg hS).1
  simp only [World.frozen?, e]
theorem take_layL (l b : List Int) (at_ n : Nat) (h : n ≤ at_) (hn : n ≤ l.length) : (layL l at_ b).take n = l.take n := by
  unfold layL Go.splice
  rw [List.take_append_of_le_length (by simp; omega), List.take_take, List.take_append_of_le_length (by omega)]
  congr 1
  omega
set_option maxRecDepth 40000 in
set_option maxHeartbeats 4000000 in
theorem Crash_file (w : World) {fb : Nat} (h : Dk w db mb d lo N S (some fb) Ap np cp ps) (f : Fl) (hdf : d.f = some f) (hN : N ≤ 1099511627776) (l0 : Nat) (hl0 : lo = l0) (h0 : l0 ≤ f.safe.length) (PA : Option Addr) (m pc : Nat) (xs : List Int) (hx : xs.length = m) (hm : m ≤ 9223372036854775807) (hr : RdI w w.heap.size PA xs) (hPS : ∀ a, PA = some a → xs ≠ [] → ¬ S a.block) :
    Calls Try.prog 34 #[.pointer (some ⟨db, 0, none⟩), .slice PA m pc] w fun e w' => e = .returned (.tuple #[]) ∧ ∃ S', Fr w w' S S' ∧
      ((∃ l, Dk w' db mb { d with down := false, armed := false, f := some ⟨l, l, true⟩ } lo N S' (some fb) none 0 0 [] ∧ l0 ≤ l.length ∧ l.take l0 = f.safe.take l0) ∨
       (f.sure = false ∧ Dk w' db mb { d with down := false, armed := false, f := none } lo N S' none none 0 0 [])) := by
  subst hl0
  have hmm := @run_makeMap Try.prog
  obtain ⟨_, _, _, _, _, c5, c6⟩ := h.cells
  have hdl := h.lt _ h.sd
  have hnp : np ≤ N := h.pn
  obtain ⟨w1, w2, w3, An, cn, As, cs, g, k, S5, hrun, hnext, hent, hfb2, f1, hrun3, z0, y0, hdone, hd5, hf5, hk5, hk6⟩ := Crash_first w h f hdf
  have HM5 : Hid (Mid w (w3.setCell ⟨fb, 0, none⟩ (.slice (some ⟨g, 0, none⟩) f.safe.length k)) S db mb fb w.heap.size d l0 l0 N f Ap np cp ps f.safe false S5) := Lib.hid ⟨hd5, hk5, hk6, h0, rfl, hf5, Nat.le_refl _⟩
  have HX := Lib.hid hx; have HR := Lib.hid hr; have HPS := Lib.hid hPS
  have HH := Lib.hid h
  obtain ⟨w5, hw5⟩ : ∃ w5, w5 = w3.setCell ⟨fb, 0, none⟩ (.slice (some ⟨g, 0, none⟩) f.safe.length k) := ⟨_, rfl⟩
  rw [← hw5] at HM5 hdone
  have HW5 := Lib.hid hw5
  obtain ⟨_, _, _, _, _, _, b6⟩ := HM5.out.dk.cells
  clear hw5 hd5 hf5 hk5 hk6 hx hr hPS h
  go_enter Try.func34, Try.ntmps34
  go_wp2_with fail
  go_loopg [6] 1 (fun g v wr => (g = 1 ∧ wr = w1) ∨ (g = 0 ∧ wr = w5))
  case atStart => exact .inl ⟨rfl, rfl⟩
  case round =>
    rcases hrel with ⟨rfl, rfl⟩ | ⟨rfl, rfl⟩
    · go_wp2_with fail
      go_roundg 0
      case measure => omega
      case rel => exact .inr ⟨rfl, HW5.out.symm⟩
    · go_wp2_with fail
      clear hrun hnext hent hfb2 f1 hrun3 z0 y0 hdone HW5
      go_loopw [38] (fun i wx => ∃ k, k ≤ np ∧ i = .int .i64 k ∧ ∃ l kp S', Hid (Mid w wx S db mb fb w.heap.size d l0 l0 N f Ap np cp ps l kp S')) (fun i _ => np - (intOf i).toNat)
      case atStart => exact ⟨0, Nat.zero_le _, rfl, _, _, _, HM5⟩
      case round =>
        clear HM5
        obtain ⟨k, hk, rfl, l, kp, S', HM⟩ := hrel
        by_cases hlt : k < np
        · have HMu := Lib.hid HM.out
          obtain ⟨pg, ⟨pa, pv⟩, rfl, hpin, hpa, hpg, q0, q1, q2⟩ := HM.out.dk.piece_all k hlt
          obtain ⟨p0, p1, p2, p3⟩ := hpa
          obtain ⟨pn, rfl⟩ := Int.eq_ofNat_of_zero_le p1
          simp only at *
          by_cases hm0 : m = 0
          · subst hm0
            rcases p3 with rfl | ⟨a, bl, bc, rfl, hob, hSb, hbl⟩
            · go_wp2_with fail
              go_roundw
              case rel => exact ⟨k + 1, by omega, by go_num, _, _, _, Lib.hid (HM.out.up ((Below.refl _ _).alloc (Nat.le_refl _) _))⟩
              case measure => simp [intOf]; omega
            · clear hob hSb hbl
              go_wp2_with fail
              go_roundw
              case rel => exact ⟨k + 1, by omega, by go_num, _, _, _, Lib.hid (HM.out.up ((Below.refl _ _).alloc (Nat.le_refl _) _))⟩
              case measure => simp [intOf]; omega
          · have hkm : k % m < m := Nat.mod_lt _ (by omega)
            have htm : (k : Int).tmod (m : Int) = ((k % m : Nat) : Int) := by rw [Int.tmod_eq_emod_of_nonneg (by omega)]; omega
            obtain ⟨x, hx⟩ := get_some xs (k % m) (by rw [HX.out]; exact hkm)
            obtain ⟨pb, po, rfl, hpb, hxc⟩ := HR.out _ x hx
            have hxw : wr.cell? ⟨pb, po + k % m, none⟩ = some (.int .i64 x) := (World.cell?_of_block (w := w) (a := ⟨pb, po + k % m, none⟩) (HM.out.fr.beside pb hpb (HPS.out _ rfl (fun e => by rw [e] at hx; simp at hx))).1).trans hxc
            have hpbw : pb < wr.heap.size := Nat.lt_of_lt_of_le hpb HM.out.fr.size
            clear hxc hx hpb
            generalize k % m = j at *
            rcases p3 with rfl | ⟨a, bl, bc, rfl, hob, hSb, hbl⟩
            · have t0 := cell_new wr #[.string tl, .int .i64 pn, .slice Option.none 0 0] 74 0
              have t1 := cell_new wr #[.string tl, .int .i64 pn, .slice Option.none 0 0] 74 1
              have t2 := cell_new wr #[.string tl, .int .i64 pn, .slice Option.none 0 0] 74 2
              have HU := Lib.hid (HM.out.up ((Below.refl _ _).alloc (Nat.le_refl _) (.cells #[.string tl, .int .i64 pn, .slice Option.none 0 0] 74)))
              go_wp2_with (fail)
              · go_roundw
                case rel => exact ⟨k + 1, by omega, by go_num, _, _, _, HU⟩
                case measure => simp [intOf]; omega
              · clear hxw q0 q1 q2 hpbw hpg htm
                generalize wr.alloc (.cells #[.string tl, .int .i64 pn, .slice Option.none 0 0] 74) = wp at *
                generalize wr.heap.size = vb at *
                have HLK : ∀ n, (Instr.lookup 56 (.map (some mb)) (.string tl) false).run Try.prog (wp.drewN n) = .ok (.pointer (some ⟨fb, 0, Option.none⟩)) (wp.drewN n) := fun n => (HU.out.dk.drewN n).map.look
                obtain ⟨_, _, _, _, _, d5, _⟩ := HU.out.dk.cells
                go_quiet (fail)
                have HQ := Lib.hid (HU.out.up (belowDrewN (Below.refl _ _) nq))
                have s1 : (wp.drewN nq).cell? ⟨vb, 1, Option.none⟩ = some (.int .i64 pn) := t1
                have s2 : (wp.drewN nq).cell? ⟨vb, 2, Option.none⟩ = some (.slice Option.none 0 0) := t2
                clear t0 t1 t2 HLK d5 HU
                generalize wp.drewN nq = wq at *
                obtain ⟨Am, cm, Az, cz, hff, hap⟩ := HQ.out.dk.fat' rfl
                obtain ⟨f0, _, _⟩ := hff.cells
                have z0 := hff.froz 0
                have hcap := hff.now.cap
                have hln := hff.ln
                obtain ⟨q, hq⟩ : ∃ q : Nat, q = Nat.min pn l.length := ⟨_, rfl⟩
                have hq1 : min (pn : Int) (l.length : Int) = (q : Int) := by subst hq; show min (pn : Int) (l.length : Int) = ((min pn l.length : Nat) : Int); omega
                have hq2 : q ≤ l.length := by subst hq; exact Nat.min_le_right _ _
                have hq3 : l0 ≤ q := by have := HQ.out.le; subst hq; exact Nat.le_min.2 ⟨by omega, this⟩
                have hsh : OwnB wq 0 Am q cm (l.take q) := hff.now.shrink q hq2
                have HF := Lib.hid hff
                have HS := Lib.hid hsh
                have HA := Lib.hid hap
                clear hq hff hsh hap
                simp only at f0 hcap hln
                have hqc : (q : Int) ≤ (cm : Int) := by omega
                have hq0 : (0 : Int) ≤ (q : Int) := by omega
                have he : ∀ w : World, (binOp .eql 22 (.slice Option.none 0 0) (.slice Option.none 0 0)).run Try.prog w = .ok (.bool true) w := fun _ => rfl
                go_wp2_with fail
                go_region
                go_wp2_with fail
                have e : (if l.length < pn then (l.length : Int) else (pn : Int)).toNat = q := by split <;> omega
                go_roundw
                case measure => simp [intOf]; omega
                case rel =>
                  have X := (HQ.out.laid HF.out HA.out (Fr.refl wq (inA Am)) HS.out (by rw [List.length_take]; omega) (by rw [List.length_take]; omega) (by rw [List.take_take]; congr 1; omega)).up (belowDrewN (Below.refl _ _) 1)
                  rw [e]
                  exact ⟨k + 1, by omega, by go_num, _, _, _, Lib.hid X⟩
            · have t0 : (wr.alloc (.cells #[.string tl, .int .i64 pn, .slice (some a) bl.length bc] 74)).cell? ⟨wr.heap.size, 0, Option.none⟩ = some (.string tl) := cell_new wr #[.string tl, .int .i64 pn, .slice (some a) bl.length bc] 74 0
              have t1 : (wr.alloc (.cells #[.string tl, .int .i64 pn, .slice (some a) bl.length bc] 74)).cell? ⟨wr.heap.size, 1, Option.none⟩ = some (.int .i64 pn) := cell_new wr #[.string tl, .int .i64 pn, .slice (some a) bl.length bc] 74 1
              have t2 : (wr.alloc (.cells #[.string tl, .int .i64 pn, .slice (some a) bl.length bc] 74)).cell? ⟨wr.heap.size, 2, Option.none⟩ = some (.slice (some a) bl.length bc) := cell_new wr #[.string tl, .int .i64 pn, .slice (some a) bl.length bc] 74 2
              have hbl2 : Below wr.heap.size wr (wr.alloc (.cells #[.string tl, .int .i64 pn, .slice (some a) bl.length bc] 74)) := (Below.refl _ _).alloc (Nat.le_refl _) _
              have HU := Lib.hid (HM.out.up hbl2)
              have HOB : Hid (OwnB (wr.alloc (.cells #[.string tl, .int .i64 pn, .slice (some a) bl.length bc] 74)) 0 (some a) bl.length bc bl) := Lib.hid (hob.keepS fun a' e => hbl2.block _ (by cases e; exact HM.out.dk.lt _ hSb))
              have HVS : Hid (¬ S' wr.heap.size ∧ wr.heap.size < (wr.alloc (.cells #[.string tl, .int .i64 pn, .slice (some a) bl.length bc] 74)).heap.size) := Lib.hid ⟨fun h => Nat.lt_irrefl _ (HM.out.dk.lt _ h), by simp⟩
              have HBL := Lib.hid hbl
              clear hob hSb hbl hbl2
              go_wp2_with (fail)
              · go_roundw
                case rel => exact ⟨k + 1, by omega, by go_num, _, _, _, HU⟩
                case measure => simp [intOf]; omega
              · clear hxw q0 q1 q2 hpbw hpg htm
                generalize wr.alloc (.cells #[.string tl, .int .i64 pn, .slice (some a) bl.length bc] 74) = wp at *
                generalize wr.heap.size = vb at *
                have HLK : ∀ n, (Instr.lookup 56 (.map (some mb)) (.string tl) false).run Try.prog (wp.drewN n) = .ok (.pointer (some ⟨fb, 0, Option.none⟩)) (wp.drewN n) := fun n => (HU.out.dk.drewN n).map.look
                obtain ⟨_, _, _, _, _, d5, _⟩ := HU.out.dk.cells
                go_quiet (fail)
                have HQ := Lib.hid (HU.out.up (belowDrewN (Below.refl _ _) nq))
                have s0 : (wp.drewN nq).cell? ⟨vb, 0, Option.none⟩ = some (.string tl) := t0
                have s1 : (wp.drewN nq).cell? ⟨vb, 1, Option.none⟩ = some (.int .i64 pn) := t1
                have s2 : (wp.drewN nq).cell? ⟨vb, 2, Option.none⟩ = some (.slice (some a) bl.length bc) := t2
                have HOB2 : Hid (OwnB (wp.drewN nq) 0 (some a) bl.length bc bl) := Lib.hid (HOB.out.keepS fun _ _ => rfl)
                have HVS2 : Hid (¬ S' vb ∧ vb < (wp.drewN nq).heap.size) := HVS
                clear t0 t1 t2 HLK d5 HU HOB HVS
                generalize wp.drewN nq = wq at *
                have HQ1 : Hid (Mid w wq.drew S db mb fb w.heap.size d l0 l0 N f (some ⟨pg, 0, Option.none⟩) np cp ps l kp S') := Lib.hid (HQ.out.up (belowDrewN (Below.refl _ _) 1))
                obtain ⟨Am, cm, Az, cz, hff, hap⟩ := HQ1.out.dk.fat' rfl
                have f0 : wq.cell? ⟨fb, 0, Option.none⟩ = some (.slice Am l.length cm) := hff.cells.1
                have z0 : wq.frozen? ⟨fb, 0, Option.none⟩ = false := hff.froz 0
                have hln : l.length ≤ 1099511627776 := hff.ln
                have hne : ¬ inA Am a.block := fun hx => by
                  cases Am with
                  | none => cases hx
                  | some b => injection hx with hx; exact hap _ hpin a _ _ b rfl rfl hx
                have hfb : ¬ inA Am fb := hff.nf
                have hvb : ¬ inA Am vb := fun hx => by
                  cases Am with
                  | none => cases hx
                  | some b => injection hx with hx; have h1 := hff.sn b rfl; rw [hx] at h1; exact HVS2.out.1 h1
                have hfl : fb < wq.heap.size := HQ.out.dk.lt _ hff.sf
                have HLY := Lib.hid (lay_any wq.drew Am l.length cm l pn (some a) bl.length bc bl hff.now (HOB2.out.keepS (w' := wq.drew) fun _ _ => rfl).rd rfl HBL.out.1 (fun a' e => by cases e; exact hne) hln (by have := HBL.out.2; omega))
                have HF := Lib.hid hff
                have HA := Lib.hid hap
                have HNV := Lib.hid (show ¬ inA Am fb ∧ ¬ inA Am vb from ⟨hfb, hvb⟩)
                clear hff hap hne hfb hvb
                have he : ∀ w : World, (binOp .eql 22 (.slice (some a) bl.length bc) (.slice Option.none 0 0)).run Try.prog w = .ok (.bool false) w := fun _ => rfl
                go_upto_region 13 with (fail)
                go_cut [9] (fun v wx => v = .pointer (some ⟨fb, 0, Option.none⟩) ∧ ∃ l' S2, Hid (Mid w wx S db mb fb w.heap.size d l0 l0 N f (some ⟨pg, 0, Option.none⟩) np cp ps l' kp S2) ∧ wx.cell? ⟨vb, 0, Option.none⟩ = some (.string tl))
                case first =>
                  go_wp2_with fail
                  have y0 : wq.drew.cell? ⟨fb, 0, Option.none⟩ = some (.slice Am l.length cm) := f0
                  have y1 : wq.drew.cell? ⟨vb, 1, Option.none⟩ = some (.int .i64 pn) := s1
                  have y2 : wq.drew.cell? ⟨vb, 2, Option.none⟩ = some (.slice (some a) bl.length bc) := s2
                  go_region_law ((go_simp; go_at_call 31; refine HLY.out.mono ?_; rintro e w6 ⟨A6, n6, c6, rfl, hO6, hF6⟩; have HO6 := Lib.hid hO6; have HF6 := Lib.hid hF6; clear hO6 hF6; have f06 := (HF6.out.cell hfl HNV.out.1 0).trans f0; have z06 := (HF6.out.froz hfl HNV.out.1 0).trans z0; have t06 := (HF6.out.cell HVS2.out.2 HNV.out.2 0).trans s0))
                  all_goals
                    have X := HQ1.out.laid HF.out HA.out HF6.out HO6.out (by have := layL_len l pn bl; have := HBL.out.2; omega) (by have := layL_len l pn bl; have := HQ.out.le; omega) (take_layL l bl pn l0 (by omega) HQ.out.le)
                    have t08 : (w6.setCell ⟨fb, 0, Option.none⟩ (.slice A6 n6 c6)).cell? ⟨vb, 0, Option.none⟩ = some (.string tl) := (World.cell?_of_block (w := w6) (a := ⟨vb, 0, Option.none⟩) (heap_setCell_other _ _ _ _ (fun e => HVS2.out.1 (by have h := HF.out.sf; simp only at e; rw [← e] at h; exact h)))).trans t06
                    have HX8 := Lib.hid X
                    clear X t06 f06 z06 HO6 HF6 HF HA HLY HNV y0 y1 y2 s0 s1 s2 f0 z0 he HQ HQ1 HOB2 HVS2
                    go_wp2_with fail
                    go_meet
                    exact ⟨rfl, _, _, HX8, t08⟩
                case rest =>
                  obtain ⟨rfl, l', S2, HX8, t08⟩ := hcut
                  clear HF HA HLY HNV s0 s1 s2 f0 z0 he HQ HQ1 HOB2 HVS2
                  obtain ⟨w9, hrun9, hk9, hg9⟩ := HX8.out.km.put
                  have HX9 := Lib.hid (HX8.out.put hk9 hg9)
                  clear hk9 hg9 HX8
                  go_wp2_with fail
                  go_roundw
                  case measure => simp [intOf]; omega
                  case rel => exact ⟨k + 1, by omega, by go_num, _, _, _, HX9⟩
        · obtain rfl : k = np := by omega
          clear hlt
          by_cases hdrop : f.sure = false ∧ kp = false
          · obtain ⟨hsu, rfl⟩ := hdrop
            obtain ⟨w6, w7, w9, r6, n7, t7, e2, lk, c57, r9, n9, hd9, hf9⟩ := Crash_drop wr HM.out.dk ⟨l, f.safe, f.sure⟩ rfl _ false HM.out.km
            simp only [hsu] at e2
            obtain ⟨_, _, _, b5, _, _, _⟩ := HM.out.dk.cells
            obtain ⟨_, _, _, x3, x4, x5, x6⟩ := hd9.cells
            have u3 := hd9.froz 3
            have u4 := hd9.froz 4
            have u6 := hd9.froz 6
            obtain ⟨wE, hwE⟩ : ∃ wE, wE = ((w9.setCell ⟨db, 6, Option.none⟩ (.slice Option.none 0 0)).setCell ⟨db, 4, Option.none⟩ (.bool false)).setCell ⟨db, 3, Option.none⟩ (.bool false) := ⟨_, rfl⟩
            obtain ⟨hdE, hFE⟩ := hd9.off hwE
            have HE := Lib.hid hdE
            have HF := Lib.hid ((HM.out.fr.trans hf9).trans hFE)
            have HWE := Lib.hid hwE
            have HSU := Lib.hid hsu
            obtain ⟨_, _, _, _, _, m5, _⟩ := HM.out.dk.cells
            clear hd9 hf9 hdE hFE hwE hsu
            go_wp2_with fail
            go_loopg [10] 1 (fun g v wx => (g = 1 ∧ wx = w6) ∨ (g = 0 ∧ wx = w9))
            case atStart => exact .inl ⟨rfl, rfl⟩
            case round =>
              rcases hrel with ⟨rfl, rfl⟩ | ⟨rfl, rfl⟩
              · go_wp2_with fail
                go_roundg 0
                case measure => omega
                case rel => exact .inr ⟨rfl, rfl⟩
              · go_wp2_with fail
                rw [← HWE.out]
                refine ⟨rfl, .tuple #[], ?_, rfl, _, HF.out, .inr ⟨HSU.out, HE.out⟩⟩
                first | rfl | (simp [Results, Try.f34]; done) | kernel_rfl
          · obtain ⟨w6, w7, w8, w9, An9, cn9, As9, cs9, g9, k9, S9, r6, n7, t7, hl7, e0, e2, lk, r8, z1, z2, y1, y2, hw9, n9, hd9, hf9⟩ := Crash_keep wr HM.out.dk ⟨l, f.safe, f.sure⟩ rfl _ kp HM.out.km
            obtain ⟨_, _, _, x3, x4, x5, x6⟩ := hd9.cells
            have u3 := hd9.froz 3
            have u4 := hd9.froz 4
            have u6 := hd9.froz 6
            obtain ⟨wE, hwE⟩ : ∃ wE, wE = ((w9.setCell ⟨db, 6, Option.none⟩ (.slice Option.none 0 0)).setCell ⟨db, 4, Option.none⟩ (.bool false)).setCell ⟨db, 3, Option.none⟩ (.bool false) := ⟨_, rfl⟩
            obtain ⟨hdE, hFE⟩ := hd9.off hwE
            have HE := Lib.hid hdE
            have HF := Lib.hid ((HM.out.fr.trans hf9).trans hFE)
            have HWE := Lib.hid hwE
            have HW9 := Lib.hid hw9
            have HDR := Lib.hid hdrop
            obtain ⟨_, _, _, _, _, m5, _⟩ := HM.out.dk.cells
            simp only at e0 e2 y1 y2 r8
            clear hd9 hf9 hdE hFE hwE hw9 hdrop
            generalize hsu : f.sure = su at e2 y2
            have HKK : Hid (su = true ∨ (su = false ∧ kp = true)) := Lib.hid (by
              have h1 := HDR.out
              rw [hsu] at h1
              cases su <;> cases kp <;> simp at h1 ⊢)
            clear hsu
            go_wp2_with fail
            go_loopg [10] 1 (fun g v wx => (g = 1 ∧ wx = w6) ∨ (g = 0 ∧ wx = w9))
            case atStart => exact .inl ⟨rfl, rfl⟩
            case round =>
              rcases hrel with ⟨rfl, rfl⟩ | ⟨rfl, rfl⟩
              · rcases HKK.out with rfl | ⟨rfl, rfl⟩
                · go_wp2_with fail
                  go_roundg 0
                  case measure => omega
                  case rel => exact .inr ⟨rfl, HW9.out.symm⟩
                · go_wp2_with fail
                  go_roundg 0
                  case measure => omega
                  case rel => exact .inr ⟨rfl, HW9.out.symm⟩
              · go_wp2_with fail
                rw [← HWE.out]
                refine ⟨rfl, .tuple #[], ?_, rfl, _, HF.out, .inl ⟨_, HE.out, HM.out.le, HM.out.tk⟩⟩
                first | rfl | (simp [Results, Try.f34]; done) | kernel_rfl
end
end Go.Proofs.Ytlplhllcohoeaaa

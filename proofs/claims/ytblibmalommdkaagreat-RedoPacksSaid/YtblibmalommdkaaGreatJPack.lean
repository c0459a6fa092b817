/-
  A journal's bytes, plain: what is packed is read again. No program in sight.
-/
import Derived.Test.YtblibmalommdkaaGreatJSpec
namespace Go.Proofs.YtblibmalommdkaaGreat
open Go.RowKit
open Re (Bytes num many pPlan pRange pWave pStep pPart leVal leB leB_length leB_bytes packS packS_length packS_bytes openS openS_pack bytes_append Sup)
def bRange (r : R) : List Int := leB r.1 4 ++ leB r.2 4
def bPart (x : S) : List Int := leB x.src 1 ++ (leB x.at_ 4 ++ leB x.len 1)
def bStep (s : Stp) : List Int := leB s.1 4 ++ (leB s.2.length 1 ++ s.2.flatMap bPart)
def bWave (v : List Stp) : List Int := leB v.length 1 ++ v.flatMap bStep
def bPlan (p : Pln) : List Int := leB p.size 4 ++ (leB p.stash.length 4 ++ (p.stash.flatMap bRange ++ (leB p.waves.length 4 ++ p.waves.flatMap bWave)))
def packJ (j : Jn) : List Int := leB j.old 4 ++ (packS j.sup ++ (bPlan j.pln ++ j.stash))
def F4 (n : Int) : Prop := 0 ≤ n ∧ n < 4294967296
def F1 (n : Int) : Prop := 0 ≤ n ∧ n < 256
/-- The numbers of a plan fit their bytes. -/
structure FitP (p : Pln) : Prop where
  size : F4 p.size
  st : ∀ r ∈ p.stash, F4 r.1 ∧ F4 r.2
  sl : p.stash.length ≤ 60
  wl : p.waves.length ≤ 200
  w1 : ∀ v ∈ p.waves, v.length ≤ 64
  s4 : ∀ v ∈ p.waves, ∀ s ∈ v, F4 s.1 ∧ s.2.length ≤ 64 ∧ ∀ x ∈ s.2, F1 x.src ∧ F4 x.at_ ∧ F1 x.len
/-- Bytes that stand at a place. -/
def At (l : List Int) (a : Nat) (e : List Int) : Prop := ∃ t, l.drop a = e ++ t
theorem At.left {l : List Int} {a : Nat} {e f : List Int} (h : At l a (e ++ f)) : At l a e := by
  obtain ⟨t, h⟩ := h
  exact ⟨f ++ t, by rw [h, List.append_assoc]⟩
theorem At.right {l : List Int} {a : Nat} {e f : List Int} (h : At l a (e ++ f)) : At l (a + e.length) f := by
  obtain ⟨t, h⟩ := h
  refine ⟨t, ?_⟩
  rw [← List.drop_drop, h, List.append_assoc, List.drop_left]
theorem At.len {l : List Int} {a : Nat} {e : List Int} (h : At l a e) (he : 1 ≤ e.length) : a + e.length ≤ l.length := by
  obtain ⟨t, h⟩ := h
  have := congrArg List.length h
  rw [List.length_drop, List.length_append] at this
  omega
theorem At.take {l : List Int} {a : Nat} {e : List Int} (h : At l a e) : (l.drop a).take e.length = e := by
  obtain ⟨t, h⟩ := h
  rw [h, List.take_left]
theorem num_at4 {l : List Int} {a : Nat} {v : Int} (h : At l a (leB v 4)) (hv : F4 v) : num l 4 a = some (v, a + 4) := by
  have h1 := h.len (by rw [leB_length]; decide)
  have h2 := h.take
  rw [leB_length] at h1 h2
  unfold num
  rw [if_pos h1, h2, Re.leVal_leB4 v hv.1 hv.2]
theorem num_at1 {l : List Int} {a : Nat} {v : Int} (h : At l a (leB v 1)) (hv : F1 v) : num l 1 a = some (v, a + 1) := by
  have h1 := h.len (by rw [leB_length]; decide)
  have h2 := h.take
  rw [leB_length] at h1 h2
  unfold num
  rw [if_pos h1, h2, Re.leVal_leB1 v hv.1 hv.2]
theorem many_at {α : Type} {f : Nat → Option (α × Nat)} {enc : α → List Int} {l : List Int} : ∀ (xs : List α), (∀ x ∈ xs, ∀ a, At l a (enc x) → f a = some (x, a + (enc x).length)) → ∀ a, At l a (xs.flatMap enc) → many f xs.length a = some (xs, a + (xs.flatMap enc).length)
  | [], _, a, _ => by simp [many]
  | x :: xs, hf, a, h => by
    rw [List.flatMap_cons] at h
    rw [List.length_cons, many, hf x (by simp) a h.left]
    simp only [Option.bind_some]
    rw [many_at xs (fun y hy => hf y (by simp [hy])) _ h.right]
    simp [Nat.add_assoc]
theorem range_at {l : List Int} {r : R} (hr : F4 r.1 ∧ F4 r.2) (a : Nat) (h : At l a (bRange r)) : pRange l a = some (r, a + (bRange r).length) := by
  unfold bRange at h
  have h2 := h.right
  rw [leB_length] at h2
  unfold pRange
  rw [num_at4 h.left hr.1]
  simp only [Option.bind_some]
  rw [num_at4 h2 hr.2]
  simp [bRange, leB_length]
theorem part_at {l : List Int} {x : S} (hx : F1 x.src ∧ F4 x.at_ ∧ F1 x.len) (a : Nat) (h : At l a (bPart x)) : pPart l a = some (x, a + (bPart x).length) := by
  unfold bPart at h
  have h2 := h.right
  rw [leB_length] at h2
  have h3 := h2.right
  rw [leB_length] at h3
  unfold pPart
  rw [num_at1 h.left hx.1]
  simp only [Option.bind_some]
  rw [num_at4 h2.left hx.2.1]
  simp only [Option.bind_some]
  rw [num_at1 h3 hx.2.2]
  simp [bPart, leB_length]
theorem step_at {l : List Int} {s : Stp} (hs : F4 s.1 ∧ s.2.length ≤ 64 ∧ ∀ x ∈ s.2, F1 x.src ∧ F4 x.at_ ∧ F1 x.len) (a : Nat) (h : At l a (bStep s)) : pStep l a = some (s, a + (bStep s).length) := by
  unfold bStep at h
  have h2 := h.right
  rw [leB_length] at h2
  have h3 := h2.right
  rw [leB_length] at h3
  unfold pStep
  rw [num_at4 h.left hs.1]
  simp only [Option.bind_some]
  rw [num_at1 h2.left ⟨by omega, by omega⟩]
  simp only [Option.bind_some]
  rw [show ((s.2.length : Int)).toNat = s.2.length by omega, many_at s.2 (fun x hx a h => part_at (hs.2.2 x hx) a h) _ h3]
  simp only [bStep, List.length_append, leB_length, Option.map_some, Option.some.injEq, Prod.mk.injEq, true_and]; omega
theorem wave_at {l : List Int} {v : List Stp} (hl : v.length ≤ 64) (hv : ∀ s ∈ v, F4 s.1 ∧ s.2.length ≤ 64 ∧ ∀ x ∈ s.2, F1 x.src ∧ F4 x.at_ ∧ F1 x.len) (a : Nat) (h : At l a (bWave v)) : pWave l a = some (v, a + (bWave v).length) := by
  unfold bWave at h
  have h2 := h.right
  rw [leB_length] at h2
  unfold pWave
  rw [num_at1 h.left ⟨by omega, by omega⟩]
  simp only [Option.bind_some]
  rw [show ((v.length : Int)).toNat = v.length by omega, many_at v (fun s hs a h => step_at (hv s hs) a h) _ h2]
  simp [bWave, leB_length, Nat.add_assoc]
theorem plan_at {l : List Int} {p : Pln} (hp : FitP p) (a : Nat) (h : At l a (bPlan p)) : pPlan l a = some (p, a + (bPlan p).length) := by
  unfold bPlan at h
  have h2 := h.right
  rw [leB_length] at h2
  have h3 := h2.right
  rw [leB_length] at h3
  have h4 := h3.right
  have h5 := h4.right
  rw [leB_length] at h5
  have e1 : ((p.stash.length : Int)).toNat = p.stash.length := by omega
  have e2 : ((p.waves.length : Int)).toNat = p.waves.length := by omega
  unfold pPlan
  rw [num_at4 h.left hp.size]
  simp only [Option.bind_some]
  rw [num_at4 h2.left ⟨by omega, by have := hp.sl; omega⟩]
  simp only [Option.bind_some]
  rw [e1, many_at p.stash (fun r hr a h => range_at (hp.st r hr) a h) _ h3.left]
  simp only [Option.bind_some]
  rw [num_at4 h4.left ⟨by omega, by have := hp.wl; omega⟩]
  simp only [Option.bind_some]
  rw [e2, many_at p.waves (fun v hv a h => wave_at (hp.w1 v hv) (hp.s4 v hv) a h) _ h5]
  simp only [bPlan, List.length_append, leB_length, Option.map_some, Option.some.injEq, Prod.mk.injEq, true_and]; omega
/-- What is packed is read again. -/
theorem packJ_reads {j : Jn} (ho : F4 j.old) (hs : Re.okS j.sup) (hp : FitP j.pln) : pJour (packJ j) = some j := by
  have h0 : At (packJ j) 0 (leB j.old 4 ++ (packS j.sup ++ (bPlan j.pln ++ j.stash))) := ⟨[], by rw [List.drop_zero, List.append_nil]; rfl⟩
  have h1 := h0.right
  rw [leB_length] at h1
  have h2 := h1.right
  rw [packS_length] at h2
  have h3 := h2.right
  have hl : 68 ≤ (packJ j).length := by
    unfold packJ
    rw [List.length_append, List.length_append, leB_length, packS_length]; omega
  have ht := h1.left.take
  rw [packS_length] at ht
  have hd : (packJ j).drop (68 + (bPlan j.pln).length) = j.stash := by
    unfold packJ
    rw [← List.append_assoc, ← List.append_assoc]
    have e : 68 + (bPlan j.pln).length = (leB j.old 4 ++ packS j.sup ++ bPlan j.pln).length := by simp only [List.length_append, leB_length, packS_length]
    rw [e, List.drop_left]
  unfold pJour
  rw [num_at4 h0.left ho]
  simp only [Option.bind_some]
  rw [if_pos hl, show 0 + 4 = 4 from rfl] at *
  rw [ht, openS_pack _ hs]
  simp only [Option.bind_some]
  rw [plan_at hp 68 h2.left]
  simp only [Option.map_some]
  rw [hd]
theorem flat_bytes {α : Type} {f : α → List Int} {xs : List α} (h : ∀ x ∈ xs, Bytes (f x)) : Bytes (xs.flatMap f) := by
  intro b hb
  obtain ⟨x, hx, hb⟩ := List.mem_flatMap.1 hb
  exact h x hx b hb
theorem bPlan_bytes (p : Pln) : Bytes (bPlan p) :=
  bytes_append (leB_bytes _ _) (bytes_append (leB_bytes _ _) (bytes_append (flat_bytes fun _r _ => bytes_append (leB_bytes _ _) (leB_bytes _ _)) (bytes_append (leB_bytes _ _) (flat_bytes fun _v _ => bytes_append (leB_bytes _ _) (flat_bytes fun _s _ => bytes_append (leB_bytes _ _) (bytes_append (leB_bytes _ _) (flat_bytes fun _x _ => bytes_append (leB_bytes _ _) (bytes_append (leB_bytes _ _) (leB_bytes _ _)))))))))
theorem packJ_bytes {j : Jn} (h : Bytes j.stash) : Bytes (packJ j) := bytes_append (leB_bytes _ _) (bytes_append (packS_bytes _) (bytes_append (bPlan_bytes _) h))
/-- All waves of a plan that may be run are waves that may be. -/
theorem waves_all {n size tail st : Int} : ∀ {ws : List (List Stp)} {u : Int → Bool}, WavesP n size tail st u ws → ∀ v ∈ ws, ∃ u', WaveP n size tail st u' v
  | [], _, _, v, hv => by cases hv
  | w :: ws, u, h, v, hv => by
    rcases List.mem_cons.1 hv with rfl | hv
    · exact ⟨u, h.1⟩
    · exact waves_all h.2 v hv
theorem parts_small : ∀ {l : List S}, Sc.Ok l → (l.length : Int) ≤ Sc.tot l ∧ ∀ x ∈ l, x.len ≤ Sc.tot l
  | [], _ => ⟨by simp [Sc.tot], fun x hx => by cases hx⟩
  | s :: l, h => by
    have hs := h s (by simp)
    obtain ⟨h1, h2⟩ := parts_small (l := l) (fun x hx => h x (by simp [hx]))
    have h3 := hs.2.2.2.1
    refine ⟨by rw [List.length_cons]; simp only [Sc.tot]; omega, fun x hx => ?_⟩
    simp only [Sc.tot]
    rcases List.mem_cons.1 hx with rfl | hx
    · omega
    · have := h2 x hx; omega
theorem right_totJ : ∀ {l : List R} {a m : Int}, RightF a l → (∀ r ∈ l, r.2 ≤ m) → a ≤ m → tot l ≤ m - a
  | [], _, _, _, _, h => by simp only [tot]; omega
  | r :: l, a, m, h, hm, ha => by
    obtain ⟨h1, h2, h3⟩ := h
    have := right_totJ h3 (fun x hx => hm x (by simp [hx])) (hm r (by simp))
    simp only [tot]; omega
theorem right_nnJ : ∀ {l : List R} {a : Int}, -1 ≤ a → RightF a l → ∀ r ∈ l, 0 ≤ r.1 ∧ r.1 < r.2
  | [], _, _, _, r, hr => by cases hr
  | x :: l, a, ha, h, r, hr => by
    obtain ⟨h1, h2, h3⟩ := h
    rcases List.mem_cons.1 hr with rfl | hr
    · exact ⟨by omega, h2⟩
    · exact right_nnJ (by omega) h3 r hr
/-- What may be fits. -/
theorem may_fits {j : Jn} (h : MayJ j) (hs : j.pln.stash.length ≤ 60) (hw : j.pln.waves.length ≤ 200) : F4 j.old ∧ FitP j.pln ∧ j.stash.length ≤ 1048577 := by
  obtain ⟨h0, h1, hsup, hz, hp, ht⟩ := h
  obtain ⟨p0, p1, hR, hr, hW⟩ := hp
  have htl : 0 ≤ j.sup.tail ∧ j.sup.tail ≤ 16777216 := ⟨hsup.2.2.2.2.2.2.1, hsup.2.2.2.2.2.2.2.1⟩
  have hto := right_totJ hR hr (by omega)
  have hnn := right_nnJ (by omega) hR
  refine ⟨⟨h0, by omega⟩, ⟨⟨p0, by omega⟩, fun r hr' => ?_, hs, hw, fun v hv => ?_, fun v hv s hs' => ?_⟩, by omega⟩
  · have := hr r hr'; have := hnn r hr'
    exact ⟨⟨by omega, by omega⟩, ⟨by omega, by omega⟩⟩
  · obtain ⟨u, hu⟩ := waves_all hW v hv
    exact hu.2.1
  · obtain ⟨u, hu⟩ := waves_all hW v hv
    obtain ⟨k0, k1, k2, _, k3, k4⟩ := hu.2.2.1 s hs'
    have hsm := parts_small k2.1
    have hbl : s.1 < 4294967296 := by unfold blocksN at k1; omega
    have hmin : Sc.tot s.2 ≤ 64 := by rw [k3]; omega
    refine ⟨⟨k0, hbl⟩, by omega, fun x hx => ?_⟩
    have q := k2.1 x hx
    have q1 := hsm.2 x hx
    obtain ⟨g1, _, _⟩ := k4 x hx
    have hat : x.at_ ≤ 16777217 := by
      refine Int.le_trans g1 ?_
      split
      · omega
      · split <;> omega
    obtain ⟨c0, c1, c2, c3, _⟩ := q
    exact ⟨⟨c0, by omega⟩, ⟨c2, by omega⟩, ⟨by omega, by omega⟩⟩
theorem flat_le {α : Type} {f : α → List Int} {q : Nat} : ∀ {xs : List α}, (∀ x ∈ xs, (f x).length ≤ q) → (xs.flatMap f).length ≤ q * xs.length
  | [], _ => by simp
  | x :: xs, h => by
    have h1 := h x (by simp)
    have h2 := flat_le (xs := xs) (fun y hy => h y (by simp [hy]))
    rw [List.flatMap_cons, List.length_append, List.length_cons, Nat.mul_succ]; omega
/-- A wave's bytes, of a wave in memory. -/
def eSt (s : StV) : List Int := leB s.blk 4 ++ (leB s.parts.length 1 ++ s.parts.flatMap bPart)
def eWv (v : WvV) : List Int := leB v.steps.length 1 ++ v.steps.flatMap eSt
theorem eSt_is (s : StV) : eSt s = bStep s.st := rfl
theorem eWv_is (v : WvV) : eWv v = bWave v.wv := by
  unfold eWv bWave WvV.wv
  rw [List.length_map, List.flatMap_map]; rfl
theorem waves_is (Q : List WvV) : Q.flatMap eWv = (Q.map WvV.wv).flatMap bWave := by
  rw [List.flatMap_map]
  congr 1
  funext v
  exact eWv_is v
theorem bRange_len (r : R) : (bRange r).length = 8 := by simp [bRange, leB_length]
theorem bPart_len (x : S) : (bPart x).length = 6 := by simp [bPart, leB_length]
theorem parts_len (l : List S) : (l.flatMap bPart).length ≤ 6 * l.length := flat_le fun x _ => by rw [bPart_len]; exact Nat.le_refl _
theorem ranges_len (l : List R) : (l.flatMap bRange).length ≤ 8 * l.length := flat_le fun x _ => by rw [bRange_len]; exact Nat.le_refl _
theorem eSt_len {s : StV} (h : s.parts.length ≤ 64) : (eSt s).length ≤ 389 := by
  have := parts_len s.parts
  unfold eSt
  simp only [List.length_append, leB_length]; omega
theorem steps_len {l : List StV} (h : ∀ s ∈ l, s.parts.length ≤ 64) : (l.flatMap eSt).length ≤ 389 * l.length := flat_le fun s hs => eSt_len (h s hs)
theorem eWv_len {v : WvV} (h : v.steps.length ≤ 64) (h2 : ∀ s ∈ v.steps, s.parts.length ≤ 64) : (eWv v).length ≤ 24897 := by
  have := steps_len h2
  unfold eWv
  simp only [List.length_append, leB_length]; omega
theorem waves_len {l : List WvV} (h : ∀ v ∈ l, v.steps.length ≤ 64 ∧ ∀ s ∈ v.steps, s.parts.length ≤ 64) : (l.flatMap eWv).length ≤ 24897 * l.length := flat_le fun v hv => eWv_len (h v hv).1 (h v hv).2
/-- What a plan's rows in memory fit. -/
structure FitV (p : PlV) : Prop where
  size : F4 p.size
  st : ∀ r ∈ p.stash, F4 r.1 ∧ F4 r.2
  sl : p.stash.length ≤ 60
  wl : p.waves.length ≤ 200
  w : ∀ v ∈ p.waves, v.steps.length ≤ 64 ∧ ∀ s ∈ v.steps, F4 s.blk ∧ s.parts.length ≤ 64 ∧ ∀ x ∈ s.parts, F1 x.src ∧ F4 x.at_ ∧ F1 x.len
theorem fit_rows {p : PlV} (h : FitP p.pln) : FitV p := by
  refine ⟨h.size, h.st, h.sl, by have := h.wl; simpa [PlV.pln] using this, fun v hv => ?_⟩
  have hm : v.wv ∈ p.pln.waves := List.mem_map.2 ⟨v, hv, rfl⟩
  refine ⟨by have := h.w1 _ hm; simpa [WvV.wv] using this, fun s hs => ?_⟩
  exact h.s4 _ hm s.st (List.mem_map.2 ⟨s, hs, rfl⟩)
/-- A journal's bytes, by its rows in memory. -/
theorem packJ_rows (v : JnV) : packJ v.jn = leB v.old 4 ++ packS v.sup ++ leB v.p.size 4 ++ leB v.p.stash.length 4 ++ v.p.stash.flatMap bRange ++ leB v.p.waves.length 4 ++ v.p.waves.flatMap eWv ++ v.stash := by
  rw [waves_is]
  show leB v.old 4 ++ (packS v.sup ++ (bPlan v.p.pln ++ v.stash)) = _
  unfold bPlan PlV.pln
  simp only [List.length_map, List.append_assoc]
theorem FitV.wlen {p : PlV} (h : FitV p) {l : List WvV} (hs : ∀ v ∈ l, v ∈ p.waves) : (l.flatMap eWv).length ≤ 24897 * l.length := waves_len fun v hv => ⟨(h.w v (hs v hv)).1, fun s hss => ((h.w v (hs v hv)).2 s hss).2.1⟩
end Go.Proofs.YtblibmalommdkaaGreat

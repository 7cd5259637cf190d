/- law09 (plain): a thread alone, and the same thread beside one that asks no memory. -/
import Derived.Test.YtjmnogpnjombgaaDoorTsA4
import Derived.Test.YtjmnogpnjombgaaDoorSim
namespace Go.Proofs.YtjmnogpnjombgaaDoor
open Go.ChangeShapes Go.WideShapes Go.ChangeAt Go.RowKit Go.Deep
set_option linter.unusedVariables false
set_option maxRecDepth 100000
set_option linter.unusedSimpArgs false

theorem getD_set_eq {α : Type} (l : List α) (i : Nat) (x d : α) (h : i < l.length) : (l.set i x).getD i d = x := by simp [List.getD_eq_getElem?_getD, List.getElem?_set_self h]
theorem getD_set_off {α : Type} (l : List α) {i j : Nat} (x d : α) (h : i ≠ j) : (l.set i x).getD j d = l.getD j d := by simp [List.getD_eq_getElem?_getD, List.getElem?_set_ne h]

/-- Two machines: of two threads, and of the first of them alone. -/
structure ApB (A C : MB) : Prop where
  m : A.m = C.m
  room : A.room = C.room
  nA : A.codes.length = 2
  nC : C.codes.length = 1
  l0 : (A.codes.getD 0 cdd).len = (C.codes.getD 0 cdd).len
  F0 : ∀ i, i < (A.codes.getD 0 cdd).len → (A.codes.getD 0 cdd).F i = (C.codes.getD 0 cdd).F i
  quiet : ∀ i, i < (A.codes.getD 1 cdd).len → askB ((A.codes.getD 1 cdd).F i).op = false ∧ ((A.codes.getD 1 cdd).F i).op ≠ 25
structure Ap (s u : Mst) : Prop where
  th : s.ths.getD 0 tha = u.ths.getD 0 tha
  n2 : s.ths.length = 2
  n1 : u.ths.length = 1
  buf : s.bufs.getD 0 [] = u.bufs.getD 0 []
  buf1 : s.bufs.getD 1 [] = []
  b2 : s.bufs.length = 2
  b1 : u.bufs.length = 1
  mem : s.mem = u.mem
  slp : s.slp = u.slp
  who : ∀ x ∈ s.slp, x.1 = 0
section
variable {s u : Mst}
theorem Ap.notes (h : Ap s u) (t : Int) (x y : Evt) : Ap (noteM t s x) (noteM t u y) := ⟨h.th, h.n2, h.n1, h.buf, h.buf1, h.b2, h.b1, h.mem, h.slp, h.who⟩
theorem Ap.flush (h : Ap s u) : Ap (tflush 0 s) (tflush 0 u) := by
  cases hb : s.bufs.getD 0 [] with
  | nil =>
    have hb' : u.bufs.getD 0 [] = [] := by rw [← h.buf]; exact hb
    rw [tflush_nil hb, tflush_nil hb']
    exact h
  | cons x l =>
    have hb' : u.bufs.getD 0 [] = x :: l := by rw [← h.buf]; exact hb
    rw [tflush_cons hb, tflush_cons hb']
    refine ⟨h.th, h.n2, h.n1, ?_, ?_, ?_, ?_, ?_, h.slp, h.who⟩
    · show (s.bufs.set 0 l).getD 0 [] = (u.bufs.set 0 l).getD 0 []
      rw [getD_set_eq _ _ _ _ (by rw [h.b2]; decide), getD_set_eq _ _ _ _ (by rw [h.b1]; decide)]
    · show (s.bufs.set 0 l).getD 1 [] = []
      rw [getD_set_off _ _ _ (by decide)]; exact h.buf1
    · show (s.bufs.set 0 l).length = 2
      rw [List.length_set]; exact h.b2
    · show (u.bufs.set 0 l).length = 1
      rw [List.length_set]; exact h.b1
    · show s.mem.set _ _ = u.mem.set _ _
      rw [h.mem]
theorem Ap.flushN : ∀ (k : Nat) {s u : Mst}, Ap s u → Ap (tflushN 0 k s) (tflushN 0 k u)
  | 0, _, _, h => h
  | k + 1, _, _, h => Ap.flushN k h.flush
theorem Ap.remote (h : Ap s u) : Ap (tremote s) (tremote u) := by
  have h1 : Ap (tdrain s 0) (tdrain u 0) := by unfold tdrain; rw [h.buf]; exact h.flushN _
  have e1 : tremote s = tdrain (tdrain s 0) 1 := by unfold tremote; rw [h.b2]; rfl
  have e2 : tremote u = tdrain u 0 := by unfold tremote; rw [h.b1]; rfl
  have e3 : tdrain (tdrain s 0) 1 = tdrain s 0 := by
    generalize tdrain s 0 = r at h1
    unfold tdrain
    rw [h1.buf1]
    rfl
  rw [e1, e2, e3]
  exact h1
theorem runT_zero : ∀ (ws : List Int) (A C : List Th), (∀ w ∈ ws, w = 0) → 0 < A.length → 0 < C.length → A.getD 0 tha = C.getD 0 tha → (runT A ws).getD 0 tha = (runT C ws).getD 0 tha
  | [], A, C, _, _, _, h => h
  | w :: ws, A, C, hw, hA, hC, h => by
    have hw0 : w = 0 := hw w (by simp)
    subst hw0
    show (runT (A.set 0 { A.getD 0 tha with st := 0 }) ws).getD 0 tha = (runT (C.set 0 { C.getD 0 tha with st := 0 }) ws).getD 0 tha
    refine runT_zero ws _ _ (fun w h1 => hw w (List.mem_cons_of_mem _ h1)) (by rw [List.length_set]; exact hA) (by rw [List.length_set]; exact hC) ?_
    rw [getD_set_eq _ _ _ _ hA, getD_set_eq _ _ _ _ hC, h]
theorem Ap.wake (h : Ap s u) (a : Nat) (v : Int) : (wakeM s a v).1 = (wakeM u a v).1 ∧ Ap (wakeM s a v).2 (wakeM u a v).2 := by
  unfold wakeM
  rw [← h.slp]
  obtain ⟨k1, k2⟩ := wk_sub (a : Int) v.toNat s.slp
  refine ⟨rfl, runT_zero _ _ _ (fun w hw => ?_) (by rw [h.n2]; decide) (by rw [h.n1]; decide) h.th, ?_, ?_, h.buf, h.buf1, h.b2, h.b1, h.mem, rfl, fun x hx => h.who x (k1 x hx)⟩
  · obtain ⟨x, hx, e⟩ := k2 w hw
    rw [← e]
    exact h.who x hx
  · show (runT _ _).length = 2
    rw [runT_len]; exact h.n2
  · show (runT _ _).length = 1
    rw [runT_len]; exact h.n1
theorem Ap.sleep (h : Ap s u) (a : Nat) : Ap (sleepM 0 s a) (sleepM 0 u a) := by
  unfold sleepM
  rw [← h.slp]
  by_cases c : slpE s.slp 0 = 0
  · rw [if_pos c, if_pos c]
    refine ⟨h.th, h.n2, h.n1, h.buf, h.buf1, h.b2, h.b1, h.mem, rfl, fun x hx => ?_⟩
    rcases List.mem_append.1 hx with hx | hx
    · exact h.who x hx
    · rw [List.mem_singleton.1 hx]
  · rw [if_neg c, if_neg c]
    exact h
theorem Ap.see (h : Ap s u) (a : Nat) : seeM 0 s a = seeM 0 u a := by unfold seeM; rw [h.buf, h.mem]
theorem Ap.store (h : Ap s u) (x : List Ent) : Ap { s with bufs := s.bufs.set 0 x } { u with bufs := u.bufs.set 0 x } := by
  refine ⟨h.th, h.n2, h.n1, ?_, ?_, ?_, ?_, h.mem, h.slp, h.who⟩
  · show (s.bufs.set 0 x).getD 0 [] = (u.bufs.set 0 x).getD 0 []
    rw [getD_set_eq _ _ _ _ (by rw [h.b2]; decide), getD_set_eq _ _ _ _ (by rw [h.b1]; decide)]
  · show (s.bufs.set 0 x).getD 1 [] = []
    rw [getD_set_off _ _ _ (by decide)]; exact h.buf1
  · show (s.bufs.set 0 x).length = 2
    rw [List.length_set]; exact h.b2
  · show (u.bufs.set 0 x).length = 1
    rw [List.length_set]; exact h.b1
theorem ap_ops {A C : MB} (hB : ApB A C) : OpsSim (tOps A 0) (tOps C 0) True Ap Ap where
  size := hB.m
  sub := fun _ _ h => h
  load := fun s u a _ h => ⟨h.see a, h⟩
  store := fun s u a v _ h => by
    show Ap (if a < A.m then _ else s) (if a < C.m then _ else u)
    rw [← hB.m]
    by_cases c : a < A.m
    · rw [if_pos c, if_pos c, h.buf]
      exact h.store _
    · rw [if_neg c, if_neg c]
      exact h
  swap := fun _ s u a v _ h => ⟨h.th, h.n2, h.n1, h.buf, h.buf1, h.b2, h.b1, by show s.mem.set a v = u.mem.set a v; rw [h.mem], h.slp, h.who⟩
  sleep := fun _ s u a h => h.sleep a
  wake := fun _ s u a v h => h.wake a v
  remote := fun _ s u h => h.remote
  note := fun s u x h => h.notes _ _ _
  note' := fun s u x h => h.notes _ _ _
theorem Ap.setTh (h : Ap s u) (th : Th) : Ap { s with ths := s.ths.set 0 th } { u with ths := u.ths.set 0 th } := by
  refine ⟨?_, ?_, ?_, h.buf, h.buf1, h.b2, h.b1, h.mem, h.slp, h.who⟩
  · show (s.ths.set 0 th).getD 0 tha = (u.ths.set 0 th).getD 0 tha
    rw [getD_set_eq _ _ _ _ (by rw [h.n2]; decide), getD_set_eq _ _ _ _ (by rw [h.n1]; decide)]
  · show (s.ths.set 0 th).length = 2
    rw [List.length_set]; exact h.n2
  · show (u.ths.set 0 th).length = 1
    rw [List.length_set]; exact h.n1
theorem Ap.step {A C : MB} (hB : ApB A C) (hA : MBok A) (h : Ap s u) (ho : TOk A s) : Ap (tStep A s 0) (tStep C u 0) := by
  have hcd := hA.cods _ (getD_mem (show 0 < A.codes.length by rw [hB.nA]; decide) (d := cdd))
  obtain ⟨e1, e2⟩ := stepR_sim (ap_ops hB) h (s.ths.getD 0 tha) (A.codes.getD 0 cdd) (C.codes.getD 0 cdd) hB.l0 hB.F0
    (fun hp => (addrF_u32 _ _ (hcd.ins _ hp).k0 (hcd.ins _ hp).k1).1)
    (fun _ _ _ => ⟨by show decide ((s.bufs.getD 0 []).length = 0) = decide ((u.bufs.getD 0 []).length = 0); rw [h.buf], fun _ => trivial⟩)
    (fun _ _ _ => by show decide (((s.bufs.getD 0 []).length : Int) < A.room) = decide (((u.bufs.getD 0 []).length : Int) < C.room); rw [h.buf, hB.room])
    h.flush
  unfold tStep
  rw [← h.th]
  show Ap { (stepR (tOps A 0) s (s.ths.getD 0 tha) (A.codes.getD 0 cdd)).2 with ths := _ } { (stepR (tOps C 0) u (s.ths.getD 0 tha) (C.codes.getD 0 cdd)).2 with ths := _ }
  rw [← e1]
  exact e2.setTh _
/-- Who asks no memory changes nothing of it. -/
structure Calm (s r : Mst) : Prop where
  ths : r.ths = s.ths
  bufs : r.bufs = s.bufs
  mem : r.mem = s.mem
  slp : r.slp = s.slp
theorem Calm.refl (s : Mst) : Calm s s := ⟨rfl, rfl, rfl, rfl⟩
theorem Calm.note (t : Int) (s : Mst) (x : Evt) : Calm s (noteM t s x) := ⟨rfl, rfl, rfl, rfl⟩
theorem calm_step {A : MB} (t : Nat) (s : Mst) (hb : s.bufs.getD t [] = []) (th : Th) (c : Cd) (hc : ∀ i, i < c.len → askB (c.F i).op = false ∧ (c.F i).op ≠ 25) : Calm s (stepR (tOps A t) s th c).2 := by
  unfold stepR
  split
  · exact .refl s
  split
  · exact .note _ _ _
  rename_i c2
  obtain ⟨hk, h25⟩ := hc th.pc.toNat (by omega)
  split
  · exact .note _ _ _
  split
  · exact .note _ _ _
  unfold insR
  have he : (tOps A t).empty s = true := by
    show decide ((s.bufs.getD t []).length = 0) = true
    rw [hb]; rfl
  have hk' := of_decide_eq_false hk
  rw [if_neg (fun q => by rw [he] at q; cases q.2), if_neg (fun q => by omega)]
  split
  · exact .note _ _ _
  split
  · exact .refl s
  rw [if_neg (by rw [hk]; decide)]
  show Calm s (plainR (tOps A t) s th _ _ _ _ _ _).2
  unfold plainR
  split
  · exact .refl s
  split
  · exact .refl s
  split
  · exact .note _ _ _
  split
  · exact .note _ _ _
  split
  · exact .note _ _ _
  split
  · omega
  split
  · exact .refl s
  · exact .refl s
theorem Ap.calm {r : Mst} (h : Ap s u) (k : Calm s r) (th : Th) : Ap { r with ths := r.ths.set 1 th } u := by
  refine ⟨?_, ?_, h.n1, by rw [← h.buf]; show r.bufs.getD 0 [] = _; rw [k.bufs], by show r.bufs.getD 1 [] = []; rw [k.bufs]; exact h.buf1, by show r.bufs.length = 2; rw [k.bufs]; exact h.b2, h.b1, by rw [← h.mem]; exact k.mem, by rw [← h.slp]; exact k.slp, fun x hx => h.who x (k.slp ▸ hx)⟩
  · show (r.ths.set 1 th).getD 0 tha = _
    rw [getD_set_off _ _ _ (by decide), k.ths]; exact h.th
  · show (r.ths.set 1 th).length = 2
    rw [List.length_set, k.ths]; exact h.n2
theorem Ap.rouse (h : Ap s u) : Ap (rouseM 0 s) (rouseM 0 u) := by
  unfold rouseM
  rw [← h.slp]
  show Ap (if fnd s.slp 0 < s.slp.length then _ else s) (if fnd s.slp 0 < s.slp.length then _ else u)
  by_cases c : fnd s.slp 0 < s.slp.length
  · rw [if_pos c, if_pos c, ← h.th]
    refine Ap.notes ?_ _ _ _
    have h1 := h.setTh { s.ths.getD 0 tha with st := 0 }
    exact ⟨h1.th, h1.n2, h1.n1, h1.buf, h1.buf1, h1.b2, h1.b1, h1.mem, rfl, fun x hx => h.who x (List.mem_of_mem_eraseIdx hx)⟩
  · rw [if_neg c, if_neg c]
    exact h
theorem rouse_none (h : ∀ x ∈ s.slp, x.1 = 0) : rouseM 1 s = s := by
  unfold rouseM
  rw [if_neg]
  have : fnd s.slp ((1 : Nat) : Int) = s.slp.length := by
    unfold fnd
    rw [List.findIdx_eq_length]
    intro x hx
    rw [h x hx]
    decide
  omega
theorem Ap.pick {A C : MB} (hB : ApB A C) (hA : MBok A) (h : Ap s u) (ho : TOk A s) (x : Int × Int) : Ap (tPick A s x) (if x.2 = 0 then tPick C u x else u) := by
  obtain ⟨k, w⟩ := x
  by_cases c : w = 0
  · subst c
    show Ap (tPick A s (k, ((0 : Nat) : Int))) (tPick C u (k, ((0 : Nat) : Int)))
    rw [tPick_in k 0 (by rw [h.n2]; decide), tPick_in k 0 (by rw [h.n1]; decide)]
    by_cases c1 : k = 0
    · rw [if_pos c1, if_pos c1]; exact h.step hB hA ho
    rw [if_neg c1, if_neg c1]
    by_cases c2 : k = 1
    · rw [if_pos c2, if_pos c2]; exact h.flush
    rw [if_neg c2, if_neg c2]
    by_cases c3 : k = 2
    · rw [if_pos c3, if_pos c3]; exact h.rouse
    rw [if_neg c3, if_neg c3]
    exact h
  · rw [if_neg c]
    by_cases c1 : w < 0 ∨ (s.ths.length : Int) ≤ w
    · rw [tPick_out (k, w) c1]; exact h
    have hw : w = ((1 : Nat) : Int) := by rw [h.n2] at c1; omega
    rw [hw, tPick_in k 1 (by rw [h.n2]; decide)]
    by_cases c2 : k = 0
    · rw [if_pos c2]
      unfold tStep
      exact h.calm (calm_step 1 s h.buf1 _ _ hB.quiet) _
    rw [if_neg c2]
    by_cases c3 : k = 1
    · rw [if_pos c3, tflush_nil h.buf1]; exact h
    rw [if_neg c3]
    by_cases c4 : k = 2
    · rw [if_pos c4, rouse_none h.who]; exact h
    rw [if_neg c4]
    exact h
end
/-- What the machine of one thread does beside. -/
def apRun (C : MB) (u : Mst) (l : List (Int × Int)) : Mst := l.foldl (fun u x => if x.2 = 0 then tPick C u x else u) u
theorem ap_run {A C : MB} (hB : ApB A C) (hA : MBok A) : ∀ (l : List (Int × Int)) (s u : Mst), Ap s u → TOk A s → Ap (tRun A s l) (apRun C u l)
  | [], _, _, h, _ => h
  | x :: l, _, _, h, ho => ap_run hB hA l _ _ (h.pick hB hA ho x) (tPick_ok hA ho x)
theorem ap_start {p q : Pg} (hp : p.n = 2) (hq : q.n = 1) (hm : (List.range p.m).map p.Z = (List.range q.m).map q.Z) : Ap (t0 p) (t0 q) := by
  unfold t0
  rw [hp, hq, hm]
  exact ⟨rfl, rfl, rfl, rfl, rfl, rfl, rfl, rfl, rfl, fun x hx => by cases hx⟩
end Go.Proofs.YtjmnogpnjombgaaDoor

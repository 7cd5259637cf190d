/- law10 (plain): a machine without buffers, and one whose only buffer that holds something is a thread's: alike, but that the buffer is not in memory yet. -/
import Derived.Test.YtjmnogpnjombgaaDoorTsA4
import Derived.Test.YtjmnogpnjombgaaDoorSim
namespace Go.Proofs.YtjmnogpnjombgaaDoor
open Go.ChangeShapes Go.WideShapes Go.ChangeAt Go.RowKit Go.Deep
set_option linter.unusedVariables false
set_option maxRecDepth 100000
set_option linter.unusedSimpArgs false

theorem getD_setE {α : Type} (l : List α) (i : Nat) (x d : α) (h : i < l.length) : (l.set i x).getD i d = x := by simp [List.getD_eq_getElem?_getD, List.getElem?_set_self h]
theorem getD_setN {α : Type} (l : List α) {i j : Nat} (x d : α) (h : i ≠ j) : (l.set i x).getD j d = l.getD j d := by simp [List.getD_eq_getElem?_getD, List.getElem?_set_ne h]
/-- Memory, once the entries are in it. -/
def appl (l : List Ent) (m : List Int) : List Int := l.foldl (fun m e => m.set e.1.toNat e.2) m
theorem appl_len (l : List Ent) : ∀ m, (appl l m).length = m.length := by
  induction l with
  | nil => intro m; rfl
  | cons x l ih =>
    intro m
    show (appl l (m.set x.1.toNat x.2)).length = _
    rw [ih, List.length_set]
theorem appl_snoc (l : List Ent) (x : Ent) (m : List Int) : appl (l ++ [x]) m = (appl l m).set x.1.toNat x.2 := by unfold appl; rw [List.foldl_append]; rfl
theorem see_appl (m : List Int) (a : Nat) (ha : a < m.length) (l : List Ent) (hl : ∀ e ∈ l, 0 ≤ e.1) : (if (fnB l (a : Int)).2 = true then (fnB l (a : Int)).1 else m.getD a 0) = (appl l m).getD a 0 := by
  suffices h : ∀ r : List Ent, (∀ e ∈ r, 0 ≤ e.1) → (if (fnB r.reverse (a : Int)).2 = true then (fnB r.reverse (a : Int)).1 else m.getD a 0) = (appl r.reverse m).getD a 0 by
    have := h l.reverse (fun e he => hl e (List.mem_reverse.1 he))
    rwa [List.reverse_reverse] at this
  intro r
  induction r with
  | nil => intro _; rfl
  | cons x r ih =>
    intro hr
    have h1 := ih (fun e he => hr e (List.mem_cons_of_mem _ he))
    have hx := hr x (by simp)
    rw [List.reverse_cons, fnB_snoc, appl_snoc]
    by_cases c : x.1 = (a : Int)
    · rw [if_pos c, c, Int.toNat_natCast, getD_setE _ _ _ _ (by rw [appl_len]; exact ha)]
      rfl
    · rw [if_neg c, h1, getD_setN _ _ _ (by intro q; apply c; omega)]

/-- Alike, but for a thread's buffer. -/
structure VR (B : MB) (t : Nat) (s u : Mst) : Prop where
  ths : s.ths = u.ths
  slp : s.slp = u.slp
  mem : s.mem = appl (u.bufs.getD t []) u.mem
  off : ∀ i, i ≠ t → u.bufs.getD i [] = []
  who : s.who = (t : Int)
  bt : t < u.bufs.length
  ml : u.mem.length = B.m
  nn : ∀ e ∈ u.bufs.getD t [], 0 ≤ e.1
section
variable {B C : MB} {t : Nat} {s u : Mst}
theorem VR.flush (h : VR B t s u) : VR B t s (tflush t u) := by
  cases hb : u.bufs.getD t [] with
  | nil => rw [tflush_nil hb]; exact h
  | cons x l =>
    have hm := h.mem
    have hn := h.nn
    rw [hb] at hm hn
    rw [tflush_cons hb]
    refine ⟨h.ths, h.slp, ?_, fun i hi => ?_, h.who, ?_, ?_, ?_⟩
    · show s.mem = appl ((u.bufs.set t l).getD t []) (u.mem.set x.1.toNat x.2)
      rw [getD_setE _ _ _ _ h.bt]
      exact hm
    · show (u.bufs.set t l).getD i [] = []
      rw [getD_setN _ _ _ (Ne.symm hi)]
      exact h.off i hi
    · show t < (u.bufs.set t l).length
      rw [List.length_set]; exact h.bt
    · show (u.mem.set _ _).length = B.m
      rw [List.length_set]; exact h.ml
    · show ∀ e ∈ (u.bufs.set t l).getD t [], 0 ≤ e.1
      rw [getD_setE _ _ _ _ h.bt]
      exact fun e he => hn e (List.mem_cons_of_mem _ he)
theorem VR.flushN : ∀ (k : Nat) {u : Mst}, VR B t s u → VR B t s (tflushN t k u)
  | 0, _, h => h
  | k + 1, _, h => VR.flushN k h.flush
theorem VR.notes (h : VR B t s u) (x y : Evt) : VR B t (noteM s.who s x) (noteM (t : Int) u y) := ⟨h.ths, h.slp, h.mem, h.off, h.who, h.bt, h.ml, h.nn⟩
theorem VR.see (h : VR B t s u) (a : Nat) (ha : a < B.m) : s.mem.getD a 0 = seeM t u a := by
  unfold seeM
  rw [see_appl _ _ (by rw [h.ml]; exact ha) _ h.nn, ← h.mem]
theorem VR.store (h : VR B t s u) (a : Nat) (ha : a < B.m) (v : Int) : VR B t { s with mem := s.mem.set a v } { u with bufs := u.bufs.set t (u.bufs.getD t [] ++ [((a : Int), v)]) } := by
  refine ⟨h.ths, h.slp, ?_, fun i hi => ?_, h.who, ?_, h.ml, ?_⟩
  · show s.mem.set a v = appl ((u.bufs.set t _).getD t []) u.mem
    rw [getD_setE _ _ _ _ h.bt, appl_snoc, ← h.mem, Int.toNat_natCast]
  · show (u.bufs.set t _).getD i [] = []
    rw [getD_setN _ _ _ (Ne.symm hi)]
    exact h.off i hi
  · show t < (u.bufs.set t _).length
    rw [List.length_set]; exact h.bt
  · show ∀ e ∈ (u.bufs.set t _).getD t [], 0 ≤ e.1
    rw [getD_setE _ _ _ _ h.bt]
    intro e he
    rcases List.mem_append.1 he with he | he
    · exact h.nn e he
    · rw [List.mem_singleton.1 he]; show (0 : Int) ≤ (a : Int); omega
theorem VR.wake (h : VR B t s u) (a : Nat) (v : Int) : (wakeM s a v).1 = (wakeM u a v).1 ∧ VR B t (wakeM s a v).2 (wakeM u a v).2 := by
  unfold wakeM
  rw [h.slp, h.ths]
  exact ⟨rfl, rfl, rfl, h.mem, h.off, h.who, h.bt, h.ml, h.nn⟩
theorem VR.sleep (h : VR B t s u) (a : Nat) : VR B t (sleepM s.who s a) (sleepM (t : Int) u a) := by
  unfold sleepM
  rw [h.who, h.slp]
  by_cases c : slpE u.slp (t : Int) = 0
  · rw [if_pos c, if_pos c]
    exact ⟨h.ths, rfl, h.mem, h.off, rfl, h.bt, h.ml, h.nn⟩
  · rw [if_neg c, if_neg c]
    exact h
theorem tflushN_nil (t : Nat) : ∀ k (u : Mst), u.bufs.getD t [] = [] → tflushN t k u = u
  | 0, _, _ => rfl
  | k + 1, u, h => by
    show tflushN t k (tflush t u) = u
    rw [tflush_nil h]
    exact tflushN_nil t k u h
theorem tremote_nil (h : ∀ i, u.bufs.getD i [] = []) : tremote u = u := by
  unfold tremote
  generalize List.range u.bufs.length = l
  induction l with
  | nil => rfl
  | cons i l ih =>
    rw [List.foldl_cons]
    have : tdrain u i = u := by unfold tdrain; rw [h i]; rfl
    rw [this]
    exact ih
/-- With nothing in the buffer. -/
def VE (B : MB) (t : Nat) (s u : Mst) : Prop := VR B t s u ∧ u.bufs.getD t [] = []
theorem VE.all (h : VE B t s u) : ∀ i, u.bufs.getD i [] = [] := fun i => by
  by_cases c : i = t
  · rw [c]; exact h.2
  · exact h.1.off i c
theorem VE.mem (h : VE B t s u) : s.mem = u.mem := by
  have := h.1.mem
  rw [h.2] at this
  exact this
theorem ve_ops (hm : C.m = B.m) : OpsSim (sOps C) (tOps B t) True (VE B t) (VR B t) where
  size := hm
  sub := fun _ _ h => h.1
  load := fun s u a ha h => ⟨h.1.see a (hm ▸ ha), h⟩
  store := fun s u a v ha h => by
    show VR B t { s with mem := s.mem.set a v } (if a < B.m then _ else u)
    have ha' : a < B.m := hm ▸ ha
    rw [if_pos ha']
    exact h.1.store a ha' v
  swap := fun _ s u a v ha h => ⟨⟨h.1.ths, h.1.slp, by show s.mem.set a v = appl (u.bufs.getD t []) (u.mem.set a v); rw [h.2, h.mem]; rfl, h.1.off, h.1.who, h.1.bt, by show (u.mem.set a v).length = _; rw [List.length_set]; exact h.1.ml, h.1.nn⟩, h.2⟩
  sleep := fun _ s u a h => ⟨h.1.sleep a, by show (sleepM (t : Int) u a).bufs.getD t [] = []; rw [(sleepM_same (t : Int) u a).2.1]; exact h.2⟩
  wake := fun _ s u a v h => ⟨(h.1.wake a v).1, (h.1.wake a v).2, h.2⟩
  remote := fun _ s u h => by
    show VE B t s (tremote u)
    rw [tremote_nil h.all]
    exact h
  note := fun s u x h => ⟨h.1.notes _ _, h.2⟩
  note' := fun s u x h => h.notes _ _
theorem vr_ops (hm : C.m = B.m) : OpsSim (sOps C) (tOps B t) False (VR B t) (VR B t) where
  size := hm
  sub := fun _ _ h => h
  load := fun s u a ha h => ⟨h.see a (hm ▸ ha), h⟩
  store := fun s u a v ha h => by
    show VR B t { s with mem := s.mem.set a v } (if a < B.m then _ else u)
    have ha' : a < B.m := hm ▸ ha
    rw [if_pos ha']
    exact h.store a ha' v
  swap := fun q => q.elim
  sleep := fun q => q.elim
  wake := fun q => q.elim
  remote := fun q => q.elim
  note := fun s u x h => h.notes _ _
  note' := fun s u x h => h.notes _ _
theorem VR.setTh (h : VR B t s u) (i : Nat) (th : Th) : VR B t { s with ths := s.ths.set i th } { u with ths := u.ths.set i th } := ⟨by show s.ths.set i th = u.ths.set i th; rw [h.ths], h.slp, h.mem, h.off, h.who, h.bt, h.ml, h.nn⟩
/-- Two machines of one program. -/
structure MirB (C B : MB) : Prop where
  m : C.m = B.m
  n : C.codes.length = B.codes.length
  cd : ∀ t, t < C.codes.length → (C.codes.getD t cdd).len = (B.codes.getD t cdd).len ∧ ∀ i, (C.codes.getD t cdd).F i = (B.codes.getD t cdd).F i
  r1 : 1 ≤ B.room
  r16 : B.room ≤ 16
theorem mirB_of {p : Pg} {C B : MB} (hC : NewM p C) (hB : NewM p B) (h1 : 1 ≤ B.room) (h16 : B.room ≤ 16) : MirB C B where
  m := hC.m.trans hB.m.symm
  n := hC.n.trans hB.n.symm
  cd := fun t ht => by
    have ht' : t < p.n := by rw [← hC.n]; exact ht
    have e1 := hC.cd t ht'
    have e2 := hB.cd t ht'
    exact ⟨e1.1.trans e2.1.symm, fun i => by rw [e1.2.1, e2.2.1]⟩
  r1 := h1
  r16 := h16
/-- A step with nothing in the buffer. -/
theorem VE.step (hM : MirB C B) (hC : MBok C) (ht : t < C.codes.length) (h : VE B t s u) : VR B t (sStep C s t) (tStep B u t) := by
  have hcd := hC.cods _ (getD_mem ht (d := cdd))
  obtain ⟨e1, e2⟩ := stepR_sim (ve_ops hM.m) h (s.ths.getD t tha) (C.codes.getD t cdd) (B.codes.getD t cdd) (hM.cd t ht).1 (fun i _ => (hM.cd t ht).2 i)
    (fun hp => (addrF_u32 _ _ (hcd.ins _ hp).k0 (hcd.ins _ hp).k1).1)
    (fun _ _ _ => ⟨by show true = decide ((u.bufs.getD t []).length = 0); rw [h.2]; rfl, fun _ => trivial⟩)
    (fun _ _ _ => by
      show true = decide (((u.bufs.getD t []).length : Int) < B.room)
      rw [h.2]
      have := hM.r1
      exact (decide_eq_true (by show ((0 : Nat) : Int) < B.room; omega)).symm)
    h.1.flush
  unfold sStep tStep
  rw [← h.1.ths]
  show VR B t { (stepR (sOps C) s (s.ths.getD t tha) (C.codes.getD t cdd)).2 with ths := _ } { (stepR (tOps B t) u (s.ths.getD t tha) (B.codes.getD t cdd)).2 with ths := _ }
  rw [← e1]
  exact e2.setTh t _
/-- A step that does no more than let the oldest store come into memory. -/
def flushes (B : MB) (t : Nat) (u : Mst) : Prop :=
  let th := u.ths.getD t tha
  let c := B.codes.getD t cdd
  let i := c.F th.pc.toNat
  th.st = 0 ∧ ¬ (th.pc < 0 ∨ (c.len : Int) ≤ th.pc) ∧ ¬ rightB i c.len = false ∧ ¬ (askB i.op = true ∧ (B.m : Int) ≤ addrF th i) ∧ ((DrainP i.op ∧ (tOps B t).empty u = false) ∨ (i.op = 17 ∧ (tOps B t).room u = false))
theorem flushes_step (h : flushes B t u) : stepR (tOps B t) u (u.ths.getD t tha) (B.codes.getD t cdd) = (u.ths.getD t tha, tflush t u) := by
  obtain ⟨h1, h2, h3, h4, h5⟩ := h
  unfold stepR
  rw [if_neg (fun q => q h1), if_neg h2, if_neg h3, if_neg (show ¬ (askB ((B.codes.getD t cdd).F (u.ths.getD t tha).pc.toNat).op = true ∧ ((tOps B t).size : Int) ≤ addrF (u.ths.getD t tha) ((B.codes.getD t cdd).F (u.ths.getD t tha).pc.toNat)) from h4)]
  unfold insR
  by_cases c : DrainP ((B.codes.getD t cdd).F (u.ths.getD t tha).pc.toNat).op ∧ (tOps B t).empty u = false
  · rw [if_pos c]; rfl
  · rw [if_neg c, if_pos (h5.resolve_left c)]; rfl
/-- A step that does more, whatever waits in the buffer. -/
theorem VR.step (hM : MirB C B) (hC : MBok C) (ht : t < C.codes.length) (h : VR B t s u) (hf : ¬ flushes B t u) : VR B t (sStep C s t) (tStep B u t) := by
  have hcd := hC.cods _ (getD_mem ht (d := cdd))
  by_cases hb : u.bufs.getD t [] = []
  · exact VE.step hM hC ht ⟨h, hb⟩
  have hne : (tOps B t).empty u = false := decide_eq_false (by rw [List.length_eq_zero_iff]; exact hb)
  have key : (stepR (sOps C) s (s.ths.getD t tha) (C.codes.getD t cdd)).1 = (stepR (tOps B t) u (s.ths.getD t tha) (B.codes.getD t cdd)).1 ∧ VR B t (stepR (sOps C) s (s.ths.getD t tha) (C.codes.getD t cdd)).2 (stepR (tOps B t) u (s.ths.getD t tha) (B.codes.getD t cdd)).2 := by
    obtain ⟨hl, hF⟩ := hM.cd t ht
    unfold flushes at hf
    rw [← h.ths] at hf
    dsimp only at hf
    generalize s.ths.getD t tha = th at hf ⊢
    unfold stepR
    by_cases c1 : th.st ≠ 0
    · rw [if_pos c1, if_pos c1]; exact ⟨rfl, h⟩
    rw [if_neg c1, if_neg c1, ← hl]
    by_cases c2 : th.pc < 0 ∨ ((C.codes.getD t cdd).len : Int) ≤ th.pc
    · rw [if_pos c2, if_pos c2]; exact ⟨rfl, h.notes _ _⟩
    rw [if_neg c2, if_neg c2]
    rw [← hl, ← hF] at hf
    rw [← hF]
    have hp : th.pc.toNat < (C.codes.getD t cdd).len := by omega
    have hrv := addrF_u32 th ((C.codes.getD t cdd).F th.pc.toNat) (hcd.ins _ hp).k0 (hcd.ins _ hp).k1
    generalize (C.codes.getD t cdd).F th.pc.toNat = i at hf hrv ⊢
    by_cases c3 : rightB i (C.codes.getD t cdd).len = false
    · rw [if_pos c3, if_pos c3]; exact ⟨rfl, h.notes _ _⟩
    rw [if_neg c3, if_neg c3]
    have e1 : ((sOps C).size : Int) = (B.m : Int) := by show (C.m : Int) = _; rw [hM.m]
    have e2 : ((tOps B t).size : Int) = (B.m : Int) := rfl
    rw [e1, e2]
    by_cases c4 : askB i.op = true ∧ (B.m : Int) ≤ addrF th i
    · rw [if_pos c4, if_pos c4]; exact ⟨rfl, h.notes _ _⟩
    rw [if_neg c4, if_neg c4]
    have h5 : ¬ ((DrainP i.op ∧ (tOps B t).empty u = false) ∨ (i.op = 17 ∧ (tOps B t).room u = false)) := fun q => hf ⟨Decidable.not_not.1 c1, c2, c3, c4, q⟩
    exact insR_sim (vr_ops hM.m) h th i (fun q => by
      have h2 : ¬ (B.m : Int) ≤ addrF th i := fun q2 => c4 ⟨q, q2⟩
      show (addrF th i).toNat < C.m
      rw [hM.m]
      have := hrv.1
      omega) (fun q => absurd (.inl ⟨q, hne⟩) h5) (fun q => by
      cases e : (tOps B t).room u with
      | true => rfl
      | false => exact absurd (.inr ⟨q, e⟩) h5) h.flush
  obtain ⟨e1, e2⟩ := key
  unfold sStep tStep
  rw [← h.ths]
  show VR B t { (stepR (sOps C) s (s.ths.getD t tha) (C.codes.getD t cdd)).2 with ths := _ } { (stepR (tOps B t) u (s.ths.getD t tha) (B.codes.getD t cdd)).2 with ths := _ }
  rw [← e1]
  exact e2.setTh t _
end
/-! ### Each step followed by flushes -/
structure EQ (B : MB) (s u : Mst) : Prop where
  ths : s.ths = u.ths
  slp : s.slp = u.slp
  mem : s.mem = u.mem
  nil : ∀ i, u.bufs.getD i [] = []
  bl : u.bufs.length = u.ths.length
  ml : u.mem.length = B.m
section
variable {B C : MB} {t : Nat} {s u : Mst}
theorem EQ.ve (h : EQ B s u) (t : Nat) (ht : t < u.ths.length) : VE B t { s with who := (t : Int) } u := ⟨⟨h.ths, h.slp, by show s.mem = appl (u.bufs.getD t []) u.mem; rw [h.nil t]; exact h.mem, fun i _ => h.nil i, rfl, by rw [h.bl]; exact ht, h.ml, fun e he => (by rw [h.nil t] at he; cases he)⟩, h.nil t⟩
theorem VR.eq (h : VR B t s u) (hb : u.bufs.getD t [] = []) (hl : u.bufs.length = u.ths.length) : EQ B s u := ⟨h.ths, h.slp, (show VE B t s u from ⟨h, hb⟩).mem, (show VE B t s u from ⟨h, hb⟩).all, hl, h.ml⟩
theorem VR.rouse (h : VR B t s u) : VR B t (rouseM t s) (rouseM t u) := by
  unfold rouseM
  rw [h.slp, h.ths]
  by_cases c : fnd u.slp (t : Int) < u.slp.length
  · rw [if_pos c, if_pos c]
    exact ⟨rfl, rfl, h.mem, h.off, h.who, h.bt, h.ml, h.nn⟩
  · rw [if_neg c, if_neg c]
    exact h
theorem EQ.pick (hM : MirB C B) (hC : MBok C) (h : EQ B s u) (hn : s.ths.length = C.codes.length) (x : Int × Int) (h0 : 0 ≤ x.2) (h1 : x.2 < (u.ths.length : Int)) : VR B x.2.toNat (sPick C s x) (tPick B u x) := by
  obtain ⟨k, w⟩ := x
  dsimp only at h0 h1
  obtain ⟨t, rfl⟩ : ∃ t : Nat, w = (t : Int) := ⟨w.toNat, by omega⟩
  show VR B (t : Int).toNat _ _
  rw [Int.toNat_natCast]
  have hv := h.ve t (by omega)
  rw [sPick_in k t (by rw [h.ths]; omega), tPick_in k t (by omega)]
  by_cases c0 : k = 0
  · rw [if_pos c0, if_pos c0]
    exact VE.step hM hC (by rw [← hn, h.ths]; omega) hv
  rw [if_neg c0, if_neg c0]
  by_cases c1 : k = 1
  · rw [if_neg (by omega), if_pos c1, tflush_nil hv.2]
    exact hv.1
  rw [if_neg c1]
  by_cases c2 : k = 2
  · rw [if_pos c2, if_pos c2]
    exact hv.1.rouse
  rw [if_neg c2, if_neg c2]
  exact hv.1
theorem EQ.out (h : EQ B s u) (x : Int × Int) (hx : x.2 < 0 ∨ (u.ths.length : Int) ≤ x.2) : sPick C s x = s ∧ tPick B u x = u := by
  exact ⟨sPick_out x (by rw [h.ths]; exact hx), tPick_out x hx⟩
end
/-! ### One thread -/
/-- No event more, or the last one is no flush. -/
def NF (s r : Mst) : Prop := r.evs = s.evs ∨ ∃ l x, r.evs = l ++ [x] ∧ x.kind ≠ 3
theorem NF.note (s r : Mst) (t : Int) (x : Evt) (h : x.kind ≠ 3) : NF s (noteM t r x) := .inr ⟨r.evs, { x with who := t }, rfl, h⟩
theorem NF.sleep (s r : Mst) (t : Int) (x : Evt) (h : x.kind ≠ 3) (a : Nat) : NF s (sleepM t (noteM t r x) a) := by
  have e : (sleepM t (noteM t r x) a).evs = (noteM t r x).evs := by unfold sleepM; split <;> rfl
  have := NF.note s r t x h
  unfold NF at this ⊢
  rw [e]
  exact this
section
variable {B C : MB} {t : Nat} {s u : Mst}
theorem nf_step (hf : ¬ flushes B t u) : NF u (stepR (tOps B t) u (u.ths.getD t tha) (B.codes.getD t cdd)).2 := by
  unfold flushes at hf
  dsimp only at hf
  generalize u.ths.getD t tha = th at hf ⊢
  unfold stepR
  by_cases c1 : th.st ≠ 0
  · rw [if_pos c1]; exact .inl rfl
  rw [if_neg c1]
  by_cases c2 : th.pc < 0 ∨ ((B.codes.getD t cdd).len : Int) ≤ th.pc
  · rw [if_pos c2]; exact .note _ _ _ _ (by show (12 : Int) ≠ 3; decide)
  rw [if_neg c2]
  generalize (B.codes.getD t cdd).F th.pc.toNat = i at hf ⊢
  by_cases c3 : rightB i (B.codes.getD t cdd).len = false
  · rw [if_pos c3]; exact .note _ _ _ _ (by show (13 : Int) ≠ 3; decide)
  rw [if_neg c3]
  by_cases c4 : askB i.op = true ∧ ((tOps B t).size : Int) ≤ addrF th i
  · rw [if_pos c4]; exact .note _ _ _ _ (by show (13 : Int) ≠ 3; decide)
  rw [if_neg c4]
  have h5 : ¬ ((DrainP i.op ∧ (tOps B t).empty u = false) ∨ (i.op = 17 ∧ (tOps B t).room u = false)) := fun q => hf ⟨Decidable.not_not.1 c1, c2, c3, c4, q⟩
  unfold insR
  rw [if_neg (fun q => h5 (.inl q)), if_neg (fun q => h5 (.inr q))]
  split
  · exact .note _ _ _ _ (by show (12 : Int) ≠ 3; decide)
  split
  · exact .inl rfl
  split
  · show NF u (asksR (tOps B t) u th i.op i.a.toNat i.c.toNat (addrF th i).toNat).2
    unfold asksR
    split
    · exact .note _ _ _ _ (by show (1 : Int) ≠ 3; decide)
    split
    · exact .note _ _ _ _ (by show (2 : Int) ≠ 3; decide)
    split
    · exact .note _ _ _ _ (by show (4 : Int) ≠ 3; decide)
    split
    · exact .note _ _ _ _ (by show (4 : Int) ≠ 3; decide)
    split
    · exact .note _ _ _ _ (by show (4 : Int) ≠ 3; decide)
    split
    · unfold waitR
      split
      · exact NF.sleep _ _ _ _ (by show (8 : Int) ≠ 3; decide) _
      · exact .note _ _ _ _ (by show (8 : Int) ≠ 3; decide)
    · exact .note _ _ _ _ (by show (9 : Int) ≠ 3; decide)
  · show NF u (plainR (tOps B t) u th i.op.toNat i.a.toNat i.b.toNat i.c.toNat i.k 0).2
    unfold plainR
    split
    · exact .inl rfl
    split
    · exact .inl rfl
    split
    · exact .note _ _ _ _ (by show (5 : Int) ≠ 3; decide)
    split
    · exact .note _ _ _ _ (by show (6 : Int) ≠ 3; decide)
    split
    · exact .note _ _ _ _ (by show (7 : Int) ≠ 3; decide)
    split
    · exact .note _ _ _ _ (by show (10 : Int) ≠ 3; decide)
    split
    · exact .inl rfl
    · exact .inl rfl
theorem set_getD {α : Type} (l : List α) (i : Nat) (d : α) : l.set i (l.getD i d) = l := by
  refine List.ext_getElem? fun j => ?_
  by_cases c : i = j
  · subst c
    rcases Nat.lt_or_ge i l.length with h | h
    · rw [List.getElem?_set_self h, List.getD_eq_getElem?_getD, List.getElem?_eq_getElem h]; rfl
    · rw [List.set_eq_of_length_le h]
  · rw [List.getElem?_set_ne c]
theorem flushes_tstep (h : flushes B t u) : tStep B u t = tflush t u := by
  unfold tStep
  rw [flushes_step h]
  show ({ tflush t u with ths := (tflush t u).ths.set t (u.ths.getD t tha) } : Mst) = tflush t u
  rw [(tflush_same t u).1, set_getD]
  have e := (tflush_same t u).1
  generalize tflush t u = r at e ⊢
  obtain ⟨a1, a2, a3, a4, a5, a6⟩ := r
  dsimp only at e ⊢
  rw [e]
theorem flushes_some (hr : 1 ≤ B.room) (h : flushes B t u) : ∃ x l, u.bufs.getD t [] = x :: l := by
  obtain ⟨_, _, _, _, h5⟩ := h
  cases hb : u.bufs.getD t [] with
  | cons x l => exact ⟨x, l, rfl⟩
  | nil =>
    exfalso
    rcases h5 with ⟨_, q⟩ | ⟨_, q⟩
    · have q' : decide ((u.bufs.getD t []).length = 0) = false := q
      rw [hb] at q'
      exact absurd q' (by decide)
    · have q' : decide (((u.bufs.getD t []).length : Int) < B.room) = false := q
      rw [hb] at q'
      have := of_decide_eq_false q'
      exact this (by show ((0 : Nat) : Int) < B.room; omega)
/-- What a step of the machine with a buffer tells, if it is one of the other, too. -/
theorem alone_step (hM : MirB C B) (hC : MBok C) (h1 : 0 < C.codes.length) (h : VR B 0 s u) (hn : 0 < u.ths.length) (k1 : Int) :
    ((tPick B u (0, 0)).evs.length ≠ u.evs.length ∧ (∃ l x, (tPick B u (0, 0)).evs = l ++ [x] ∧ x.kind = 3) ∧ ((tPick B u (0, 0)).ths.getD 0 tha).pc = (u.ths.getD 0 tha).pc ∧ VR B 0 s (tPick B u (0, 0))) ∨
    (((tPick B u (0, 0)).evs.length = u.evs.length ∨ ∃ l x, (tPick B u (0, 0)).evs = l ++ [x] ∧ x.kind ≠ 3) ∧ VR B 0 (sPick C s (0, 0)) (tPick B u (0, 0))) := by
  have e1 : tPick B u (0, 0) = tStep B u 0 := by
    have := tPick_in (B := B) (s := u) 0 0 hn
    rw [if_pos rfl] at this
    exact this
  have e2 : sPick C s (0, 0) = sStep C s 0 := by
    have := sPick_in (B := C) (s := s) 0 0 (by rw [h.ths]; exact hn)
    rw [if_pos rfl] at this
    have hw := h.who
    refine this.trans ?_
    obtain ⟨a1, a2, a3, a4, a5, a6⟩ := s
    dsimp only at hw ⊢
    rw [hw]
  rw [e1, e2]
  by_cases hf : flushes B 0 u
  · refine .inl ?_
    obtain ⟨x, l, hb⟩ := flushes_some hM.r1 hf
    rw [flushes_tstep hf]
    have hv := h.flush
    rw [tflush_cons hb] at hv ⊢
    refine ⟨?_, ⟨u.evs, _, rfl, rfl⟩, rfl, hv⟩
    show (u.evs ++ [_]).length ≠ u.evs.length
    rw [List.length_append]
    simp
  · refine .inr ⟨?_, h.step hM hC h1 hf⟩
    rcases nf_step hf with q | ⟨l, x, q1, q2⟩
    · refine .inl ?_
      show (stepR (tOps B 0) u (u.ths.getD 0 tha) (B.codes.getD 0 cdd)).2.evs.length = _
      rw [q]
    · exact .inr ⟨l, x, q1, q2⟩
end
end Go.Proofs.YtjmnogpnjombgaaDoor

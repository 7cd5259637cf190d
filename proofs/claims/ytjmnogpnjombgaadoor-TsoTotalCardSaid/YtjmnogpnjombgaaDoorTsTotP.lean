/- law09 (plain): a thread's status is one of those that there are, whatever is done. -/
import Derived.Test.YtjmnogpnjombgaaDoorTsA4
namespace Go.Proofs.YtjmnogpnjombgaaDoor
open Go.ChangeShapes Go.WideShapes Go.ChangeAt Go.RowKit Go.Deep
set_option linter.unusedVariables false
set_option maxRecDepth 100000
set_option linter.unusedSimpArgs false

def St3 (t : Th) : Prop := 0 ≤ t.st ∧ t.st ≤ 3
def StOk (s : Mst) : Prop := ∀ t ∈ s.ths, St3 t
theorem St3.set {t : Th} (k : Int) (h0 : 0 ≤ k) (h3 : k ≤ 3) (r : Nat → Int) (pc : Int) : St3 ⟨pc, r, k⟩ := ⟨h0, h3⟩
theorem asksR_st {σ : Type} (O : Ops σ) (s : σ) (t : Th) (op : Int) (a c m : Nat) (h : St3 t) : St3 (asksR O s t op a c m).1 := by
  unfold asksR waitR
  repeat' split
  all_goals first | exact h | exact ⟨by show (0 : Int) ≤ 1; decide, by show (1 : Int) ≤ 3; decide⟩
theorem plainR_st {σ : Type} (O : Ops σ) (s : σ) (t : Th) (op a b c : Nat) (k addr : Int) (h : St3 t) : St3 (plainR O s t op a b c k addr).1 := by
  unfold plainR
  repeat' split
  all_goals exact h
theorem stepR_st {σ : Type} (O : Ops σ) (s : σ) (t : Th) (c : Cd) (h : St3 t) : St3 (stepR O s t c).1 := by
  unfold stepR
  split
  · exact h
  split
  · exact ⟨by show (0 : Int) ≤ 2; decide, by show (2 : Int) ≤ 3; decide⟩
  split
  · exact ⟨by show (0 : Int) ≤ 3; decide, by show (3 : Int) ≤ 3; decide⟩
  split
  · exact ⟨by show (0 : Int) ≤ 3; decide, by show (3 : Int) ≤ 3; decide⟩
  unfold insR
  split
  · exact h
  split
  · exact h
  split
  · exact ⟨by show (0 : Int) ≤ 2; decide, by show (2 : Int) ≤ 3; decide⟩
  split
  · exact h
  split
  · exact asksR_st O s t _ _ _ _ h
  · exact plainR_st O s t _ _ _ _ _ _ h
theorem StOk.set {s : Mst} (h : StOk s) (i : Nat) (th : Th) (ht : St3 th) : ∀ t ∈ s.ths.set i th, St3 t := fun t h1 => by
  rcases mem_set h1 with h2 | rfl
  · exact h t h2
  · exact ht
theorem StOk.run {l : List Th} (h : ∀ t ∈ l, St3 t) (ws : List Int) : ∀ t ∈ runT l ws, St3 t := by
  unfold runT
  induction ws generalizing l with
  | nil => exact h
  | cons w ws ih =>
    rw [List.foldl_cons]
    refine ih (fun t ht => ?_)
    rcases mem_set ht with h2 | rfl
    · exact h t h2
    · exact ⟨by show (0 : Int) ≤ 0; decide, by show (0 : Int) ≤ 3; decide⟩
section
variable {B : MB} {s : Mst}
theorem StOk.congr {r : Mst} (h : StOk s) (e : r.ths = s.ths) : StOk r := by unfold StOk; rw [e]; exact h
theorem st_asks {t : Nat} (h : StOk s) (th : Th) (op : Int) (a c m : Nat) : StOk (asksR (tOps B t) s th op a c m).2 := by
  unfold asksR
  split
  · exact h
  split
  · show StOk (noteM (t : Int) ((tOps B t).store s m (th.regs a)) _)
    exact h.congr (tstore_same B t s m (th.regs a)).1
  split
  · exact h
  split
  · exact h
  split
  · show StOk (lockS (tOps B t) s _ _ _ _ _)
    unfold lockS
    split
    · exact h
    · exact h
  split
  · unfold waitR
    split
    · exact h.congr (sleepM_same (t : Int) _ _).1
    · exact h
  · exact StOk.run h _
theorem st_plain {t : Nat} (h : StOk s) (th : Th) (op a b c : Nat) (k addr : Int) : StOk (plainR (tOps B t) s th op a b c k addr).2 := by
  unfold plainR
  split
  · exact h
  split
  · exact h
  split
  · exact h
  split
  · exact h
  split
  · exact h
  split
  · exact h.congr (tremote_same s).1
  split
  · exact h
  · exact h
theorem st_step {t : Nat} (h : StOk s) (th : Th) (c : Cd) : StOk (stepR (tOps B t) s th c).2 := by
  unfold stepR
  split
  · exact h
  split
  · exact h
  split
  · exact h
  split
  · exact h
  unfold insR
  split
  · exact h.congr (tflush_same t s).1
  split
  · exact h.congr (tflush_same t s).1
  split
  · exact h
  split
  · exact h
  split
  · exact st_asks h th _ _ _ _
  · exact st_plain h th _ _ _ _ _ _
theorem StOk.getTh (h : StOk s) (t : Nat) : St3 (s.ths.getD t tha) := by
  rcases Nat.lt_or_ge t s.ths.length with q | q
  · exact h _ (getD_mem q)
  · rw [getD_nil_of_ge _ _ _ q]; exact ⟨by show (0 : Int) ≤ 0; decide, by show (0 : Int) ≤ 3; decide⟩
theorem StOk.pick (h : StOk s) (x : Int × Int) : StOk (tPick B s x) := by
  unfold tPick
  split
  · exact h
  split
  · unfold tStep
    exact (st_step h _ _).set _ _ (stepR_st _ _ _ _ (h.getTh _))
  split
  · exact h.congr (tflush_same _ s).1
  split
  · unfold rouseM
    split
    · exact h.set _ _ ⟨by show (0 : Int) ≤ 0; decide, by show (0 : Int) ≤ 3; decide⟩
    · exact h
  · exact h
end
theorem st_run {B : MB} : ∀ (l : List (Int × Int)) (s : Mst), StOk s → StOk (tRun B s l)
  | [], _, h => h
  | x :: l, _, h => st_run l _ (h.pick x)
theorem st_start (p : Pg) : StOk (t0 p) := fun t ht => by
  rw [(List.mem_replicate.1 ht).2]
  exact ⟨by show (0 : Int) ≤ 0; decide, by show (0 : Int) ≤ 3; decide⟩
/-! ### No buffer holds more than its room -/
def RmOk (B : MB) (s : Mst) : Prop := ∀ t, ((s.bufs.getD t []).length : Int) ≤ B.room
section
variable {B : MB} {s : Mst}
theorem RmOk.congr {r : Mst} (h : RmOk B s) (e : r.bufs = s.bufs) : RmOk B r := by unfold RmOk; rw [e]; exact h
theorem RmOk.set (h : RmOk B s) (t : Nat) (l : List Ent) (hl : (l.length : Int) ≤ B.room) : ∀ u, (((s.bufs.set t l).getD u []).length : Int) ≤ B.room := fun u => by
  by_cases c : t = u
  · subst c
    rcases Nat.lt_or_ge t s.bufs.length with q | q
    · simp only [List.getD_eq_getElem?_getD, List.getElem?_set_self q, Option.getD_some]
      exact hl
    · rw [List.set_eq_of_length_le q]
      exact h t
  · have := h u
    simp only [List.getD_eq_getElem?_getD, List.getElem?_set_ne c] at this ⊢
    exact this
theorem RmOk.flush (h : RmOk B s) (t : Nat) : RmOk B (tflush t s) := by
  cases hb : s.bufs.getD t [] with
  | nil => rw [tflush_nil hb]; exact h
  | cons x l =>
    rw [tflush_cons hb]
    have := h t
    rw [hb, List.length_cons] at this
    exact h.set t l (by omega)
theorem RmOk.flushN (t : Nat) : ∀ (k : Nat) {s : Mst}, RmOk B s → RmOk B (tflushN t k s)
  | 0, _, h => h
  | k + 1, _, h => RmOk.flushN t k (h.flush t)
theorem RmOk.remote (h : RmOk B s) : RmOk B (tremote s) := by
  unfold tremote
  generalize List.range s.bufs.length = l
  induction l generalizing s with
  | nil => exact h
  | cons t l ih => exact ih (h.flushN t _)
theorem rm_asks {t : Nat} (h : RmOk B s) (th : Th) (op : Int) (a c m : Nat) (hr : op = 17 → (tOps B t).room s = true) : RmOk B (asksR (tOps B t) s th op a c m).2 := by
  unfold asksR
  split
  · exact h
  split
  · rename_i h17
    have hr' : ((s.bufs.getD t []).length : Int) < B.room := of_decide_eq_true (hr h17)
    show RmOk B (noteM (t : Int) (if m < B.m then { s with bufs := s.bufs.set t (s.bufs.getD t [] ++ [((m : Int), th.regs a)]) } else s) _)
    split
    · exact h.set t _ (by rw [List.length_append, List.length_singleton]; omega)
    · exact h
  split
  · exact h
  split
  · exact h
  split
  · show RmOk B (lockS (tOps B t) s _ _ _ _ _)
    unfold lockS
    split
    · exact h
    · exact h
  split
  · unfold waitR
    split
    · exact h.congr (sleepM_same (t : Int) _ _).2.1
    · exact h
  · exact h
theorem rm_plain {t : Nat} (h : RmOk B s) (th : Th) (op a b c : Nat) (k addr : Int) : RmOk B (plainR (tOps B t) s th op a b c k addr).2 := by
  unfold plainR
  split
  · exact h
  split
  · exact h
  split
  · exact h
  split
  · exact h
  split
  · exact h
  split
  · exact h.remote
  split
  · exact h
  · exact h
theorem rm_step {t : Nat} (h : RmOk B s) (th : Th) (c : Cd) : RmOk B (stepR (tOps B t) s th c).2 := by
  unfold stepR
  split
  · exact h
  split
  · exact h
  split
  · exact h
  split
  · exact h
  unfold insR
  split
  · exact h.flush t
  split
  · exact h.flush t
  rename_i hr
  split
  · exact h
  split
  · exact h
  split
  · refine rm_asks h th _ _ _ _ (fun q => ?_)
    cases e : (tOps B t).room s with
    | true => rfl
    | false => exact absurd ⟨q, e⟩ hr
  · exact rm_plain h th _ _ _ _ _ _
theorem RmOk.pick (h : RmOk B s) (x : Int × Int) : RmOk B (tPick B s x) := by
  unfold tPick
  split
  · exact h
  split
  · unfold tStep
    exact rm_step h _ _
  split
  · exact h.flush _
  split
  · unfold rouseM
    split
    · exact h
    · exact h
  · exact h
end
theorem rm_run {B : MB} : ∀ (l : List (Int × Int)) (s : Mst), RmOk B s → RmOk B (tRun B s l)
  | [], _, h => h
  | x :: l, _, h => rm_run l _ (h.pick x)
theorem rm_start (p : Pg) {B : MB} (hr : 0 ≤ B.room) : RmOk B (t0 p) := fun t => by
  have e : (t0 p).bufs.getD t [] = [] := by
    show (List.replicate p.n ([] : List Ent)).getD t [] = []
    rw [List.getD_eq_getElem?_getD, List.getElem?_replicate]
    split <;> rfl
  rw [e]
  exact hr
end Go.Proofs.YtjmnogpnjombgaaDoor

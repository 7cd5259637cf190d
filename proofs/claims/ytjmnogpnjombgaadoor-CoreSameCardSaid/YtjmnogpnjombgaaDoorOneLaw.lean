/- law08: a step changes at most one word of memory (plain). -/
import Derived.Test.YtjmnogpnjombgaaDoorOpenIn
namespace Go.Proofs.YtjmnogpnjombgaaDoor
open Go.ChangeShapes Go.WideShapes Go.ChangeAt Go.RowKit Go.Deep
set_option linter.unusedVariables false
set_option maxRecDepth 100000
set_option linter.unusedSimpArgs false

/-- The same memory, or one word of it is another. -/
def OneSet (a b : List Int) : Prop := ∃ i v, b = a ∨ b = a.set i v
theorem oneSet_flush (s : Yst) : OneSet s.mem (yflush s).mem := by
  unfold yflush
  split
  · exact ⟨0, 0, .inl rfl⟩
  · exact ⟨_, _, .inr rfl⟩
theorem oneSet_store (B : YB) (s : Yst) (a : Nat) (v : Int) : ((yOps B).store s a v).mem = s.mem := by
  show (if a < B.n then _ else s : Yst).mem = _
  split <;> rfl
theorem oneSet_ins (B : YB) (s : Yst) (t : Th) (i : Ins) : OneSet s.mem (insR (yOps B) s t i).2.mem := by
  unfold insR
  split
  · exact oneSet_flush _
  split
  · exact oneSet_flush _
  split
  · exact ⟨0, 0, .inl rfl⟩
  split
  · exact ⟨0, 0, .inl rfl⟩
  split
  · unfold asksR lockS waitR
    repeat' split
    all_goals first
      | exact ⟨0, 0, .inl rfl⟩
      | exact ⟨_, _, .inr rfl⟩
      | exact ⟨0, 0, .inl (oneSet_store B s _ _)⟩
  · unfold plainR
    repeat' split
    all_goals exact ⟨0, 0, .inl rfl⟩
theorem oneSet_step (B : YB) (s : Yst) (t : Th) (c : Cd) : OneSet s.mem (stepR (yOps B) s t c).2.mem := by
  unfold stepR
  repeat' split
  all_goals first
    | exact ⟨0, 0, .inl rfl⟩
    | exact oneSet_ins B s t _
/-- How many words of the first k are others. -/
def diff (a : List Int) (Z : Nat → Int) (k : Nat) : Nat := (List.range k).countP fun j => decide (a.getD j 0 ≠ Z j)
theorem diff_succ (a : List Int) (Z : Nat → Int) (k : Nat) : diff a Z (k + 1) = diff a Z k + if a.getD k 0 ≠ Z k then 1 else 0 := by
  unfold diff
  rw [List.range_succ, List.countP_append, List.countP_singleton]
  by_cases h : a.getD k 0 ≠ Z k <;> simp [h]
theorem diff_one (a b : List Int) (Z : Nat → Int) (h : OneSet a b) (ha : ∀ j, j < a.length → a.getD j 0 = Z j) : ∀ k, k ≤ a.length → diff b Z k ≤ 1 := by
  obtain ⟨i, v, h⟩ := h
  have hb : ∀ j, j < a.length → j ≠ i → b.getD j 0 = Z j := fun j hj hne => by
    rw [← ha j hj]
    rcases h with rfl | rfl
    · rfl
    · simp only [List.getD_eq_getElem?_getD]
      rw [List.getElem?_set_ne (Ne.symm hne)]
  have key : ∀ k, k ≤ a.length → diff b Z k ≤ if i < k then 1 else 0 := by
    intro k
    induction k with
    | zero => intro _; simp [diff]
    | succ k ih =>
      intro hk
      have h1 := ih (by omega)
      rw [diff_succ]
      by_cases hki : k = i
      · subst hki
        rw [if_neg (Nat.lt_irrefl k)] at h1
        rw [if_pos (Nat.lt_succ_self k)]
        split <;> omega
      · rw [if_neg (not_not_intro (hb k (by omega) hki))]
        by_cases h2 : i < k
        · rw [if_pos h2] at h1
          rw [if_pos (by omega)]
          omega
        · rw [if_neg h2] at h1
          omega
  intro k hk
  have := key k hk
  split at this <;> omega
end Go.Proofs.YtjmnogpnjombgaaDoor

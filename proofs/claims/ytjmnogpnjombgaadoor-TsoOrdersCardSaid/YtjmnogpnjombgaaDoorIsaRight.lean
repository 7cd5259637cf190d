/- isa.Right and the document's Right come to one answer. -/
import Derived.Test.YtjmnogpnjombgaaDoorIsaHas
namespace Go.Proofs.YtjmnogpnjombgaaDoor
open Go.ChangeShapes Go.WideShapes Go.ChangeAt Go.RowKit
set_option linter.unusedVariables false
set_option maxRecDepth 100000
set_option linter.unusedSimpArgs false

def FieldP (n : Int) (used : Bool) (most : Int) : Prop := if used = true then 0 ≤ n ∧ n ≤ most else n = 0

theorem field_yes (n most : Int) (used : Bool) (w : World) (h : FieldP n used most) :
    Calls Tryd.prog 102 #[.int .i64 n, .bool used, .int .i64 most] w fun e w' => e = .returned (.bool true) ∧ w = w' := by
  go_enter Tryd.func102, Tryd.ntmps102
  unfold FieldP at h
  cases used
  · simp only [Bool.false_eq_true, if_false] at h
    subst h
    go_wp2
    go_ret
    exact ⟨rfl, rfl⟩
  · simp only [if_true] at h
    obtain ⟨h0, h1⟩ := h
    go_wp2
    go_ret
    exact ⟨rfl, rfl⟩

theorem field_no (n most : Int) (used : Bool) (w : World) (h : ¬ FieldP n used most) :
    Calls Tryd.prog 102 #[.int .i64 n, .bool used, .int .i64 most] w fun e w' => e = .returned (.bool false) ∧ w = w' := by
  go_enter Tryd.func102, Tryd.ntmps102
  unfold FieldP at h
  cases used
  · simp only [Bool.false_eq_true, if_false] at h
    go_wp2
    go_ret
    exact ⟨by simp [h], rfl⟩
  · simp only [if_true] at h
    by_cases h0 : 0 ≤ n
    · have h1 : ¬ n ≤ most := fun h2 => h ⟨h0, h2⟩
      clear h
      go_wp2
      go_ret
      exact ⟨rfl, rfl⟩
    · clear h
      go_wp2
      go_ret
      exact ⟨rfl, rfl⟩

instance (n : Int) (u : Bool) (m : Int) : Decidable (FieldP n u m) := by unfold FieldP; infer_instance
def fieldB (n : Int) (used : Bool) (most : Int) : Bool := decide (FieldP n used most)
theorem field_any (n most : Int) (used : Bool) (w : World) :
    Calls Tryd.prog 102 #[.int .i64 n, .bool used, .int .i64 most] w fun e w' => e = .returned (.bool (fieldB n used most)) ∧ w = w' := by
  unfold fieldB
  by_cases h : FieldP n used most
  · rw [decide_eq_true h]
    exact field_yes n most used w h
  · rw [decide_eq_false h]
    exact field_no n most used w h

/-- What makes an instruction right, by what its fields are. -/
structure Kind where
  (A B M C T K : Bool)
def kindAt (i : Nat) : Kind := ⟨hasF i 65, hasF i 66, hasF i 77, hasF i 67, hasF i 84, hasF i 75⟩
def useFact (i : Nat) : Bool :=
  (bits .and .i64 (useN i) 1 != 0) == hasF i 65 && (bits .and .i64 (useN i) 10 != 0) == (hasF i 66 || hasF i 77) && (bits .and .i64 (useN i) 8 != 0) == hasF i 77 && (bits .and .i64 (useN i) 4 != 0) == hasF i 67 &&
    (bits .and .i64 (useN i) 32 != 0) == hasF i 84 && (bits .and .i64 (useN i) 16 != 0) == hasF i 75 && (nmS i).toList.isEmpty == false && (nmS i).data.size != 0
theorem useFacts : (List.range 28).all useFact = true := by decide +kernel
theorem use_at (i : Nat) (hi : i < 28) : (bits .and .i64 (useN i) 1 != 0) = hasF i 65 ∧ (bits .and .i64 (useN i) 10 != 0) = (hasF i 66 || hasF i 77) ∧ (bits .and .i64 (useN i) 8 != 0) = hasF i 77 ∧ (bits .and .i64 (useN i) 4 != 0) = hasF i 67 ∧
    (bits .and .i64 (useN i) 32 != 0) = hasF i 84 ∧ (bits .and .i64 (useN i) 16 != 0) = hasF i 75 ∧ (nmS i).toList.isEmpty = false := by
  have h := List.all_eq_true.1 useFacts i (List.mem_range.2 hi)
  unfold useFact at h
  simp only [Bool.and_eq_true, beq_iff_eq] at h
  obtain ⟨⟨⟨⟨⟨⟨⟨h1, h2⟩, h3⟩, h4⟩, h5⟩, h6⟩, h7⟩, h8⟩ := h
  exact ⟨h1, h2, h3, h4, h5, h6, h7⟩

def RightP (q : Kind) (a b c k size : Int) : Prop :=
  FieldP a q.A 7 ∧ FieldP b (q.B || q.M) (if q.M = true then 8 else 7) ∧ FieldP c q.C 7 ∧ (if q.T = true then 0 ≤ size ∧ k ≤ size else q.K = true ∨ k = 0)
instance (q : Kind) (a b c k size : Int) : Decidable (RightP q a b c k size) := by unfold RightP; infer_instance

set_option maxHeartbeats 4000000 in
theorem isaRight_in (i : Nat) (hi : i < 28) (a b c k size : Int) (h0 : 0 ≤ k) (h1 : k ≤ 4294967295) (h2 : -9223372036854775808 ≤ size) (h3 : size ≤ 9223372036854775807) (w : World) (ht : Tab w) :
    Calls Tryd.prog 48 #[.agg #[.int .i64 (i : Int), .int .i64 a, .int .i64 b, .int .i64 c, .int .u32 k], .int .i64 size] w fun e w' => e = .returned (.bool (decide (RightP (kindAt i) a b c k size))) ∧ Below w.heap.size w w' := by
  obtain ⟨e1, e10, e8, e4, e32, e16, enm⟩ := use_at i hi
  obtain ⟨r, hr⟩ : ∃ r, decide (RightP (kindAt i) a b c k size) = r := ⟨_, rfl⟩
  rw [hr]
  unfold kindAt RightP at hr
  obtain ⟨u, hu⟩ : ∃ u, useN i = u := ⟨_, rfl⟩
  rw [hu] at e1 e10 e8 e4 e32 e16
  generalize hasF i 65 = vA at *
  generalize hasF i 66 = vB at *
  generalize hasF i 77 = vM at *
  generalize hasF i 67 = vC at *
  generalize hasF i 84 = vT at *
  generalize hasF i 75 = vK at *
  have hB := (Below.refl w.heap.size w).alloc (Nat.le_refl _) (Obj.cells #[.int .i64 (i : Int), .int .i64 a, .int .i64 b, .int .i64 c, .int .u32 k] 54)
  have hq := Blk.new w 54 #[.int .i64 (i : Int), .int .i64 a, .int .i64 b, .int .i64 c, .int .u32 k]
  go_enter Tryd.func48, Tryd.ntmps48
  go_wp2_with fail
  refine (name_in i hi _ (ht.alloc _)).mono ?_
  rintro e w1 ⟨rfl, hb1⟩
  have hq1 := hq.below hb1 hq.lt
  have hB1 := step_below hB hb1
  have ht1 := (ht.alloc (Obj.cells #[.int .i64 (i : Int), .int .i64 a, .int .i64 b, .int .i64 c, .int .u32 k] 54)).step hb1
  have hc := ht1.2.1 i hi
  have k0 := hq1.cell 0
  have k1 := hq1.cell 1
  have k2 := hq1.cell 2
  have k3 := hq1.cell 3
  have k4 := hq1.cell 4
  simp only [List.getElem?_toArray, List.getElem?_cons_zero, List.getElem?_cons_succ] at k0 k1 k2 k3 k4
  rw [hu] at hc
  clear hq hB hb1 ht ht1 hu hq1
  by_cases fA : fieldB a vA 7 = true
  · by_cases fB : fieldB b (vB || vM) (if vM = true then 8 else 7) = true
    · by_cases fC : fieldB c vC 7 = true
      · simp only [of_decide_eq_true fA, of_decide_eq_true fB, of_decide_eq_true fC, true_and] at hr
        cases vT
        · simp only [Bool.false_eq_true, if_false] at hr
          cases vK
          · by_cases hk : k = 0
            · subst hk
              obtain rfl : r = true := by rw [← hr]; simp
              cases vM <;> simp only [Bool.or_true, Bool.or_false, if_true, Bool.false_eq_true, if_false] at fB e10
              all_goals
                go_wp2_with (first | (go_at_call 102; refine (field_any _ _ _ _).mono ?_; rintro e w' ⟨rfl, rfl⟩))
              all_goals go_ret
              all_goals exact ⟨by first | (simp; done) | (simp; omega), hB1⟩
            · have hk' : (k == 0) = false := by simpa using hk
              obtain rfl : r = false := by rw [← hr]; simp [hk]
              cases vM <;> simp only [Bool.or_true, Bool.or_false, if_true, Bool.false_eq_true, if_false] at fB e10
              all_goals
                go_wp2_with (first | (go_at_call 102; refine (field_any _ _ _ _).mono ?_; rintro e w' ⟨rfl, rfl⟩))
              all_goals go_ret
              all_goals exact ⟨by first | (simp; done) | (simp; omega), hB1⟩
          · obtain rfl : r = true := by rw [← hr]; simp
            cases vM <;> simp only [Bool.or_true, Bool.or_false, if_true, Bool.false_eq_true, if_false] at fB e10
            all_goals
              go_wp2_with (first | (go_at_call 102; refine (field_any _ _ _ _).mono ?_; rintro e w' ⟨rfl, rfl⟩))
            all_goals go_ret
            all_goals exact ⟨by first | (simp; done) | (simp; omega), hB1⟩
        · simp only [if_true] at hr
          by_cases hs : 0 ≤ size
          · by_cases hks : k ≤ size
            · have hk' : True := trivial
              obtain rfl : r = true := by rw [← hr]; simp [hs, hks]
              cases vM <;> simp only [Bool.or_true, Bool.or_false, if_true, Bool.false_eq_true, if_false] at fB e10
              all_goals
                go_wp2_with (first | (go_at_call 102; refine (field_any _ _ _ _).mono ?_; rintro e w' ⟨rfl, rfl⟩))
              all_goals go_ret
              all_goals exact ⟨by first | (simp; done) | (simp; omega), hB1⟩
            · have hk' : True := trivial
              obtain rfl : r = false := by rw [← hr]; simp [hks]
              cases vM <;> simp only [Bool.or_true, Bool.or_false, if_true, Bool.false_eq_true, if_false] at fB e10
              all_goals
                go_wp2_with (first | (go_at_call 102; refine (field_any _ _ _ _).mono ?_; rintro e w' ⟨rfl, rfl⟩))
              all_goals go_ret
              all_goals exact ⟨by first | (simp; done) | (simp; omega), hB1⟩
          · obtain rfl : r = false := by rw [← hr]; simp [hs]
            cases vM <;> simp only [Bool.or_true, Bool.or_false, if_true, Bool.false_eq_true, if_false] at fB e10
            all_goals
              go_wp2_with (first | (go_at_call 102; refine (field_any _ _ _ _).mono ?_; rintro e w' ⟨rfl, rfl⟩))
            all_goals go_ret
            all_goals exact ⟨by first | (simp; done) | (simp; omega), hB1⟩
      · have hr0 : r = false := hr.symm.trans (decide_eq_false (fun h => fC (decide_eq_true h.2.2.1)))
        subst hr0
        cases vM <;> simp only [Bool.or_true, Bool.or_false, if_true, Bool.false_eq_true, if_false] at fB e10
        all_goals
          go_wp2_with (first | (go_at_call 102; refine (field_any _ _ _ _).mono ?_; rintro e w' ⟨rfl, rfl⟩))
        all_goals go_ret
        all_goals exact ⟨rfl, hB1⟩
    · have hr0 : r = false := hr.symm.trans (decide_eq_false (fun h => fB (decide_eq_true h.2.1)))
      subst hr0
      cases vM <;> simp only [Bool.or_true, Bool.or_false, if_true, Bool.false_eq_true, if_false] at fB e10
      all_goals
        go_wp2_with (first | (go_at_call 102; refine (field_any _ _ _ _).mono ?_; rintro e w' ⟨rfl, rfl⟩))
      all_goals go_ret
      all_goals exact ⟨rfl, hB1⟩
  · have hr0 : r = false := hr.symm.trans (decide_eq_false (fun h => fA (decide_eq_true h.1)))
    subst hr0
    cases vM <;> simp only [Bool.or_true, Bool.or_false, if_true, Bool.false_eq_true, if_false] at e10
    all_goals
      go_wp2_with (first | (go_at_call 102; refine (field_any _ _ _ _).mono ?_; rintro e w' ⟨rfl, rfl⟩))
    all_goals go_ret
    all_goals exact ⟨rfl, hB1⟩
end Go.Proofs.YtjmnogpnjombgaaDoor

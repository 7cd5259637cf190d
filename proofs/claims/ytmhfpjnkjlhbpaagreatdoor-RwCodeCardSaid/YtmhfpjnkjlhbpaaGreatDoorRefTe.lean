/- RwCode. -/
import Derived.Test.YtmhfpjnkjlhbpaaGreatDoorObjMay
import Derived.Test.YtmhfpjnkjlhbpaaGreatDoorGrow
import Derived.BigQuiet
namespace Go.Proofs.YtmhfpjnkjlhbpaaGreatDoor
open Go.ChangeShapes Go.WideShapes Go.ChangeAt Go.RowKit Go.Deep
set_option linter.unusedVariables false
set_option maxRecDepth 100000
set_option linter.unusedSimpArgs false
def may14 (k c : Int) : Bool := decide ((k = 9 ∧ 1 ≤ c ∧ c ≤ 4) ∨ (k = 12 ∧ 5 ≤ c ∧ c ≤ 8) ∨ (k = 13 ∧ c = 9) ∨ (k = 14 ∧ 1 ≤ c ∧ c ≤ 3) ∨ (k = 15 ∧ (c = 9 ∨ c = 10)) ∨ (1 ≤ k ∧ k ≤ 11 ∧ k ≠ 9 ∧ (c = 1 ∨ c = 2)))
def right14 (k n a b th : Int) : Bool := decide (1 ≤ th ∧ th ≤ 8 ∧ 1 ≤ k ∧ k ≤ 15 ∧
  ((k = 9 ∧ 1 ≤ n ∧ n ≤ 3) ∨ (k = 11 ∧ 0 ≤ n ∧ n ≤ a) ∨ (k = 13 ∧ 1 ≤ n ∧ n ≤ th) ∨ (k ≠ 9 ∧ k ≠ 11 ∧ k ≠ 13 ∧ n = 0)) ∧
  (((k = 6 ∨ k = 7 ∨ k = 8) ∧ 0 ≤ a ∧ a < th) ∨ (k = 11 ∧ 1 ≤ a ∧ a ≤ 1000) ∨ (k ≠ 6 ∧ k ≠ 7 ∧ k ≠ 8 ∧ k ≠ 11 ∧ a = 0)) ∧
  (((k = 6 ∨ k = 7) ∧ 0 ≤ b ∧ b < th ∧ a ≠ b) ∨ (k ≠ 6 ∧ k ≠ 7 ∧ b = 0)))
set_option maxHeartbeats 2000000 in
theorem r14_may (k c : Int) (w : World) : Calls Tryz.prog 58 #[.int .i64 k, .int .i64 c] w fun e w' => e = .returned (.bool (may14 k c)) ∧ w' = w := by
  go_enter Tryz.func58, Tryz.ntmps58
  by_cases h1 : k = 9
  · subst k
    by_cases h2 : (1 : Int) ≤ c
    · have h2a : decide ((1 : Int) ≤ c) = true := by simp <;> omega
      by_cases h3 : c ≤ (4 : Int)
      · have h3a : decide (c ≤ (4 : Int)) = true := by simp <;> omega
        first
          | (have HE := Lib.hid (show may14 9 c = true from decide_eq_true (by omega)); rw [HE.out]; go_wp2; go_ret; exact ⟨rfl, rfl⟩)
          | (have HE := Lib.hid (show may14 9 c = false from decide_eq_false (by omega)); rw [HE.out]; go_wp2; go_ret; exact ⟨rfl, rfl⟩)
      · have h3a : decide (c ≤ (4 : Int)) = false := by simp <;> omega
        first
          | (have HE := Lib.hid (show may14 9 c = true from decide_eq_true (by omega)); rw [HE.out]; go_wp2; go_ret; exact ⟨rfl, rfl⟩)
          | (have HE := Lib.hid (show may14 9 c = false from decide_eq_false (by omega)); rw [HE.out]; go_wp2; go_ret; exact ⟨rfl, rfl⟩)
    · have h2a : decide ((1 : Int) ≤ c) = false := by simp <;> omega
      first
        | (have HE := Lib.hid (show may14 9 c = true from decide_eq_true (by omega)); rw [HE.out]; go_wp2; go_ret; exact ⟨rfl, rfl⟩)
        | (have HE := Lib.hid (show may14 9 c = false from decide_eq_false (by omega)); rw [HE.out]; go_wp2; go_ret; exact ⟨rfl, rfl⟩)
  · have h1a : (k == (9 : Int)) = false := by simp <;> omega
    by_cases h4 : k = 12
    · subst k
      by_cases h5 : (5 : Int) ≤ c
      · have h5a : decide ((5 : Int) ≤ c) = true := by simp <;> omega
        by_cases h6 : c ≤ (8 : Int)
        · have h6a : decide (c ≤ (8 : Int)) = true := by simp <;> omega
          first
            | (have HE := Lib.hid (show may14 12 c = true from decide_eq_true (by omega)); rw [HE.out]; go_wp2; go_ret; exact ⟨rfl, rfl⟩)
            | (have HE := Lib.hid (show may14 12 c = false from decide_eq_false (by omega)); rw [HE.out]; go_wp2; go_ret; exact ⟨rfl, rfl⟩)
        · have h6a : decide (c ≤ (8 : Int)) = false := by simp <;> omega
          first
            | (have HE := Lib.hid (show may14 12 c = true from decide_eq_true (by omega)); rw [HE.out]; go_wp2; go_ret; exact ⟨rfl, rfl⟩)
            | (have HE := Lib.hid (show may14 12 c = false from decide_eq_false (by omega)); rw [HE.out]; go_wp2; go_ret; exact ⟨rfl, rfl⟩)
      · have h5a : decide ((5 : Int) ≤ c) = false := by simp <;> omega
        first
          | (have HE := Lib.hid (show may14 12 c = true from decide_eq_true (by omega)); rw [HE.out]; go_wp2; go_ret; exact ⟨rfl, rfl⟩)
          | (have HE := Lib.hid (show may14 12 c = false from decide_eq_false (by omega)); rw [HE.out]; go_wp2; go_ret; exact ⟨rfl, rfl⟩)
    · have h4a : (k == (12 : Int)) = false := by simp <;> omega
      by_cases h7 : k = 13
      · subst k
        by_cases h8 : c = (9 : Int)
        · have h8a : (c == (9 : Int)) = true := by simp <;> omega
          first
            | (have HE := Lib.hid (show may14 13 c = true from decide_eq_true (by omega)); rw [HE.out]; go_wp2; go_ret; exact ⟨rfl, rfl⟩)
            | (have HE := Lib.hid (show may14 13 c = false from decide_eq_false (by omega)); rw [HE.out]; go_wp2; go_ret; exact ⟨rfl, rfl⟩)
        · have h8a : (c == (9 : Int)) = false := by simp <;> omega
          first
            | (have HE := Lib.hid (show may14 13 c = true from decide_eq_true (by omega)); rw [HE.out]; go_wp2; go_ret; exact ⟨rfl, rfl⟩)
            | (have HE := Lib.hid (show may14 13 c = false from decide_eq_false (by omega)); rw [HE.out]; go_wp2; go_ret; exact ⟨rfl, rfl⟩)
      · have h7a : (k == (13 : Int)) = false := by simp <;> omega
        by_cases h9 : k = 14
        · subst k
          by_cases h10 : (1 : Int) ≤ c
          · have h10a : decide ((1 : Int) ≤ c) = true := by simp <;> omega
            by_cases h11 : c ≤ (3 : Int)
            · have h11a : decide (c ≤ (3 : Int)) = true := by simp <;> omega
              first
                | (have HE := Lib.hid (show may14 14 c = true from decide_eq_true (by omega)); rw [HE.out]; go_wp2; go_ret; exact ⟨rfl, rfl⟩)
                | (have HE := Lib.hid (show may14 14 c = false from decide_eq_false (by omega)); rw [HE.out]; go_wp2; go_ret; exact ⟨rfl, rfl⟩)
            · have h11a : decide (c ≤ (3 : Int)) = false := by simp <;> omega
              first
                | (have HE := Lib.hid (show may14 14 c = true from decide_eq_true (by omega)); rw [HE.out]; go_wp2; go_ret; exact ⟨rfl, rfl⟩)
                | (have HE := Lib.hid (show may14 14 c = false from decide_eq_false (by omega)); rw [HE.out]; go_wp2; go_ret; exact ⟨rfl, rfl⟩)
          · have h10a : decide ((1 : Int) ≤ c) = false := by simp <;> omega
            first
              | (have HE := Lib.hid (show may14 14 c = true from decide_eq_true (by omega)); rw [HE.out]; go_wp2; go_ret; exact ⟨rfl, rfl⟩)
              | (have HE := Lib.hid (show may14 14 c = false from decide_eq_false (by omega)); rw [HE.out]; go_wp2; go_ret; exact ⟨rfl, rfl⟩)
        · have h9a : (k == (14 : Int)) = false := by simp <;> omega
          by_cases h12 : k = 15
          · subst k
            by_cases h13 : c = (9 : Int)
            · have h13a : (c == (9 : Int)) = true := by simp <;> omega
              first
                | (have HE := Lib.hid (show may14 15 c = true from decide_eq_true (by omega)); rw [HE.out]; go_wp2; go_ret; exact ⟨rfl, rfl⟩)
                | (have HE := Lib.hid (show may14 15 c = false from decide_eq_false (by omega)); rw [HE.out]; go_wp2; go_ret; exact ⟨rfl, rfl⟩)
            · have h13a : (c == (9 : Int)) = false := by simp <;> omega
              by_cases h14 : c = (10 : Int)
              · have h14a : (c == (10 : Int)) = true := by simp <;> omega
                first
                  | (have HE := Lib.hid (show may14 15 c = true from decide_eq_true (by omega)); rw [HE.out]; go_wp2; go_ret; exact ⟨rfl, rfl⟩)
                  | (have HE := Lib.hid (show may14 15 c = false from decide_eq_false (by omega)); rw [HE.out]; go_wp2; go_ret; exact ⟨rfl, rfl⟩)
              · have h14a : (c == (10 : Int)) = false := by simp <;> omega
                first
                  | (have HE := Lib.hid (show may14 15 c = true from decide_eq_true (by omega)); rw [HE.out]; go_wp2; go_ret; exact ⟨rfl, rfl⟩)
                  | (have HE := Lib.hid (show may14 15 c = false from decide_eq_false (by omega)); rw [HE.out]; go_wp2; go_ret; exact ⟨rfl, rfl⟩)
          · have h12a : (k == (15 : Int)) = false := by simp <;> omega
            by_cases h15 : (1 : Int) ≤ k
            · have h15a : decide ((1 : Int) ≤ k) = true := by simp <;> omega
              by_cases h16 : k ≤ (11 : Int)
              · have h16a : decide (k ≤ (11 : Int)) = true := by simp <;> omega
                by_cases h17 : c = (1 : Int)
                · have h17a : (c == (1 : Int)) = true := by simp <;> omega
                  first
                    | (have HE := Lib.hid (show may14 k c = true from decide_eq_true (by omega)); rw [HE.out]; go_wp2; go_ret; exact ⟨rfl, rfl⟩)
                    | (have HE := Lib.hid (show may14 k c = false from decide_eq_false (by omega)); rw [HE.out]; go_wp2; go_ret; exact ⟨rfl, rfl⟩)
                · have h17a : (c == (1 : Int)) = false := by simp <;> omega
                  by_cases h18 : c = (2 : Int)
                  · have h18a : (c == (2 : Int)) = true := by simp <;> omega
                    first
                      | (have HE := Lib.hid (show may14 k c = true from decide_eq_true (by omega)); rw [HE.out]; go_wp2; go_ret; exact ⟨rfl, rfl⟩)
                      | (have HE := Lib.hid (show may14 k c = false from decide_eq_false (by omega)); rw [HE.out]; go_wp2; go_ret; exact ⟨rfl, rfl⟩)
                  · have h18a : (c == (2 : Int)) = false := by simp <;> omega
                    first
                      | (have HE := Lib.hid (show may14 k c = true from decide_eq_true (by omega)); rw [HE.out]; go_wp2; go_ret; exact ⟨rfl, rfl⟩)
                      | (have HE := Lib.hid (show may14 k c = false from decide_eq_false (by omega)); rw [HE.out]; go_wp2; go_ret; exact ⟨rfl, rfl⟩)
              · have h16a : decide (k ≤ (11 : Int)) = false := by simp <;> omega
                first
                  | (have HE := Lib.hid (show may14 k c = true from decide_eq_true (by omega)); rw [HE.out]; go_wp2; go_ret; exact ⟨rfl, rfl⟩)
                  | (have HE := Lib.hid (show may14 k c = false from decide_eq_false (by omega)); rw [HE.out]; go_wp2; go_ret; exact ⟨rfl, rfl⟩)
            · have h15a : decide ((1 : Int) ≤ k) = false := by simp <;> omega
              first
                | (have HE := Lib.hid (show may14 k c = true from decide_eq_true (by omega)); rw [HE.out]; go_wp2; go_ret; exact ⟨rfl, rfl⟩)
                | (have HE := Lib.hid (show may14 k c = false from decide_eq_false (by omega)); rw [HE.out]; go_wp2; go_ret; exact ⟨rfl, rfl⟩)
set_option maxHeartbeats 16000000 in
theorem r14_right (k n a b th : Int) (w : World) : Calls Tryz.prog 57 #[objA k n a b, .int .i64 th] w fun e w' => e = .returned (.bool (right14 k n a b th)) ∧ Below w.heap.size w w' := by
  have hq := Blk.new w 46 #[.int .i64 k, .int .i64 n, .int .i64 a, .int .i64 b]
  have hB := (Below.refl w.heap.size w).alloc (Nat.le_refl _) (.cells #[.int .i64 k, .int .i64 n, .int .i64 a, .int .i64 b] 46)
  have q0 := (hq.cell 0).trans rfl
  have q1 := (hq.cell 1).trans rfl
  have q2 := (hq.cell 2).trans rfl
  have q3 := (hq.cell 3).trans rfl
  have hBq : ∀ m, Below w.heap.size w ((w.alloc (.cells #[.int .i64 k, .int .i64 n, .int .i64 a, .int .i64 b] 46)).drewN m) := fun m => ⟨hB.os, hB.tape, hB.output, hB.size, hB.block⟩
  clear hq
  unfold objA
  go_enter Tryz.func57, Tryz.ntmps57
  go_wp2
  all_goals try (generalize w.alloc (.cells #[.int .i64 k, .int .i64 n, .int .i64 a, .int .i64 b] 46) = V at q0 q1 q2 q3 hB hBq ⊢; go_quiet (fail); go_wp2)
  all_goals
    go_ret
    refine ⟨congrArg (fun b => Ending.returned (Value.bool b)) ?_, by first | exact hB | exact hBq _⟩
    clear hB hBq
    try simp only [beq_iff_eq, beq_eq_false_iff_ne, ne_eq, decide_eq_true_eq, decide_eq_false_iff_not, bne_iff_ne] at *
    rw [Bool.eq_iff_iff]
    unfold right14
    simp only [beq_iff_eq, ne_eq, decide_eq_true_eq, bne_iff_ne, Bool.false_eq_true, false_iff, true_iff]
    omega
def may15 (k n a b call th t : Int) : Bool := right14 k n a b th && (decide (0 ≤ t ∧ t < th) && may14 k call)
set_option maxHeartbeats 4000000 in
theorem r15_may (k n a b call th t : Int) (w : World) : Calls Tryz.prog 25 #[objA k n a b, .int .i64 call, .int .i64 th, .int .i64 t] w fun e w' => e = .returned (.bool (may15 k n a b call th t)) ∧ Below w.heap.size w w' := by
  have hq := Blk.new w 46 #[.int .i64 k, .int .i64 n, .int .i64 a, .int .i64 b]
  have hB := (Below.refl w.heap.size w).alloc (Nat.le_refl _) (.cells #[.int .i64 k, .int .i64 n, .int .i64 a, .int .i64 b] 46)
  have q0 := (hq.cell 0).trans rfl
  have q1 := (hq.cell 1).trans rfl
  have q2 := (hq.cell 2).trans rfl
  have q3 := (hq.cell 3).trans rfl
  have cR := fun W => r14_right k n a b th W
  have e : ∀ r d, right14 k n a b th = r → decide (0 ≤ t ∧ t < th) = d → may15 k n a b call th t = (r && (d && may14 k call)) := fun r d h h' => by rw [← h, ← h']; rfl
  obtain ⟨d, hd⟩ : ∃ d, decide (0 ≤ t ∧ t < th) = d := ⟨_, rfl⟩
  generalize right14 k n a b th = r at cR e
  rw [e r d rfl hd]
  clear e
  have HD := Lib.hid hd
  clear hd
  have HC := Lib.hid cR
  clear cR
  unfold objA at *
  go_enter Tryz.func25, Tryz.ntmps25
  go_wp2_with fail
  refine (HC.out _).mono ?_
  rintro e W1 ⟨rfl, hB1⟩
  have hq1 := hq.below hB1 hq.lt
  have hB2 := step_below hB hB1
  clear q0 q1 q2 q3 hB hB1 hq
  cases r with
  | false =>
    go_wp2
    go_ret
    exact ⟨rfl, hB2⟩
  | true =>
    have q0 := (hq1.cell 0).trans rfl
    have HB := Lib.hid hB2
    clear hq1 hB2
    by_cases h1 : 0 ≤ t
    · by_cases h2 : t < th
      · obtain rfl : d = true := HD.out.symm.trans (decide_eq_true ⟨h1, h2⟩)
        have f1 : decide ((0 : Int) ≤ t) = true := decide_eq_true h1
        have f2 : decide (t < th) = true := decide_eq_true h2
        go_wp2_with fail
        refine (r14_may k call _).mono ?_
        rintro e W2 ⟨rfl, rfl⟩
        go_wp2
        go_ret
        exact ⟨rfl, HB.out⟩
      · obtain rfl : d = false := HD.out.symm.trans (decide_eq_false (fun h => h2 h.2))
        have f1 : decide ((0 : Int) ≤ t) = true := decide_eq_true h1
        have f2 : decide (t < th) = false := decide_eq_false h2
        go_wp2
        go_ret
        exact ⟨rfl, HB.out⟩
    · obtain rfl : d = false := HD.out.symm.trans (decide_eq_false (fun h => h1 h.1))
      have f1 : decide ((0 : Int) ≤ t) = false := decide_eq_false h1
      go_wp2
      go_ret
      exact ⟨rfl, HB.out⟩
theorem nameR_in (k : Int) (hk : 1 ≤ k ∧ k < 16) (W : World) (hO : ONam W) : Calls Tryz.prog 137 #[.int .i64 k] W fun e W' => ∃ s : ByteArray, s.toList.isEmpty = false ∧ e = .returned (.string s) ∧ W' = W := by
  obtain ⟨n, rfl⟩ : ∃ n : Nat, k = (n : Int) := ⟨k.toNat, by omega⟩
  refine (oname_any n (by omega) (by omega) W hO).mono ?_
  rintro e W1 ⟨rfl, rfl⟩
  refine ⟨_, ?_, rfl, rfl⟩
  have := onS_ne n (by omega) (by omega)
  rw [Bool.eq_false_iff]
  exact fun e => this (List.isEmpty_iff.1 e)
set_option maxHeartbeats 8000000 in
theorem right_rwA (n a b th : Int) (W : World) (hO : ONam W) : Calls Tryz.prog 91 #[objA 14 n a b, .int .i64 th] W fun e W' => e = .returned (.bool (right14 14 n a b th)) ∧ Below W.heap.size W W' := by
  have hq := Blk.new W 46 #[.int .i64 14, .int .i64 n, .int .i64 a, .int .i64 b]
  have hB := (Below.refl W.heap.size W).alloc (Nat.le_refl _) (.cells #[.int .i64 14, .int .i64 n, .int .i64 a, .int .i64 b] 46)
  have HO := Lib.hid (hO.step hB)
  have q0 := (hq.cell 0).trans rfl
  have q1 := (hq.cell 1).trans rfl
  have q2 := (hq.cell 2).trans rfl
  have q3 := (hq.cell 3).trans rfl
  clear hq hO
  unfold objA
  go_enter Tryz.func91, Tryz.ntmps91
  go_wp2_with (refine (nameR_in 14 (by decide) _ HO.out).mono ?_; rintro e W1 ⟨s, hs, rfl, rfl⟩)
  all_goals
    go_ret
    refine ⟨congrArg (fun b => Ending.returned (Value.bool b)) ?_, by first | exact hB | (subst_vars; exact hB)⟩
    clear hB HO q0 q1 q2 q3
    try simp only [beq_iff_eq, beq_eq_false_iff_ne, ne_eq, decide_eq_true_eq, decide_eq_false_iff_not, bne_iff_ne] at *
    rw [Bool.eq_iff_iff]
    unfold right14
    simp only [beq_iff_eq, ne_eq, decide_eq_true_eq, bne_iff_ne, Bool.false_eq_true, false_iff, true_iff]
    omega
theorem may_rwA (n a b call th t : Int) (W : World) (hO : ONam W) : Calls Tryz.prog 52 #[.agg #[.int .i64 14, .int .i64 n, .int .i64 a, .int .i64 b], .int .i64 call, .int .i64 th, .int .i64 t] W fun e W' => e = .returned (.bool (may15 14 n a b call th t)) ∧ Below W.heap.size W W' := by
  have := may_any 14 n a b (right14 14 n a b th) (callsL 14) (by decide) call th t W ONam (fun _ _ h hb => h.step hb) hO (fun W1 h => right_rwA n a b th W1 h) (fun W1 _ => calls_of 14 (by omega) W1)
  have e : mayB (right14 14 n a b th) (callsL 14) call th t = may15 14 n a b call th t := by
    unfold mayB may15
    rw [show (callsL 14).contains call = may14 14 call from by
      rw [Bool.eq_iff_iff]
      unfold may14
      rw [decide_eq_true_eq]
      show [1, 2, 3].contains call = true ↔ _
      simp
      omega]
    cases right14 14 n a b th <;> cases decide (0 ≤ t ∧ t < th) <;> rfl
  rw [e] at this
  exact this
end Go.Proofs.YtmhfpjnkjlhbpaaGreatDoor

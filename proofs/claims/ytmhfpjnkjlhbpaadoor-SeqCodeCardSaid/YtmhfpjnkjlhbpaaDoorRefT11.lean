/- obj.Right, spin.May of a sequence lock, whatever is asked (printed by gen/reft10.py). -/
import Derived.Test.YtmhfpjnkjlhbpaaDoorRefT10
import Derived.Test.YtmhfpjnkjlhbpaaDoorSeqCode
namespace Go.Proofs.YtmhfpjnkjlhbpaaDoor
open Go.ChangeShapes Go.WideShapes Go.ChangeAt Go.RowKit Go.Deep
set_option linter.unusedVariables false
set_option maxRecDepth 100000
set_option linter.unusedSimpArgs false

set_option maxHeartbeats 8000000 in
/-- obj.Right of a sequence lock. -/
theorem right_seqA (n a b th : Int) (W : World) : Calls Tryd.prog 62 #[objA 9 n a b, .int .i64 th] W fun e W' => e = .returned (.bool (right14 9 n a b th)) ∧ Below W.heap.size W W' := by
  have hq := Blk.new W 23 #[.int .i64 9, .int .i64 n, .int .i64 a, .int .i64 b]
  have hB := (Below.refl W.heap.size W).alloc (Nat.le_refl _) (.cells #[.int .i64 9, .int .i64 n, .int .i64 a, .int .i64 b] 23)
  have q0 := (hq.cell 0).trans rfl
  have q1 := (hq.cell 1).trans rfl
  have q2 := (hq.cell 2).trans rfl
  have q3 := (hq.cell 3).trans rfl
  clear hq
  unfold objA
  by_cases h1 : th < 1
  · rw [show right14 9 n a b th = false from decide_eq_false (by omega)]
    go_enter Tryd.func62, Tryd.ntmps62
    go_wp2
    go_ret
    exact ⟨rfl, hB⟩
  by_cases h2 : 8 < th
  · rw [show right14 9 n a b th = false from decide_eq_false (by omega)]
    go_enter Tryd.func62, Tryd.ntmps62
    go_wp2
    go_ret
    exact ⟨rfl, hB⟩
  obtain ⟨R, hR⟩ : ∃ R, right14 9 n a b th = R := ⟨_, rfl⟩
  rw [hR]
  have HRR := Lib.hid hR
  clear hR
  obtain ⟨i, hi⟩ : ∃ i, decide (1 ≤ n ∧ n ≤ 3) = i := ⟨_, rfl⟩
  have cI := fun W => in_any n 1 3 i hi W
  have HI := Lib.hid (And.intro cI hi)
  clear cI hi
  go_enter Tryd.func62, Tryd.ntmps62
  go_wp2_with fail
  generalize W.alloc (.cells #[.int .i64 9, .int .i64 n, .int .i64 a, .int .i64 b] 23) = V at q0 q1 q2 q3 hB ⊢
  refine (HI.out.1 _).mono ?_
  rintro e W1 ⟨rfl, rfl⟩
  have hi := HI.out.2
  clear HI
  cases i with
  | false =>
    obtain rfl : R = false := HRR.out.symm.trans (decide_eq_false (by have := of_decide_eq_false hi; omega))
    go_wp2
    go_ret
    exact ⟨rfl, hB⟩
  | true =>
    have h3 := of_decide_eq_true hi
    have HB := Lib.hid (And.intro hB h3)
    clear hB hi h3
    by_cases ha : a = 0
    · have ha' : (a == 0) = true := by simp [ha]
      by_cases hb : b = 0
      · obtain rfl : R = true := HRR.out.symm.trans (decide_eq_true (by have := HB.out.2; omega))
        have hb' : (b == 0) = true := by simp [hb]
        have HB2 := Lib.hid hb
        clear ha hb
        go_wp2
        go_ret
        exact ⟨congrArg (fun b => Ending.returned (Value.bool b)) (by first | rfl | assumption | (simp <;> omega) | (have := HB2.out; simp <;> omega)), HB.out.1⟩
      · obtain rfl : R = false := HRR.out.symm.trans (decide_eq_false (by omega))
        have hb' : (b == 0) = false := by simp [hb]
        clear ha
        go_wp2
        go_ret
        exact ⟨congrArg (fun b => Ending.returned (Value.bool b)) (by first | rfl | assumption | (simp <;> omega)), HB.out.1⟩
    · obtain rfl : R = false := HRR.out.symm.trans (decide_eq_false (by omega))
      have ha' : (a == 0) = false := by simp [ha]
      go_wp2
      go_ret
      exact ⟨congrArg (fun b => Ending.returned (Value.bool b)) (by first | rfl | assumption | (simp <;> omega)), HB.out.1⟩
/-- spin.May of a sequence lock. -/
theorem may_seqA (n a b call th t : Int) (W : World) : Calls Tryd.prog 23 #[.agg #[.int .i64 9, .int .i64 n, .int .i64 a, .int .i64 b], .int .i64 call, .int .i64 th, .int .i64 t] W fun e W' => e = .returned (.bool (may15 9 n a b call th t)) ∧ Below W.heap.size W W' := by
  have := may_any 9 n a b (right14 9 n a b th) [1, 2, 3, 4] (by decide) call th t W (fun _ => True) (fun _ _ _ _ => trivial) trivial (fun W1 _ => right_seqA n a b th W1) (fun W1 _ => calls_seq W1)
  have e : mayB (right14 9 n a b th) [1, 2, 3, 4] call th t = may15 9 n a b call th t := by
    unfold mayB may15
    rw [show may14 9 call = [1, 2, 3, 4].contains call from by
      rw [Bool.eq_iff_iff]
      unfold may14
      simp
      omega]
    cases right14 9 n a b th <;> cases decide (0 ≤ t ∧ t < th) <;> rfl
  rw [e] at this
  exact this
end Go.Proofs.YtmhfpjnkjlhbpaaDoor

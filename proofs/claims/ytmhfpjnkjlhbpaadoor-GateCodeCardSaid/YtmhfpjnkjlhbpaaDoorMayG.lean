/- obj.Right, spin.May for every kind: the document's. -/
import Derived.Test.YtmhfpjnkjlhbpaaDoorRefT10
namespace Go.Proofs.YtmhfpjnkjlhbpaaDoor
open Go.ChangeShapes Go.WideShapes Go.ChangeAt Go.RowKit Go.Deep
set_option linter.unusedVariables false
set_option maxRecDepth 100000
set_option linter.unusedSimpArgs false

theorem in_dec (n lo hi : Int) (W : World) : Calls Tryd.prog 103 #[.int .i64 n, .int .i64 lo, .int .i64 hi] W fun e W' => e = .returned (.bool (decide (lo ≤ n ∧ n ≤ hi))) ∧ W' = W := in_any n lo hi _ rfl W
theorem nameG_in (k : Int) (hk : 1 ≤ k ∧ k < 16) (W : World) (hO : ONam W) : Calls Tryd.prog 104 #[.int .i64 k] W fun e W' => ∃ s : ByteArray, s.toList.isEmpty = false ∧ e = .returned (.string s) ∧ W' = W := by
  obtain ⟨n, rfl⟩ : ∃ n : Nat, k = (n : Int) := ⟨k.toNat, by omega⟩
  refine (oname_any n (by omega) (by omega) W hO).mono ?_
  rintro e W1 ⟨rfl, rfl⟩
  refine ⟨_, ?_, rfl, rfl⟩
  have := onS_ne n (by omega) (by omega)
  rw [Bool.eq_false_iff]
  exact fun e => this (List.isEmpty_iff.1 e)
theorem nameG_out (k : Int) (hk : ¬ (1 ≤ k ∧ k < 16)) (W : World) : Calls Tryd.prog 104 #[.int .i64 k] W fun e W' => e = .returned (.string ⟨#[]⟩) ∧ W' = W := by
  by_cases h1 : k < 1
  · go_enter Tryd.func104, Tryd.ntmps104
    go_wp2
    go_ret
    exact ⟨rfl, rfl⟩
  · have h2 : 16 ≤ k := by omega
    clear hk
    go_enter Tryd.func104, Tryd.ntmps104
    go_wp2
    go_ret
    exact ⟨rfl, rfl⟩
set_option maxHeartbeats 16000000 in
theorem rightG_any (k n a b th : Int) (W : World) (hO : ONam W) : Calls Tryd.prog 62 #[objA k n a b, .int .i64 th] W fun e W' => e = .returned (.bool (right14 k n a b th)) ∧ Below W.heap.size W W' := by
  have hq := Blk.new W 23 #[.int .i64 k, .int .i64 n, .int .i64 a, .int .i64 b]
  have hB := (Below.refl W.heap.size W).alloc (Nat.le_refl _) (.cells #[.int .i64 k, .int .i64 n, .int .i64 a, .int .i64 b] 23)
  have HO := Lib.hid (hO.step hB)
  have q0 := (hq.cell 0).trans rfl
  have q1 := (hq.cell 1).trans rfl
  have q2 := (hq.cell 2).trans rfl
  have q3 := (hq.cell 3).trans rfl
  clear hq hO
  unfold objA
  by_cases h1 : th < 1
  · rw [show right14 k n a b th = false from decide_eq_false (by omega)]
    go_enter Tryd.func62, Tryd.ntmps62
    go_wp2
    go_ret
    exact ⟨rfl, hB⟩
  by_cases h2 : 8 < th
  · rw [show right14 k n a b th = false from decide_eq_false (by omega)]
    go_enter Tryd.func62, Tryd.ntmps62
    go_wp2
    go_ret
    exact ⟨rfl, hB⟩
  by_cases hkk : 1 ≤ k ∧ k < 16
  · have HK := Lib.hid hkk
    clear hkk
    go_enter Tryd.func62, Tryd.ntmps62
    go_wp2_with (first | (refine (in_dec _ _ _ _).mono ?_; rintro e W1 ⟨rfl, rfl⟩) | (refine (nameG_in k HK.out _ HO.out).mono ?_; rintro e W1 ⟨s, hs, rfl, rfl⟩))
    all_goals
      go_ret
      refine ⟨congrArg (fun b => Ending.returned (Value.bool b)) ?_, by first | exact hB | (subst_vars; exact hB)⟩
      have hkk := HK.out
      clear hB HO HK q0 q1 q2 q3
      try simp only [beq_iff_eq, beq_eq_false_iff_ne, ne_eq, decide_eq_true_eq, decide_eq_false_iff_not, bne_iff_ne] at *
      rw [Bool.eq_iff_iff]
      unfold right14
      simp only [beq_iff_eq, ne_eq, decide_eq_true_eq, bne_iff_ne, Bool.false_eq_true, false_iff, true_iff]
      omega
  · have HK := Lib.hid hkk
    clear hkk
    go_enter Tryd.func62, Tryd.ntmps62
    go_wp2_with (first | (refine (in_dec _ _ _ _).mono ?_; rintro e W1 ⟨rfl, rfl⟩) | (refine (nameG_out k HK.out _).mono ?_; rintro e W1 ⟨rfl, rfl⟩))
    all_goals
      go_ret
      refine ⟨congrArg (fun b => Ending.returned (Value.bool b)) ?_, by first | exact hB | (subst_vars; exact hB)⟩
      have hkk := HK.out
      clear hB HO HK q0 q1 q2 q3
      try simp only [beq_iff_eq, beq_eq_false_iff_ne, ne_eq, decide_eq_true_eq, decide_eq_false_iff_not, bne_iff_ne] at *
      rw [Bool.eq_iff_iff]
      unfold right14
      simp only [beq_iff_eq, ne_eq, decide_eq_true_eq, bne_iff_ne, Bool.false_eq_true, false_iff, true_iff]
      omega
end Go.Proofs.YtmhfpjnkjlhbpaaDoor

/- spin.May for every kind: the document's. -/
import Derived.Test.YtmhfpjnkjlhbpaaDoorMayG
namespace Go.Proofs.YtmhfpjnkjlhbpaaDoor
open Go.ChangeShapes Go.WideShapes Go.ChangeAt Go.RowKit Go.Deep
set_option linter.unusedVariables false
set_option maxRecDepth 100000
set_option linter.unusedSimpArgs false

/-- What may be asked of any kind. -/
def callsA (k : Int) : List Int := if k = 9 then [1, 2, 3, 4] else if k = 12 then [5, 6, 7, 8] else if k = 13 then [9] else if k = 14 then [1, 2, 3] else if k = 15 then [9, 10] else [1, 2]
set_option maxHeartbeats 2000000 in
theorem callsG (k : Int) (hk : 1 ≤ k ∧ k < 16) (W : World) (hO : ONam W) : Calls Tryd.prog 63 #[.int .i64 k] W fun e W' => ∃ g, e = .returned (.slice (some ⟨g, 0, none⟩) (callsA k).length (callsA k).length) ∧ Blk W' g 3 ((callsA k).map (Value.int .i64)).toArray ∧ Below W.heap.size W W' := by
  by_cases h9 : k = 9
  · subst h9; exact calls_seq W
  by_cases h12 : k = 12
  · subst h12; exact calls_of 12 (by omega) W
  by_cases h13 : k = 13
  · subst h13; exact calls_of 13 (by omega) W
  by_cases h14 : k = 14
  · subst h14; exact calls_of 14 (by omega) W
  by_cases h15 : k = 15
  · subst h15; exact calls_of 15 (by omega) W
  have e : callsA k = [1, 2] := by unfold callsA; rw [if_neg h9, if_neg h12, if_neg h13, if_neg h14, if_neg h15]
  rw [e]
  have hB := (Below.refl W.heap.size W).alloc (Nat.le_refl _) (.cells #[.int .i64 1, .int .i64 2] 3)
  have cN := nameG_in k hk W hO
  clear e hk
  go_enter Tryd.func63, Tryd.ntmps63
  go_wp2_with fail
  refine cN.mono ?_
  rintro e W1 ⟨s, hs, rfl, rfl⟩
  clear cN
  have hs' : ¬ s.toList = [] := fun q => by rw [q] at hs; cases hs
  go_wp2
  go_ret
  exact ⟨_, rfl, Blk.new _ _ _, hB⟩
theorem may14_calls (k call : Int) (hk : 1 ≤ k ∧ k < 16) : (callsA k).contains call = may14 k call := by
  rw [Bool.eq_iff_iff]
  unfold may14 callsA
  rw [decide_eq_true_eq]
  split
  · simp; omega
  split
  · simp; omega
  split
  · simp; omega
  split
  · simp; omega
  split
  · simp; omega
  · simp; omega
set_option maxHeartbeats 2000000 in
theorem mayG (k n a b call th t : Int) (W : World) (hO : ONam W) : Calls Tryd.prog 23 #[.agg #[.int .i64 k, .int .i64 n, .int .i64 a, .int .i64 b], .int .i64 call, .int .i64 th, .int .i64 t] W fun e W' => e = .returned (.bool (may15 k n a b call th t)) ∧ Below W.heap.size W W' := by
  by_cases hk : 1 ≤ k ∧ k < 16
  · have hl : (callsA k).length ≤ 100 := by
      unfold callsA
      repeat' split
      all_goals decide
    have := may_any k n a b (right14 k n a b th) (callsA k) hl call th t W ONam (fun _ _ h hb => h.step hb) hO (fun W1 h => rightG_any k n a b th W1 h) (fun W1 h => callsG k hk W1 h)
    have e : mayB (right14 k n a b th) (callsA k) call th t = may15 k n a b call th t := by
      unfold mayB may15
      rw [may14_calls k call hk]
      cases right14 k n a b th <;> cases decide (0 ≤ t ∧ t < th) <;> rfl
    rw [e] at this
    exact this
  · have hr : right14 k n a b th = false := decide_eq_false (by omega)
    have e : may15 k n a b call th t = false := by unfold may15; rw [hr]; rfl
    rw [e]
    have hq := Blk.new W 23 #[.int .i64 k, .int .i64 n, .int .i64 a, .int .i64 b]
    have hB := (Below.refl W.heap.size W).alloc (Nat.le_refl _) (.cells #[.int .i64 k, .int .i64 n, .int .i64 a, .int .i64 b] 23)
    have cR := rightG_any k n a b th _ (hO.step hB)
    rw [hr] at cR
    have q0 := (hq.cell 0).trans rfl
    have q1 := (hq.cell 1).trans rfl
    have q2 := (hq.cell 2).trans rfl
    have q3 := (hq.cell 3).trans rfl
    unfold objA at cR
    clear hr e hk hO hq
    by_cases h1 : t < 0
    · go_enter Tryd.func23, Tryd.ntmps23
      go_wp2
      go_ret
      exact ⟨rfl, hB⟩
    by_cases h2 : th ≤ t
    · go_enter Tryd.func23, Tryd.ntmps23
      go_wp2
      go_ret
      exact ⟨rfl, hB⟩
    go_enter Tryd.func23, Tryd.ntmps23
    go_wp2_with fail
    refine cR.mono ?_
    rintro e W1 ⟨rfl, hB1⟩
    have hB2 := step_below hB hB1
    clear cR hB hB1 q0 q1 q2 q3
    go_wp2
    go_ret
    exact ⟨rfl, hB2⟩
end Go.Proofs.YtmhfpjnkjlhbpaaDoor

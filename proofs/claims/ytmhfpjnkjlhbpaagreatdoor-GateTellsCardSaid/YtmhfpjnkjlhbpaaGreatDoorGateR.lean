/- GateTells (plain): what a thread alone is told. -/
import Derived.Test.YtmhfpjnkjlhbpaaGreatDoorGateB
import Derived.Test.YtmhfpjnkjlhbpaaGreatDoorAlone
namespace Go.Proofs.YtmhfpjnkjlhbpaaGreatDoor
open Go.ChangeShapes Go.WideShapes Go.ChangeAt Go.RowKit Go.Deep
set_option linter.unusedVariables false
set_option maxRecDepth 100000
set_option linter.unusedSimpArgs false

def gtPicks (k : Nat) : List (Int × Int) := (List.range k).flatMap fun _ => [(0, 0), (1, 0)]
theorem gtPicks_succ (k : Nat) : gtPicks (k + 1) = gtPicks k ++ [(0, 0), (1, 0)] := by unfold gtPicks; rw [List.range_succ, List.flatMap_append]; rfl
theorem gtPicks_len (k : Nat) : (gtPicks k).length = 2 * k := by
  induction k with
  | zero => rfl
  | succ k ih => rw [gtPicks_succ, List.length_append, ih]; show 2 * k + 2 = _; omega
/-- What is done once. -/
def gtL (who : Int) (call : Nat) : List Ins := if call = 9 then (BB.genter BB.e 16 who).out else (BB.gdone BB.e 16 who).out
def gtCs : List Nat := [10, 9, 9, 10, 10, 9]
def gtRun (C : Nat → List Ins) (cs : List Nat) : Mst := tRun (aB (cAll C cs) 1 18) (aS 18) (gtPicks 200)
theorem gt_four {who : Int} (h : 0 ≤ who ∧ who < 4) (P : Int → Prop) (h0 : P 0) (h1 : P 1) (h2 : P 2) (h3 : P 3) : P who := by
  have : who = 0 ∨ who = 1 ∨ who = 2 ∨ who = 3 := by omega
  rcases this with rfl | rfl | rfl | rfl
  · exact h0
  · exact h1
  · exact h2
  · exact h3
theorem gt_outs {who : Int} (h : 0 ≤ who ∧ who < 4) : outsP (gtRun (gtL who) gtCs).evs = [2, 5, 1, 0, 2, 0] :=
  gt_four h (fun who => outsP (gtRun (gtL who) gtCs).evs = [2, 5, 1, 0, 2, 0]) (by kernel_rfl) (by kernel_rfl) (by kernel_rfl) (by kernel_rfl)
theorem gt_mem {who : Int} (h : 0 ≤ who ∧ who < 4) : (gtRun (gtL who) gtCs).mem.getD 16 0 = 2 ∧ (gtRun (gtL who) gtCs).mem.length = 18 :=
  gt_four h (fun who => (gtRun (gtL who) gtCs).mem.getD 16 0 = 2 ∧ (gtRun (gtL who) gtCs).mem.length = 18) ⟨by kernel_rfl, by kernel_rfl⟩ ⟨by kernel_rfl, by kernel_rfl⟩ ⟨by kernel_rfl, by kernel_rfl⟩ ⟨by kernel_rfl, by kernel_rfl⟩
theorem gt_few {who : Int} (h : 0 ≤ who ∧ who < 4) : (gtRun (gtL who) gtCs).evs.length ≤ 1000 := by
  refine of_decide_eq_true ?_
  exact gt_four h (fun who => decide ((gtRun (gtL who) gtCs).evs.length ≤ 1000) = true) (by kernel_rfl) (by kernel_rfl) (by kernel_rfl) (by kernel_rfl)
theorem gt_right {who : Int} (h : 0 ≤ who ∧ who < 4) : ((cAll (gtL who) gtCs).all fun i => rightB i ((cAll (gtL who) gtCs).length : Int)) = true :=
  gt_four h (fun who => ((cAll (gtL who) gtCs).all fun i => rightB i ((cAll (gtL who) gtCs).length : Int)) = true) (by kernel_rfl) (by kernel_rfl) (by kernel_rfl) (by kernel_rfl)
theorem gt_good {who : Int} (h : 0 ≤ who ∧ who < 4) : CGood (gtL who) gtCs := by
  have h9 : ((gtL who 9).all okB && decide ((gtL who 9).length ≤ 60)) = true := gt_four h (fun who => ((gtL who 9).all okB && decide ((gtL who 9).length ≤ 60)) = true) (by kernel_rfl) (by kernel_rfl) (by kernel_rfl) (by kernel_rfl)
  have h10 : ((gtL who 10).all okB && decide ((gtL who 10).length ≤ 60)) = true := gt_four h (fun who => ((gtL who 10).all okB && decide ((gtL who 10).length ≤ 60)) = true) (by kernel_rfl) (by kernel_rfl) (by kernel_rfl) (by kernel_rfl)
  intro c hc
  have : c = 9 ∨ c = 10 := by
    simp only [gtCs, List.mem_cons, List.not_mem_nil, or_false] at hc
    omega
  rcases this with rfl | rfl
  · exact h9
  · exact h10
/-- A barrier's strangers. -/
def gbL (w : Int) (_ : Nat) : List Ins := (BB.e.ins ⟨1, 7, 0, 0, w⟩).out
theorem gb_run (w : Int) : outsP (gtRun (gbL w) [9]).evs = [w] ∧ (gtRun (gbL w) [9]).mem = List.replicate 18 0 ∧ (gtRun (gbL w) [9]).evs.length ≤ 1000 := ⟨by kernel_rfl, by kernel_rfl, of_decide_eq_true (by kernel_rfl)⟩
theorem gb_right (w : Int) : ((cAll (gbL w) [9]).all fun i => rightB i ((cAll (gbL w) [9]).length : Int)) = true := by kernel_rfl
theorem gb_good {w : Int} (h : w = 3 ∨ w = 4) : CGood (gbL w) [9] := by
  intro c hc
  rcases h with rfl | rfl <;> kernel_rfl
end Go.Proofs.YtmhfpjnkjlhbpaaGreatDoor

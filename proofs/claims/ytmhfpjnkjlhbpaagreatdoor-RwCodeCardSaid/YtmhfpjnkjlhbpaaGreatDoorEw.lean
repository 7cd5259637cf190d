/- RwCode. -/
import Derived.Test.YtmhfpjnkjlhbpaaGreatDoorGrow
namespace Go.Proofs.YtmhfpjnkjlhbpaaGreatDoor
open Go.ChangeShapes Go.WideShapes Go.ChangeAt Go.RowKit Go.Deep
set_option linter.unusedVariables false
set_option maxRecDepth 100000
set_option linter.unusedSimpArgs false
structure Ev where
  (kind who pc addr value old k : Int)
  ok : Bool
instance : Inhabited Ev := ⟨⟨0, 0, 0, 0, 0, 0, 0, false⟩⟩
def Ev.cells (x : Ev) : List Value := [.int .i64 x.kind, .int .i64 x.who, .int .i64 x.pc, .int .i64 x.addr, .int .u32 x.value, .int .u32 x.old, .int .u32 x.k, .bool x.ok]
def Ev.val (x : Ev) : Value := .agg #[.int .i64 x.kind, .int .i64 x.who, .int .i64 x.pc, .int .i64 x.addr, .int .u32 x.value, .int .u32 x.old, .int .u32 x.k, .bool x.ok]
def evs (E : Nat → Ev) (t : Int) (k : Nat) : List (Nat × Ev) := ((List.range k).map fun i => (i, E i)).filter fun x => x.2.who == t
theorem evs_hit {E : Nat → Ev} {t : Int} {k : Nat} (h : (E k).who = t) : evs E t (k + 1) = evs E t k ++ [(k, E k)] := by
  unfold evs
  rw [List.range_succ, List.map_append, List.filter_append]
  congr 1
  show List.filter (fun x : Nat × Ev => x.2.who == t) [(k, E k)] = [(k, E k)]
  rw [List.filter_cons_of_pos (by simpa using h)]
  rfl
theorem evs_miss {E : Nat → Ev} {t : Int} {k : Nat} (h : (E k).who ≠ t) : evs E t (k + 1) = evs E t k := by
  unfold evs
  rw [List.range_succ, List.map_append, List.filter_append]
  show _ ++ List.filter (fun x : Nat × Ev => x.2.who == t) [(k, E k)] = _
  rw [List.filter_cons_of_neg (by simpa using h)]
  simp
theorem evs_len (E : Nat → Ev) (t : Int) (k : Nat) : (evs E t k).length ≤ k := by
  unfold evs
  have := List.length_filter_le (fun x : Nat × Ev => x.2.who == t) ((List.range k).map fun i => (i, E i))
  simpa using this
end Go.Proofs.YtmhfpjnkjlhbpaaGreatDoor

/- The document's Right. -/
import Derived.Test.YtjmnogpnjombgaaDoorIsaRight
namespace Go.Proofs.YtjmnogpnjombgaaDoor
open Go.ChangeShapes Go.WideShapes Go.ChangeAt Go.RowKit
set_option linter.unusedVariables false
set_option maxRecDepth 100000
set_option linter.unusedSimpArgs false

theorem has_v (i : Nat) (c : Int) (v : Bool) (h : hasF i c = v) (hi : i < 28) (w : World) :
    Calls Tryd.prog 35 #[.int .i64 (i : Int), .int .u8 c] w fun e w' => e = .returned (.bool v) ∧ Below w.heap.size w w' := h ▸ has_in i c hi w

theorem isaRight_out (op a b c k size : Int) (h : op < 0 ∨ 28 ≤ op) (w : World) :
    Calls Tryd.prog 48 #[.agg #[.int .i64 op, .int .i64 a, .int .i64 b, .int .i64 c, .int .u32 k], .int .i64 size] w fun e w' => e = .returned (.bool false) ∧ Below w.heap.size w w' := by
  have hB := (Below.refl w.heap.size w).alloc (Nat.le_refl _) (Obj.cells #[.int .i64 op, .int .i64 a, .int .i64 b, .int .i64 c, .int .u32 k] 54)
  go_enter Tryd.func48, Tryd.ntmps48
  go_wp2_with fail
  refine (name_out op h _).mono ?_
  rintro e w1 ⟨rfl, hb1⟩
  have hB1 := step_below hB hb1
  go_wp2
  go_ret
  exact ⟨rfl, hB1⟩

theorem refRight_out (op a b c k size : Int) (h : op < 0 ∨ 28 ≤ op) (w : World) :
    Calls Tryd.prog 133 #[.agg #[.int .i64 op, .int .i64 a, .int .i64 b, .int .i64 c, .int .u32 k], .int .i64 size] w fun e w' => e = .returned (.bool false) ∧ Below w.heap.size w w' := by
  have hB := (Below.refl w.heap.size w).alloc (Nat.le_refl _) (Obj.cells #[.int .i64 op, .int .i64 a, .int .i64 b, .int .i64 c, .int .u32 k] 54)
  go_enter Tryd.func133, Tryd.ntmps133
  go_wp2_with fail
  refine (refName_out op h _).mono ?_
  rintro e w1 ⟨rfl, hb1⟩
  have hB1 := step_below hB hb1
  go_wp2
  go_ret
  exact ⟨rfl, hB1⟩

def kinds : List (Bool × Bool × Bool × Bool × Bool × Bool) :=
  [(false, false, false, false, false, false), (false, false, false, false, true, false), (true, false, false, false, false, true), (true, false, false, false, true, false), (true, false, false, false, false, false),
   (true, true, false, false, false, false), (true, true, false, true, false, false), (true, false, true, false, false, true), (true, false, true, true, false, true)]
theorem kinds_all : (List.range 28).all (fun i => kinds.contains (hasF i 65, hasF i 66, hasF i 77, hasF i 67, hasF i 84, hasF i 75)) = true := by decide +kernel

set_option maxHeartbeats 4000000 in
theorem refRight_in (i : Nat) (hi : i < 28) (a b c k size : Int) (h0 : 0 ≤ k) (h1 : k ≤ 4294967295) (w : World) :
    Calls Tryd.prog 133 #[.agg #[.int .i64 (i : Int), .int .i64 a, .int .i64 b, .int .i64 c, .int .u32 k], .int .i64 size] w fun e w' => e = .returned (.bool (decide (RightP (kindAt i) a b c k size))) ∧ Below w.heap.size w w' := by
  have hk := List.all_eq_true.1 kinds_all i (List.mem_range.2 hi)
  obtain ⟨r, hr⟩ : ∃ r, decide (RightP (kindAt i) a b c k size) = r := ⟨_, rfl⟩
  rw [hr]
  unfold kindAt RightP FieldP at hr
  have hnm := (use_at i hi).2.2.2.2.2.2
  have hB := (Below.refl w.heap.size w).alloc (Nat.le_refl _) (Obj.cells #[.int .i64 (i : Int), .int .i64 a, .int .i64 b, .int .i64 c, .int .u32 k] 54)
  have hq := Blk.new w 54 #[.int .i64 (i : Int), .int .i64 a, .int .i64 b, .int .i64 c, .int .u32 k]
  have hasA := has_v i 65 _ rfl hi
  have hasB := has_v i 66 _ rfl hi
  have hasM := has_v i 77 _ rfl hi
  have hasC := has_v i 67 _ rfl hi
  have hasT := has_v i 84 _ rfl hi
  have hasK := has_v i 75 _ rfl hi
  go_enter Tryd.func133, Tryd.ntmps133
  go_wp2_with fail
  refine (refName_in i hi _).mono ?_
  rintro e w1 ⟨rfl, hb1⟩
  have hB1 := step_below hB hb1
  have hq1 := hq.below hb1 hq.lt
  have k0 := hq1.cell 0
  have k1 := hq1.cell 1
  have k2 := hq1.cell 2
  have k3 := hq1.cell 3
  have k4 := hq1.cell 4
  simp only [List.getElem?_toArray, List.getElem?_cons_zero, List.getElem?_cons_succ] at k0 k1 k2 k3 k4
  have hl := hq1.lt
  clear hq hB hb1 hq1
  generalize hasF i 65 = vA at *
  generalize hasF i 66 = vB at *
  generalize hasF i 77 = vM at *
  generalize hasF i 67 = vC at *
  generalize hasF i 84 = vT at *
  generalize hasF i 75 = vK at *
  simp only [kinds, List.contains_cons, List.contains_nil, Bool.or_false, Bool.or_eq_true, beq_iff_eq, Prod.mk.injEq] at hk
  rcases hk with ⟨rfl, rfl, rfl, rfl, rfl, rfl⟩ | ⟨rfl, rfl, rfl, rfl, rfl, rfl⟩ | ⟨rfl, rfl, rfl, rfl, rfl, rfl⟩ | ⟨rfl, rfl, rfl, rfl, rfl, rfl⟩ | ⟨rfl, rfl, rfl, rfl, rfl, rfl⟩ | ⟨rfl, rfl, rfl, rfl, rfl, rfl⟩ | ⟨rfl, rfl, rfl, rfl, rfl, rfl⟩ | ⟨rfl, rfl, rfl, rfl, rfl, rfl⟩ | ⟨rfl, rfl, rfl, rfl, rfl, rfl⟩
  rotate_left 1
  all_goals simp only [Bool.or_true, Bool.or_false, Bool.or_self, if_true, Bool.false_eq_true, if_false, false_or, true_or, and_true] at hr
  go_upto_region 13 with (first
    | (go_at_call 35; (first | with_reducible refine (hasA _).mono ?_ | with_reducible refine (hasB _).mono ?_ | with_reducible refine (hasM _).mono ?_ | with_reducible refine (hasC _).mono ?_ | with_reducible refine (hasT _).mono ?_ | with_reducible refine (hasK _).mono ?_); rintro e wn ⟨rfl, hbn⟩; replace k0 := keep_cell hbn hl k0; replace k1 := keep_cell hbn hl k1; replace k2 := keep_cell hbn hl k2; replace k3 := keep_cell hbn hl k3; replace k4 := keep_cell hbn hl k4; replace hB1 := step_below hB1 hbn; replace hl := lt_below hbn hl))
  all_goals
    go_wp2_with (first
    | (go_at_call 35; (first | with_reducible refine (hasA _).mono ?_ | with_reducible refine (hasB _).mono ?_ | with_reducible refine (hasM _).mono ?_ | with_reducible refine (hasC _).mono ?_ | with_reducible refine (hasT _).mono ?_ | with_reducible refine (hasK _).mono ?_); rintro e wn ⟨rfl, hbn⟩; replace k0 := keep_cell hbn hl k0; replace k1 := keep_cell hbn hl k1; replace k2 := keep_cell hbn hl k2; replace k3 := keep_cell hbn hl k3; replace k4 := keep_cell hbn hl k4; replace hB1 := step_below hB1 hbn; replace hl := lt_below hbn hl))
  all_goals go_ret
  all_goals refine ⟨?_, hB1⟩
  all_goals rw [← hr]
  all_goals clear hr k0 k1 k2 k3 k4 hasA hasB hasM hasC hasT hasK hB1
  all_goals try simp only [Bool.or_eq_true, Bool.or_eq_false_iff, decide_eq_true_eq, decide_eq_false_iff_not] at *
  all_goals first
    | (simp; done)
    | (simp; omega)
    | (simp; rw [Bool.eq_iff_iff]; simp only [Bool.or_eq_true, Bool.and_eq_true, decide_eq_true_eq, beq_iff_eq]; omega)
    | (rw [Bool.eq_iff_iff]; simp only [Bool.or_eq_true, Bool.and_eq_true, decide_eq_true_eq, beq_iff_eq]; omega)
end Go.Proofs.YtjmnogpnjombgaaDoor

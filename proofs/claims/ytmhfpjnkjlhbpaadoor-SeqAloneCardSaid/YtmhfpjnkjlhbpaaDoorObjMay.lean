/- obj.Right, obj.Calls at some kinds; spin.May. -/
import Derived.Test.YtmhfpjnkjlhbpaaDoorMStay
import Derived.Deep.LoopGhost
namespace Go.Proofs.YtmhfpjnkjlhbpaaDoor
open Go.ChangeShapes Go.WideShapes Go.ChangeAt Go.RowKit Go.Deep
set_option linter.unusedVariables false
set_option maxRecDepth 100000
set_option linter.unusedSimpArgs false

def objA (k n a b : Int) : Value := .agg #[.int .i64 k, .int .i64 n, .int .i64 a, .int .i64 b]
theorem obj_info : (Tryd.prog.info? 23).map (·.size) = some 4 := by kernel_rfl

theorem in_any (n lo hi : Int) (b : Bool) (hb : decide (lo ≤ n ∧ n ≤ hi) = b) (W : World) : Calls Tryd.prog 103 #[.int .i64 n, .int .i64 lo, .int .i64 hi] W fun e W' => e = .returned (.bool b) ∧ W' = W := by
  subst hb
  by_cases h1 : lo ≤ n
  · by_cases h2 : n ≤ hi
    · rw [decide_eq_true ⟨h1, h2⟩]
      go_enter Tryd.func103, Tryd.ntmps103
      go_wp2
      go_ret
      exact ⟨rfl, rfl⟩
    · rw [decide_eq_false (fun h => h2 h.2)]
      go_enter Tryd.func103, Tryd.ntmps103
      go_wp2
      go_ret
      exact ⟨rfl, rfl⟩
  · rw [decide_eq_false (fun h => h1 h.1)]
    go_enter Tryd.func103, Tryd.ntmps103
    go_wp2
    go_ret
    exact ⟨rfl, rfl⟩

set_option maxHeartbeats 2000000 in
theorem right_seq (n threads : Int) (hn : 1 ≤ n ∧ n ≤ 3) (ht : 1 ≤ threads ∧ threads ≤ 8) (W : World) : Calls Tryd.prog 62 #[objA 9 n 0 0, .int .i64 threads] W fun e W' => e = .returned (.bool true) ∧ Below W.heap.size W W' := by
  have hq := Blk.new W 23 #[.int .i64 9, .int .i64 n, .int .i64 0, .int .i64 0]
  have hB := (Below.refl W.heap.size W).alloc (Nat.le_refl _) (.cells #[.int .i64 9, .int .i64 n, .int .i64 0, .int .i64 0] 23)
  have q0 := (hq.cell 0).trans rfl
  have q1 := (hq.cell 1).trans rfl
  have q2 := (hq.cell 2).trans rfl
  have q3 := (hq.cell 3).trans rfl
  unfold objA
  go_enter Tryd.func62, Tryd.ntmps62
  go_wp2_with fail
  refine (in_any n 1 3 true (decide_eq_true hn) _).mono ?_
  rintro e W1 ⟨rfl, rfl⟩
  go_wp2
  go_ret
  exact ⟨rfl, hB⟩

set_option maxHeartbeats 1000000 in
theorem calls_seq (W : World) : Calls Tryd.prog 63 #[.int .i64 9] W fun e W' => ∃ g, e = .returned (.slice (some ⟨g, 0, none⟩) 4 4) ∧ Blk W' g 3 #[.int .i64 1, .int .i64 2, .int .i64 3, .int .i64 4] ∧ Below W.heap.size W W' := by
  have hB := (Below.refl W.heap.size W).alloc (Nat.le_refl _) (.cells #[.int .i64 1, .int .i64 2, .int .i64 3, .int .i64 4] 3)
  go_enter Tryd.func63, Tryd.ntmps63
  go_wp2
  go_ret
  exact ⟨_, rfl, Blk.new _ _ _, hB⟩

/-- What may be asked. -/
def mayB (rb : Bool) (cl : List Int) (call threads t : Int) : Bool := decide (0 ≤ t ∧ t < threads) && (rb && cl.contains call)
set_option maxHeartbeats 2000000 in
theorem may_any (k n a b : Int) (rb : Bool) (cl : List Int) (hcl : cl.length ≤ 100) (call threads t : Int) (W : World) (P : World → Prop) (hP : ∀ W1 W2, P W1 → Below W1.heap.size W1 W2 → P W2) (h0 : P W)
    (hR : ∀ W1, P W1 → Calls Tryd.prog 62 #[objA k n a b, .int .i64 threads] W1 fun e W' => e = .returned (.bool rb) ∧ Below W1.heap.size W1 W')
    (hC : ∀ W1, P W1 → Calls Tryd.prog 63 #[.int .i64 k] W1 fun e W' => ∃ g, e = .returned (.slice (some ⟨g, 0, none⟩) cl.length cl.length) ∧ Blk W' g 3 (cl.map (Value.int .i64)).toArray ∧ Below W1.heap.size W1 W') :
    Calls Tryd.prog 23 #[objA k n a b, .int .i64 call, .int .i64 threads, .int .i64 t] W fun e W' => e = .returned (.bool (mayB rb cl call threads t)) ∧ Below W.heap.size W W' := by
  have hq := Blk.new W 23 #[.int .i64 k, .int .i64 n, .int .i64 a, .int .i64 b]
  have hB := (Below.refl W.heap.size W).alloc (Nat.le_refl _) (.cells #[.int .i64 k, .int .i64 n, .int .i64 a, .int .i64 b] 23)
  have q0 := (hq.cell 0).trans rfl
  have q1 := (hq.cell 1).trans rfl
  have q2 := (hq.cell 2).trans rfl
  have q3 := (hq.cell 3).trans rfl
  unfold objA at *
  have HP := Lib.hid hP
  have HW := Lib.hid (hP _ _ h0 hB)
  have HR := Lib.hid hR
  have HC := Lib.hid hC
  clear hR hC hP h0
  by_cases h1 : t < 0
  · rw [show mayB rb cl call threads t = false from by unfold mayB; rw [decide_eq_false (by omega)]; rfl]
    go_enter Tryd.func23, Tryd.ntmps23
    go_wp2
    go_ret
    exact ⟨rfl, hB⟩
  by_cases h2 : threads ≤ t
  · rw [show mayB rb cl call threads t = false from by unfold mayB; rw [decide_eq_false (by omega)]; rfl]
    go_enter Tryd.func23, Tryd.ntmps23
    go_wp2
    go_ret
    exact ⟨rfl, hB⟩
  rw [show mayB rb cl call threads t = (rb && cl.contains call) from by unfold mayB; rw [decide_eq_true (by omega)]; rfl]
  go_enter Tryd.func23, Tryd.ntmps23
  go_wp2_with fail
  refine (HR.out _ HW.out).mono ?_
  rintro e W1 ⟨rfl, hB1⟩
  have hq1 := hq.below hB1 hq.lt
  have hB2 := step_below hB hB1
  have HW1 := Lib.hid (HP.out _ _ HW.out hB1)
  clear q0 q1 q2 q3 hB hB1 hq
  cases rb with
  | false =>
    go_wp2
    go_ret
    exact ⟨rfl, hB2⟩
  | true =>
    have q0 := (hq1.cell 0).trans rfl
    go_wp2_with fail
    refine (HC.out _ HW1.out).mono ?_
    rintro e W2 ⟨g, rfl, hg, hB3⟩
    have hB4 := step_below hB2 hB3
    obtain ⟨m, hm⟩ : ∃ m, cl.length = m := ⟨_, rfl⟩
    rw [hm]
    rw [hm] at hcl
    clear hB2 hB3 HW1 hq1 q0 HC HR HP HW
    have HG := Lib.hid hg
    clear hg
    go_wp2
    go_loopw [28] (fun v wr => ∃ j : Nat, j ≤ m ∧ v = .int .i64 j ∧ wr = W2 ∧ ∀ i, i < j → cl[i]? ≠ some call) (fun v _ => m - (intOf v).toNat)
    case atStart => exact ⟨0, Nat.zero_le _, rfl, rfl, fun i hi => absurd hi (by omega)⟩
    case round =>
      obtain ⟨j, hj, rfl, rfl, hno⟩ := hrel
      by_cases hlt : j < m
      · have hx : cl[j]? = some (cl[j]'(by omega)) := List.getElem?_eq_getElem (by omega)
        generalize cl[j]'(by omega) = x at hx
        have c0 : wr.cell? ⟨g, j, none⟩ = some (.int .i64 x) := (HG.out.cell j).trans (by simp [hx])
        have hjm : (j : Int) < (m : Int) := by omega
        by_cases hxc : x = call
        · subst hxc
          have : cl.contains x = true := by
            rw [List.contains_iff_mem]
            exact List.mem_of_getElem? hx
          have HT := Lib.hid this
          clear hno hx this
          go_wp2
          go_ret
          exact ⟨by rw [HT.out]; rfl, hB4⟩
        · have HN := Lib.hid (And.intro hno hx)
          clear hno hx
          go_wp2
          go_roundw
          case rel =>
            refine ⟨j + 1, by omega, by go_num, by trivial, fun i hi => ?_⟩
            by_cases hij : i = j
            · subst hij; rw [HN.out.2]; intro e; exact hxc (Option.some.inj e)
            · exact HN.out.1 i (by omega)
          case measure => simp [intOf]; omega
      · obtain rfl : j = m := by omega
        have : cl.contains call = false := by
          rw [Bool.eq_false_iff]
          intro e
          rw [List.contains_iff_mem] at e
          obtain ⟨i, hi, e⟩ := List.mem_iff_getElem.1 e
          exact hno i (by omega) (by rw [List.getElem?_eq_getElem hi, e])
        have HT := Lib.hid this
        clear hno this
        go_wp2
        go_ret
        exact ⟨by rw [HT.out]; rfl, hB4⟩
end Go.Proofs.YtmhfpjnkjlhbpaaDoor

/- RwCode. -/
import Derived.Test.YtmhfpjnkjlhbpaaGreatDoorMStay
import Derived.Deep.LoopGhost
namespace Go.Proofs.YtmhfpjnkjlhbpaaGreatDoor
open Go.ChangeShapes Go.WideShapes Go.ChangeAt Go.RowKit Go.Deep
set_option linter.unusedVariables false
set_option maxRecDepth 100000
set_option linter.unusedSimpArgs false
def onL : List ByteArray := [⟨#[]⟩, ⟨#[116, 97, 115]⟩, ⟨#[116, 116, 97, 115]⟩, ⟨#[116, 105, 99, 107, 101, 116]⟩, ⟨#[109, 99, 115]⟩, ⟨#[99, 108, 104]⟩, ⟨#[112, 101, 116, 101, 114, 115, 111, 110]⟩, ⟨#[100, 101, 107, 107, 101, 114]⟩, ⟨#[98, 105, 97, 115]⟩, ⟨#[115, 101, 113]⟩, ⟨#[109, 117, 116, 101, 120]⟩, ⟨#[115, 101, 109]⟩, ⟨#[99, 111, 110, 100]⟩, ⟨#[98, 97, 114, 114, 105, 101, 114]⟩, ⟨#[114, 119]⟩, ⟨#[111, 110, 99, 101]⟩]
def onS (i : Nat) : ByteArray := onL.getD i ⟨#[]⟩
def ONam (W : World) : Prop := 3 ≤ W.heap.size ∧ ∀ i, i < 16 → W.cell? ⟨2, i, none⟩ = some (.string (onS i))
theorem ONam.step {w w1 : World} (h : ONam w) (hb : Below w.heap.size w w1) : ONam w1 := ⟨Nat.le_trans h.1 hb.size, fun i hi => keepAt hb (World.block_lt_of_cell? w _ (h.2 i hi)) (h.2 i hi)⟩
def objA (k n a b : Int) : Value := .agg #[.int .i64 k, .int .i64 n, .int .i64 a, .int .i64 b]
theorem obj_info : (Tryz.prog.info? 46).map (·.size) = some 4 := by kernel_rfl
def mayB (rb : Bool) (cl : List Int) (call threads t : Int) : Bool := decide (0 ≤ t ∧ t < threads) && (rb && cl.contains call)
set_option maxHeartbeats 2000000 in
theorem may_any (k n a b : Int) (rb : Bool) (cl : List Int) (hcl : cl.length ≤ 100) (call threads t : Int) (W : World) (P : World → Prop) (hP : ∀ W1 W2, P W1 → Below W1.heap.size W1 W2 → P W2) (h0 : P W)
    (hR : ∀ W1, P W1 → Calls Tryz.prog 91 #[objA k n a b, .int .i64 threads] W1 fun e W' => e = .returned (.bool rb) ∧ Below W1.heap.size W1 W')
    (hC : ∀ W1, P W1 → Calls Tryz.prog 92 #[.int .i64 k] W1 fun e W' => ∃ g, e = .returned (.slice (some ⟨g, 0, none⟩) cl.length cl.length) ∧ Blk W' g 3 (cl.map (Value.int .i64)).toArray ∧ Below W1.heap.size W1 W') :
    Calls Tryz.prog 52 #[objA k n a b, .int .i64 call, .int .i64 threads, .int .i64 t] W fun e W' => e = .returned (.bool (mayB rb cl call threads t)) ∧ Below W.heap.size W W' := by
  have hq := Blk.new W 46 #[.int .i64 k, .int .i64 n, .int .i64 a, .int .i64 b]
  have hB := (Below.refl W.heap.size W).alloc (Nat.le_refl _) (.cells #[.int .i64 k, .int .i64 n, .int .i64 a, .int .i64 b] 46)
  have q0 := (hq.cell 0).trans rfl
  have q1 := (hq.cell 1).trans rfl
  have q2 := (hq.cell 2).trans rfl
  have q3 := (hq.cell 3).trans rfl
  unfold objA at *
  have HP := Lib.hid hP
  have HW := Lib.hid (hP _ _ h0 hB)
  have HR := Lib.hid hR
  have HC := Lib.hid hC
  clear hR hC hP h0
  by_cases h1 : t < 0
  · rw [show mayB rb cl call threads t = false from by unfold mayB; rw [decide_eq_false (by omega)]; rfl]
    go_enter Tryz.func52, Tryz.ntmps52
    go_wp2
    go_ret
    exact ⟨rfl, hB⟩
  by_cases h2 : threads ≤ t
  · rw [show mayB rb cl call threads t = false from by unfold mayB; rw [decide_eq_false (by omega)]; rfl]
    go_enter Tryz.func52, Tryz.ntmps52
    go_wp2
    go_ret
    exact ⟨rfl, hB⟩
  rw [show mayB rb cl call threads t = (rb && cl.contains call) from by unfold mayB; rw [decide_eq_true (by omega)]; rfl]
  go_enter Tryz.func52, Tryz.ntmps52
  go_wp2_with fail
  refine (HR.out _ HW.out).mono ?_
  rintro e W1 ⟨rfl, hB1⟩
  have hq1 := hq.below hB1 hq.lt
  have hB2 := step_below hB hB1
  have HW1 := Lib.hid (HP.out _ _ HW.out hB1)
  clear q0 q1 q2 q3 hB hB1 hq
  cases rb with
  | false =>
    go_wp2
    go_ret
    exact ⟨rfl, hB2⟩
  | true =>
    have q0 := (hq1.cell 0).trans rfl
    go_wp2_with fail
    refine (HC.out _ HW1.out).mono ?_
    rintro e W2 ⟨g, rfl, hg, hB3⟩
    have hB4 := step_below hB2 hB3
    obtain ⟨m, hm⟩ : ∃ m, cl.length = m := ⟨_, rfl⟩
    rw [hm]
    rw [hm] at hcl
    clear hB2 hB3 HW1 hq1 q0 HC HR HP HW
    have HG := Lib.hid hg
    clear hg
    go_wp2
    go_loopw [28] (fun v wr => ∃ j : Nat, j ≤ m ∧ v = .int .i64 j ∧ wr = W2 ∧ ∀ i, i < j → cl[i]? ≠ some call) (fun v _ => m - (intOf v).toNat)
    case atStart => exact ⟨0, Nat.zero_le _, rfl, rfl, fun i hi => absurd hi (by omega)⟩
    case round =>
      obtain ⟨j, hj, rfl, rfl, hno⟩ := hrel
      by_cases hlt : j < m
      · have hx : cl[j]? = some (cl[j]'(by omega)) := List.getElem?_eq_getElem (by omega)
        generalize cl[j]'(by omega) = x at hx
        have c0 : wr.cell? ⟨g, j, none⟩ = some (.int .i64 x) := (HG.out.cell j).trans (by simp [hx])
        have hjm : (j : Int) < (m : Int) := by omega
        by_cases hxc : x = call
        · subst hxc
          have : cl.contains x = true := by
            rw [List.contains_iff_mem]
            exact List.mem_of_getElem? hx
          have HT := Lib.hid this
          clear hno hx this
          go_wp2
          go_ret
          exact ⟨by rw [HT.out]; rfl, hB4⟩
        · have HN := Lib.hid (And.intro hno hx)
          clear hno hx
          go_wp2
          go_roundw
          case rel =>
            refine ⟨j + 1, by omega, by go_num, by trivial, fun i hi => ?_⟩
            by_cases hij : i = j
            · subst hij; rw [HN.out.2]; intro e; exact hxc (Option.some.inj e)
            · exact HN.out.1 i (by omega)
          case measure => simp [intOf]; omega
      · obtain rfl : j = m := by omega
        have : cl.contains call = false := by
          rw [Bool.eq_false_iff]
          intro e
          rw [List.contains_iff_mem] at e
          obtain ⟨i, hi, e⟩ := List.mem_iff_getElem.1 e
          exact hno i (by omega) (by rw [List.getElem?_eq_getElem hi, e])
        have HT := Lib.hid this
        clear hno this
        go_wp2
        go_ret
        exact ⟨by rw [HT.out]; rfl, hB4⟩
theorem oname_any (k : Nat) (h1 : 1 ≤ k) (h2 : k < 16) (W : World) (hO : ONam W) : Calls Tryz.prog 137 #[.int .i64 (k : Int)] W fun e W' => e = .returned (.string (onS k)) ∧ W' = W := by
  have c0 := hO.2 k h2
  have g1 : ¬ (k : Int) < 1 := by omega
  have g2 : ¬ (16 : Int) ≤ (k : Int) := by omega
  have g3 : (k : Int) < 16 := by omega
  go_enter Tryz.func137, Tryz.ntmps137
  go_wp2
  go_ret
  exact ⟨rfl, rfl⟩
theorem onS_ne (k : Nat) (h1 : 1 ≤ k) (h2 : k < 16) : ¬ (onS k).toList = [] := by
  have := List.all_eq_true.1 (show (List.range 16).all (fun k => decide (k = 0) || !(onS k).toList.isEmpty) = true from by decide +kernel) k (List.mem_range.2 h2)
  intro e
  rw [e] at this
  simp at this
  omega
set_option maxHeartbeats 2000000 in
theorem right_nam (k : Nat) (hk : k = 12 ∨ k = 14 ∨ k = 15) (threads : Int) (ht : 1 ≤ threads ∧ threads ≤ 8) (W : World) (hO : ONam W) : Calls Tryz.prog 91 #[objA (k : Int) 0 0 0, .int .i64 threads] W fun e W' => e = .returned (.bool true) ∧ Below W.heap.size W W' := by
  have hq := Blk.new W 46 #[.int .i64 (k : Int), .int .i64 0, .int .i64 0, .int .i64 0]
  have hB := (Below.refl W.heap.size W).alloc (Nat.le_refl _) (.cells #[.int .i64 (k : Int), .int .i64 0, .int .i64 0, .int .i64 0] 46)
  have q0 := (hq.cell 0).trans rfl
  have q1 := (hq.cell 1).trans rfl
  have q2 := (hq.cell 2).trans rfl
  have q3 := (hq.cell 3).trans rfl
  have cN := oname_any k (by omega) (by omega) _ (hO.step hB)
  have hne := onS_ne k (by omega) (by omega)
  have hne2 : ¬ (onS k).toList.isEmpty = true := fun e => hne (List.isEmpty_iff.1 e)
  unfold objA
  rcases hk with rfl | rfl | rfl
  all_goals
    go_enter Tryz.func91, Tryz.ntmps91
    go_wp2_with fail
    refine cN.mono ?_
    rintro e W1 ⟨rfl, rfl⟩
    clear cN
    go_wp2
    go_ret
    exact ⟨rfl, hB⟩
def callsL (k : Nat) : List Int := if k = 12 then [5, 6, 7, 8] else if k = 13 then [9] else if k = 14 then [1, 2, 3] else [9, 10]
set_option maxHeartbeats 2000000 in
theorem calls_of (k : Nat) (hk : k = 12 ∨ k = 13 ∨ k = 14 ∨ k = 15) (W : World) : Calls Tryz.prog 92 #[.int .i64 (k : Int)] W fun e W' => ∃ g, e = .returned (.slice (some ⟨g, 0, none⟩) (callsL k).length (callsL k).length) ∧ Blk W' g 3 ((callsL k).map (Value.int .i64)).toArray ∧ Below W.heap.size W W' := by
  have hB := fun o => (Below.refl W.heap.size W).alloc (Nat.le_refl _) o
  rcases hk with rfl | rfl | rfl | rfl
  all_goals
    go_enter Tryz.func92, Tryz.ntmps92
    go_wp2
    go_ret
    exact ⟨_, rfl, Blk.new _ _ _, hB _⟩
theorem may_nam (k : Nat) (hk : k = 12 ∨ k = 14 ∨ k = 15) (call threads t : Int) (ht : 1 ≤ threads ∧ threads ≤ 8) (h0 : 0 ≤ t ∧ t < threads) (hc : (callsL k).contains call = true) (W : World) (hO : ONam W) :
    Calls Tryz.prog 52 #[.agg #[.int .i64 (k : Int), .int .i64 0, .int .i64 0, .int .i64 0], .int .i64 call, .int .i64 threads, .int .i64 t] W fun e W' => e = .returned (.bool true) ∧ Below W.heap.size W W' := by
  have e : mayB true (callsL k) call threads t = true := by unfold mayB; rw [decide_eq_true h0, hc]; rfl
  have hl : (callsL k).length ≤ 100 := by rcases hk with rfl | rfl | rfl <;> decide
  have := may_any (k : Int) 0 0 0 true (callsL k) hl call threads t W ONam (fun _ _ h hb => h.step hb) hO (fun W1 h => right_nam k hk threads ht W1 h) (fun W1 _ => calls_of k (by omega) W1)
  rw [e] at this
  exact this
end Go.Proofs.YtmhfpjnkjlhbpaaGreatDoor

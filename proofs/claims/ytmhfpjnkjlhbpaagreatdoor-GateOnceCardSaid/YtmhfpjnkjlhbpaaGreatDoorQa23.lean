/- obj.Right, obj.Calls at some kinds; spin.May. seq.Code at what may be asked (printed by gen/bldf.py). gate: wake, enter, done, barrier (strangers); gate.Code there (printed by gen/bldf.py). law21: awake. -/
import Derived.Test.YtmhfpjnkjlhbpaaGreatDoorQa08
import Derived.Deep.LoopGhost
import Derived.Test.YtmhfpjnkjlhbpaaGreatDoorQa10
import Derived.Test.YtmhfpjnkjlhbpaaGreatDoorQa22
namespace Go.Proofs.YtmhfpjnkjlhbpaaGreatDoor
open Go.ChangeShapes Go.WideShapes Go.ChangeAt Go.RowKit Go.Deep
set_option linter.unusedVariables false
set_option maxRecDepth 100000
set_option linter.unusedSimpArgs false

def onL : List ByteArray := [⟨#[]⟩, ⟨#[116, 97, 115]⟩, ⟨#[116, 116, 97, 115]⟩, ⟨#[116, 105, 99, 107, 101, 116]⟩, ⟨#[109, 99, 115]⟩, ⟨#[99, 108, 104]⟩, ⟨#[112, 101, 116, 101, 114, 115, 111, 110]⟩, ⟨#[100, 101, 107, 107, 101, 114]⟩, ⟨#[98, 105, 97, 115]⟩, ⟨#[115, 101, 113]⟩, ⟨#[109, 117, 116, 101, 120]⟩, ⟨#[115, 101, 109]⟩, ⟨#[99, 111, 110, 100]⟩, ⟨#[98, 97, 114, 114, 105, 101, 114]⟩, ⟨#[114, 119]⟩, ⟨#[111, 110, 99, 101]⟩]
def onS (i : Nat) : ByteArray := onL.getD i ⟨#[]⟩
def ONam (W : World) : Prop := 3 ≤ W.heap.size ∧ ∀ i, i < 16 → W.cell? ⟨2, i, none⟩ = some (.string (onS i))
theorem ONam.step {w w1 : World} (h : ONam w) (hb : Below w.heap.size w w1) : ONam w1 := ⟨Nat.le_trans h.1 hb.size, fun i hi => keepAt hb (World.block_lt_of_cell? w _ (h.2 i hi)) (h.2 i hi)⟩
def objA (k n a b : Int) : Value := .agg #[.int .i64 k, .int .i64 n, .int .i64 a, .int .i64 b]
theorem in_any (n lo hi : Int) (b : Bool) (hb : decide (lo ≤ n ∧ n ≤ hi) = b) (W : World) : Calls Tryz.prog 136 #[.int .i64 n, .int .i64 lo, .int .i64 hi] W fun e W' => e = .returned (.bool b) ∧ W' = W := by
  subst hb
  by_cases h1 : lo ≤ n
  · by_cases h2 : n ≤ hi
    · rw [decide_eq_true ⟨h1, h2⟩]
      go_enter Tryz.func136, Tryz.ntmps136
      go_wp2
      go_ret
      exact ⟨rfl, rfl⟩
    · rw [decide_eq_false (fun h => h2 h.2)]
      go_enter Tryz.func136, Tryz.ntmps136
      go_wp2
      go_ret
      exact ⟨rfl, rfl⟩
  · rw [decide_eq_false (fun h => h1 h.1)]
    go_enter Tryz.func136, Tryz.ntmps136
    go_wp2
    go_ret
    exact ⟨rfl, rfl⟩

def mayB (rb : Bool) (cl : List Int) (call threads t : Int) : Bool := decide (0 ≤ t ∧ t < threads) && (rb && cl.contains call)
set_option maxHeartbeats 2000000 in
theorem may_any (k n a b : Int) (rb : Bool) (cl : List Int) (hcl : cl.length ≤ 100) (call threads t : Int) (W : World) (P : World → Prop) (hP : ∀ W1 W2, P W1 → Below W1.heap.size W1 W2 → P W2) (h0 : P W)
    (hR : ∀ W1, P W1 → Calls Tryz.prog 91 #[objA k n a b, .int .i64 threads] W1 fun e W' => e = .returned (.bool rb) ∧ Below W1.heap.size W1 W')
    (hC : ∀ W1, P W1 → Calls Tryz.prog 92 #[.int .i64 k] W1 fun e W' => ∃ g, e = .returned (.slice (some ⟨g, 0, none⟩) cl.length cl.length) ∧ Blk W' g 3 (cl.map (Value.int .i64)).toArray ∧ Below W1.heap.size W1 W') :
    Calls Tryz.prog 52 #[objA k n a b, .int .i64 call, .int .i64 threads, .int .i64 t] W fun e W' => e = .returned (.bool (mayB rb cl call threads t)) ∧ Below W.heap.size W W' := by
  have hq := Blk.new W 46 #[.int .i64 k, .int .i64 n, .int .i64 a, .int .i64 b]
  have hB := (Below.refl W.heap.size W).alloc (Nat.le_refl _) (.cells #[.int .i64 k, .int .i64 n, .int .i64 a, .int .i64 b] 46)
  have q0 := (hq.cell 0).trans rfl
  have q1 := (hq.cell 1).trans rfl
  have q2 := (hq.cell 2).trans rfl
  have q3 := (hq.cell 3).trans rfl
  unfold objA at *
  have HP := Lib.hid hP
  have HW := Lib.hid (hP _ _ h0 hB)
  have HR := Lib.hid hR
  have HC := Lib.hid hC
  clear hR hC hP h0
  by_cases h1 : t < 0
  · rw [show mayB rb cl call threads t = false from by unfold mayB; rw [decide_eq_false (by omega)]; rfl]
    go_enter Tryz.func52, Tryz.ntmps52
    go_wp2
    go_ret
    exact ⟨rfl, hB⟩
  by_cases h2 : threads ≤ t
  · rw [show mayB rb cl call threads t = false from by unfold mayB; rw [decide_eq_false (by omega)]; rfl]
    go_enter Tryz.func52, Tryz.ntmps52
    go_wp2
    go_ret
    exact ⟨rfl, hB⟩
  rw [show mayB rb cl call threads t = (rb && cl.contains call) from by unfold mayB; rw [decide_eq_true (by omega)]; rfl]
  go_enter Tryz.func52, Tryz.ntmps52
  go_wp2_with fail
  refine (HR.out _ HW.out).mono ?_
  rintro e W1 ⟨rfl, hB1⟩
  have hq1 := hq.below hB1 hq.lt
  have hB2 := step_below hB hB1
  have HW1 := Lib.hid (HP.out _ _ HW.out hB1)
  clear q0 q1 q2 q3 hB hB1 hq
  cases rb with
  | false =>
    go_wp2
    go_ret
    exact ⟨rfl, hB2⟩
  | true =>
    have q0 := (hq1.cell 0).trans rfl
    go_wp2_with fail
    refine (HC.out _ HW1.out).mono ?_
    rintro e W2 ⟨g, rfl, hg, hB3⟩
    have hB4 := step_below hB2 hB3
    obtain ⟨m, hm⟩ : ∃ m, cl.length = m := ⟨_, rfl⟩
    rw [hm]
    rw [hm] at hcl
    clear hB2 hB3 HW1 hq1 q0 HC HR HP HW
    have HG := Lib.hid hg
    clear hg
    go_wp2
    go_loopw [28] (fun v wr => ∃ j : Nat, j ≤ m ∧ v = .int .i64 j ∧ wr = W2 ∧ ∀ i, i < j → cl[i]? ≠ some call) (fun v _ => m - (intOf v).toNat)
    case atStart => exact ⟨0, Nat.zero_le _, rfl, rfl, fun i hi => absurd hi (by omega)⟩
    case round =>
      obtain ⟨j, hj, rfl, rfl, hno⟩ := hrel
      by_cases hlt : j < m
      · have hx : cl[j]? = some (cl[j]'(by omega)) := List.getElem?_eq_getElem (by omega)
        generalize cl[j]'(by omega) = x at hx
        have c0 : wr.cell? ⟨g, j, none⟩ = some (.int .i64 x) := (HG.out.cell j).trans (by simp [hx])
        have hjm : (j : Int) < (m : Int) := by omega
        by_cases hxc : x = call
        · subst hxc
          have : cl.contains x = true := by
            rw [List.contains_iff_mem]
            exact List.mem_of_getElem? hx
          have HT := Lib.hid this
          clear hno hx this
          go_wp2
          go_ret
          exact ⟨by rw [HT.out]; rfl, hB4⟩
        · have HN := Lib.hid (And.intro hno hx)
          clear hno hx
          go_wp2
          go_roundw
          case rel =>
            refine ⟨j + 1, by omega, by go_num, by trivial, fun i hi => ?_⟩
            by_cases hij : i = j
            · subst hij; rw [HN.out.2]; intro e; exact hxc (Option.some.inj e)
            · exact HN.out.1 i (by omega)
          case measure => simp [intOf]; omega
      · obtain rfl : j = m := by omega
        have : cl.contains call = false := by
          rw [Bool.eq_false_iff]
          intro e
          rw [List.contains_iff_mem] at e
          obtain ⟨i, hi, e⟩ := List.mem_iff_getElem.1 e
          exact hno i (by omega) (by rw [List.getElem?_eq_getElem hi, e])
        have HT := Lib.hid this
        clear hno this
        go_wp2
        go_ret
        exact ⟨by rw [HT.out]; rfl, hB4⟩

theorem oname_any (k : Nat) (h1 : 1 ≤ k) (h2 : k < 16) (W : World) (hO : ONam W) : Calls Tryz.prog 137 #[.int .i64 (k : Int)] W fun e W' => e = .returned (.string (onS k)) ∧ W' = W := by
  have c0 := hO.2 k h2
  have g1 : ¬ (k : Int) < 1 := by omega
  have g2 : ¬ (16 : Int) ≤ (k : Int) := by omega
  have g3 : (k : Int) < 16 := by omega
  go_enter Tryz.func137, Tryz.ntmps137
  go_wp2
  go_ret
  exact ⟨rfl, rfl⟩
theorem onS_ne (k : Nat) (h1 : 1 ≤ k) (h2 : k < 16) : ¬ (onS k).toList = [] := by
  have := List.all_eq_true.1 (show (List.range 16).all (fun k => decide (k = 0) || !(onS k).toList.isEmpty) = true from by decide +kernel) k (List.mem_range.2 h2)
  intro e
  rw [e] at this
  simp at this
  omega
set_option maxHeartbeats 2000000 in
theorem right_nam (k : Nat) (hk : k = 12 ∨ k = 14 ∨ k = 15) (threads : Int) (ht : 1 ≤ threads ∧ threads ≤ 8) (W : World) (hO : ONam W) : Calls Tryz.prog 91 #[objA (k : Int) 0 0 0, .int .i64 threads] W fun e W' => e = .returned (.bool true) ∧ Below W.heap.size W W' := by
  have hq := Blk.new W 46 #[.int .i64 (k : Int), .int .i64 0, .int .i64 0, .int .i64 0]
  have hB := (Below.refl W.heap.size W).alloc (Nat.le_refl _) (.cells #[.int .i64 (k : Int), .int .i64 0, .int .i64 0, .int .i64 0] 46)
  have q0 := (hq.cell 0).trans rfl
  have q1 := (hq.cell 1).trans rfl
  have q2 := (hq.cell 2).trans rfl
  have q3 := (hq.cell 3).trans rfl
  have cN := oname_any k (by omega) (by omega) _ (hO.step hB)
  have hne := onS_ne k (by omega) (by omega)
  have hne2 : ¬ (onS k).toList.isEmpty = true := fun e => hne (List.isEmpty_iff.1 e)
  unfold objA
  rcases hk with rfl | rfl | rfl
  all_goals
    go_enter Tryz.func91, Tryz.ntmps91
    go_wp2_with fail
    refine cN.mono ?_
    rintro e W1 ⟨rfl, rfl⟩
    clear cN
    go_wp2
    go_ret
    exact ⟨rfl, hB⟩
set_option maxHeartbeats 2000000 in
theorem right_bar (n threads : Int) (hn : 1 ≤ n ∧ n ≤ threads) (ht : 1 ≤ threads ∧ threads ≤ 8) (W : World) : Calls Tryz.prog 91 #[objA 13 n 0 0, .int .i64 threads] W fun e W' => e = .returned (.bool true) ∧ Below W.heap.size W W' := by
  have hq := Blk.new W 46 #[.int .i64 13, .int .i64 n, .int .i64 0, .int .i64 0]
  have hB := (Below.refl W.heap.size W).alloc (Nat.le_refl _) (.cells #[.int .i64 13, .int .i64 n, .int .i64 0, .int .i64 0] 46)
  have q0 := (hq.cell 0).trans rfl
  have q1 := (hq.cell 1).trans rfl
  have q2 := (hq.cell 2).trans rfl
  have q3 := (hq.cell 3).trans rfl
  unfold objA
  go_enter Tryz.func91, Tryz.ntmps91
  go_wp2_with fail
  refine (in_any n 1 threads true (decide_eq_true hn) _).mono ?_
  rintro e W1 ⟨rfl, rfl⟩
  go_wp2
  go_ret
  exact ⟨rfl, hB⟩
def callsL (k : Nat) : List Int := if k = 12 then [5, 6, 7, 8] else if k = 13 then [9] else if k = 14 then [1, 2, 3] else [9, 10]
set_option maxHeartbeats 2000000 in
theorem calls_of (k : Nat) (hk : k = 12 ∨ k = 13 ∨ k = 14 ∨ k = 15) (W : World) : Calls Tryz.prog 92 #[.int .i64 (k : Int)] W fun e W' => ∃ g, e = .returned (.slice (some ⟨g, 0, none⟩) (callsL k).length (callsL k).length) ∧ Blk W' g 3 ((callsL k).map (Value.int .i64)).toArray ∧ Below W.heap.size W W' := by
  have hB := fun o => (Below.refl W.heap.size W).alloc (Nat.le_refl _) o
  rcases hk with rfl | rfl | rfl | rfl
  all_goals
    go_enter Tryz.func92, Tryz.ntmps92
    go_wp2
    go_ret
    exact ⟨_, rfl, Blk.new _ _ _, hB _⟩
theorem may_nam (k : Nat) (hk : k = 12 ∨ k = 14 ∨ k = 15) (call threads t : Int) (ht : 1 ≤ threads ∧ threads ≤ 8) (h0 : 0 ≤ t ∧ t < threads) (hc : (callsL k).contains call = true) (W : World) (hO : ONam W) :
    Calls Tryz.prog 52 #[.agg #[.int .i64 (k : Int), .int .i64 0, .int .i64 0, .int .i64 0], .int .i64 call, .int .i64 threads, .int .i64 t] W fun e W' => e = .returned (.bool true) ∧ Below W.heap.size W W' := by
  have e : mayB true (callsL k) call threads t = true := by unfold mayB; rw [decide_eq_true h0, hc]; rfl
  have hl : (callsL k).length ≤ 100 := by rcases hk with rfl | rfl | rfl <;> decide
  have := may_any (k : Int) 0 0 0 true (callsL k) hl call threads t W ONam (fun _ _ h hb => h.step hb) hO (fun W1 h => right_nam k hk threads ht W1 h) (fun W1 _ => calls_of k (by omega) W1)
  rw [e] at this
  exact this
theorem may_bar (n threads t : Int) (hn : 1 ≤ n ∧ n ≤ threads) (ht : 1 ≤ threads ∧ threads ≤ 8) (h0 : 0 ≤ t ∧ t < threads) (W : World) :
    Calls Tryz.prog 52 #[.agg #[.int .i64 13, .int .i64 n, .int .i64 0, .int .i64 0], .int .i64 9, .int .i64 threads, .int .i64 t] W fun e W' => e = .returned (.bool true) ∧ Below W.heap.size W W' := by
  have e : mayB true (callsL 13) 9 threads t = true := by unfold mayB; rw [decide_eq_true h0]; rfl
  have := may_any 13 n 0 0 true (callsL 13) (by decide) 9 threads t W (fun _ => True) (fun _ _ _ _ => trivial) trivial (fun W1 h => right_bar n threads hn ht W1) (fun W1 _ => calls_of 13 (by omega) W1)
  rw [e] at this
  exact this
end Go.Proofs.YtmhfpjnkjlhbpaaGreatDoor
namespace Go.Proofs.YtmhfpjnkjlhbpaaGreatDoor
open Go.ChangeShapes Go.WideShapes Go.ChangeAt Go.RowKit Go.Deep
set_option linter.unusedVariables false
set_option maxRecDepth 100000
set_option linter.unusedSimpArgs false

theorem BI.fresh {N0 : Nat} {W : World} (hN : N0 ≤ W.heap.size) : BI N0 (W.alloc (.cells #[.slice none 0 0, .map none, .slice none 0 0, .bool false] 130)) W.heap.size BB.e :=
  ⟨_, _, none, Blk.new _ _ _, hN, ⟨rfl, .inl ⟨rfl, rfl⟩⟩, ⟨rfl, .inl ⟨rfl, rfl⟩⟩, rfl⟩
theorem BB.e_room (n : Nat) (h : n ≤ 1000) : BB.e.Room n := ⟨by show 0 + n ≤ _; omega, by show 0 + n ≤ _; omega, by show 0 + n ≤ _; omega⟩
theorem OutI.below {W0 W1 W' : World} {v : Value} {l : List Ins} (h : OutI W1 v l W') (hs : W0.heap.size ≤ W1.heap.size) : OutI W0 v l W' := by
  obtain ⟨og, cap, cs, h1, h2, h3, h4, h5, h6, h7⟩ := h
  exact ⟨og, cap, cs, h1, h2, h3, h4, h5, Nat.le_trans hs h6, h7⟩
end Go.Proofs.YtmhfpjnkjlhbpaaGreatDoor
namespace Go.Proofs.YtmhfpjnkjlhbpaaGreatDoor
open Go.ChangeShapes Go.WideShapes Go.ChangeAt Go.RowKit Go.Deep
set_option linter.unusedVariables false
set_option maxRecDepth 100000
set_option linter.unusedSimpArgs false

def BB.wake (b : BB) (k a : Int) : BB := (b.ins ⟨1, 4, 0, 0, k⟩).ins ⟨24, 4, 8, 0, a⟩
theorem BB.Room.wake {b : BB} {n : Nat} (h : b.Room (n + 2)) (k a : Int) : (b.wake k a).Room n := BB.Room.ins (BB.Room.ins h _) _
theorem every_any (W : World) : Calls Tryz.prog 112 #[] W fun e W' => e = .returned (.int .u32 4294967295) ∧ W' = W := by
  have cM : Calls Tryz.prog 103 #[.int .u32 1] W fun e W' => e = .returned (.int .u32 4294967295) ∧ W' = W := by
    go_enter Tryz.func103, Tryz.ntmps103
    go_wp2
    go_ret
    exact ⟨by first | rfl | decide, rfl⟩
  go_enter Tryz.func112, Tryz.ntmps112
  go_wp2_with fail
  refine cM.mono ?_
  rintro e W1 ⟨rfl, rfl⟩
  go_wp2
  go_ret
  exact ⟨rfl, rfl⟩
def BB.genter (b : BB) (base t : Int) : BB := ((((((((((((((((((((b.claim (base + 1) t).at n_again).ins ⟨16, 4, 8, 0, base⟩).ins ⟨1, 6, 0, 0, 2⟩).ins ⟨12, 6, 4, 6, 0⟩).go 15 6 n_done).ins ⟨1, 4, 0, 0, 0⟩).ins ⟨1, 6, 0, 0, 1⟩).ins ⟨21, 4, 8, 6, base⟩).go 14 4 n_yours).ins ⟨1, 6, 0, 0, 1⟩).ins ⟨12, 6, 4, 6, 0⟩).go 14 6 n_again).ins ⟨23, 4, 8, 0, base⟩).go 13 0 n_again).at n_yours).ins ⟨17, 5, 8, 0, base + 1⟩).ins ⟨1, 7, 0, 0, 5⟩).go 13 0 n_end).at n_done).close
def BB.gdone (b : BB) (base t : Int) : BB := ((((b.prove (base + 1) t).zero (base + 1)).ins ⟨1, 4, 0, 0, 2⟩).ins ⟨19, 4, 8, 0, base⟩).wake 4294967295 base |>.close

set_option maxHeartbeats 2000000 in
theorem b_wake {N0 bb : Nat} {b : BB} {n : Nat} (k a : Int) {W : World} (h : BI N0 W bb b) (hr : b.Room (n + 2))  : Bls 111 #[.pointer (some ⟨bb, 0, none⟩), .int .u32 k, .int .u32 a] N0 bb b (b.wake k a) W := by
  unfold Bls
  go_enter Tryz.func111, Tryz.ntmps111
  go_wp2_with fail
  refine Bls.step (b_set (n := n + 1) _ _ h hr) ?_
  rintro _ W1 ⟨⟨u0, rfl⟩, h1, b1⟩
  have r1 := BI.rins (n := n + 1) h1 hr
  go_wp2_with fail
  refine Bls.step (b_ask (n := n + 0) _ _ _ h1 r1) ?_
  rintro _ W2 ⟨⟨u1, rfl⟩, h2, b2⟩
  have r2 := BI.rins (n := n + 0) h2 r1
  go_wp2
  go_end0
  exact ⟨⟨_, rfl⟩, h2, b1.trans (b2)⟩

set_option maxHeartbeats 2000000 in
theorem b_genter {N0 bb : Nat} {n : Nat} (base t : Int) {W : World} (h : BI N0 W bb BB.e) (hr : BB.e.Room (n + 28)) (ht : 0 ≤ t ∧ t ≤ 1000) (hb : 0 ≤ base ∧ base ≤ 4294960000) : Bls 70 #[.pointer (some ⟨bb, 0, none⟩), .int .i64 t, .int .u32 base] N0 bb BB.e (BB.genter BB.e base t) W := by
  unfold Bls
  go_enter Tryz.func70, Tryz.ntmps70
  go_wp2_with fail
  refine Bls.step (b_claim (n := n + 21) _ _ h hr ht (by kernel_rfl)) ?_
  rintro _ W1 ⟨⟨u0, rfl⟩, h1, b1⟩
  have r1 := BB.Room.claim hr (base + 1) t
  go_wp2_with fail
  try rw [str_again]
  refine Bls.step (b_at (n := n + 20) n_again nm_again h1 r1 (by kernel_rfl)) ?_
  rintro _ W2 ⟨⟨u1, rfl⟩, h2, b2⟩
  have r2 := BI.rat (n := n + 20) h2 r1
  go_wp2_with fail
  refine Bls.step (b_ask (n := n + 19) _ _ _ h2 r2) ?_
  rintro _ W3 ⟨⟨u2, rfl⟩, h3, b3⟩
  have r3 := BI.rins (n := n + 19) h3 r2
  go_wp2_with fail
  refine Bls.step (b_set (n := n + 18) _ _ h3 r3) ?_
  rintro _ W4 ⟨⟨u3, rfl⟩, h4, b4⟩
  have r4 := BI.rins (n := n + 18) h4 r3
  go_wp2_with fail
  refine Bls.step (b_alu (n := n + 17) _ _ _ _ h4 r4) ?_
  rintro _ W5 ⟨⟨u4, rfl⟩, h5, b5⟩
  have r5 := BI.rins (n := n + 17) h5 r4
  go_wp2_with fail
  try rw [str_done]
  refine Bls.step (b_go (n := n + 16) _ _ n_done h5 r5) ?_
  rintro _ W6 ⟨⟨u5, rfl⟩, h6, b6⟩
  have r6 := BI.rgo (n := n + 16) h6 r5
  go_wp2_with fail
  refine Bls.step (b_set (n := n + 15) _ _ h6 r6) ?_
  rintro _ W7 ⟨⟨u6, rfl⟩, h7, b7⟩
  have r7 := BI.rins (n := n + 15) h7 r6
  go_wp2_with fail
  refine Bls.step (b_set (n := n + 14) _ _ h7 r7) ?_
  rintro _ W8 ⟨⟨u7, rfl⟩, h8, b8⟩
  have r8 := BI.rins (n := n + 14) h8 r7
  go_wp2_with fail
  refine Bls.step (b_cas (n := n + 13) _ _ _ h8 r8) ?_
  rintro _ W9 ⟨⟨u8, rfl⟩, h9, b9⟩
  have r9 := BI.rins (n := n + 13) h9 r8
  go_wp2_with fail
  try rw [str_yours]
  refine Bls.step (b_go (n := n + 12) _ _ n_yours h9 r9) ?_
  rintro _ W10 ⟨⟨u9, rfl⟩, h10, b10⟩
  have r10 := BI.rgo (n := n + 12) h10 r9
  go_wp2_with fail
  refine Bls.step (b_set (n := n + 11) _ _ h10 r10) ?_
  rintro _ W11 ⟨⟨u10, rfl⟩, h11, b11⟩
  have r11 := BI.rins (n := n + 11) h11 r10
  go_wp2_with fail
  refine Bls.step (b_alu (n := n + 10) _ _ _ _ h11 r11) ?_
  rintro _ W12 ⟨⟨u11, rfl⟩, h12, b12⟩
  have r12 := BI.rins (n := n + 10) h12 r11
  go_wp2_with fail
  try rw [str_again]
  refine Bls.step (b_go (n := n + 9) _ _ n_again h12 r12) ?_
  rintro _ W13 ⟨⟨u12, rfl⟩, h13, b13⟩
  have r13 := BI.rgo (n := n + 9) h13 r12
  go_wp2_with fail
  refine Bls.step (b_ask (n := n + 8) _ _ _ h13 r13) ?_
  rintro _ W14 ⟨⟨u13, rfl⟩, h14, b14⟩
  have r14 := BI.rins (n := n + 8) h14 r13
  go_wp2_with fail
  try rw [str_again]
  refine Bls.step (b_go (n := n + 7) _ _ n_again h14 r14) ?_
  rintro _ W15 ⟨⟨u14, rfl⟩, h15, b15⟩
  have r15 := BI.rgo (n := n + 7) h15 r14
  go_wp2_with fail
  try rw [str_yours]
  refine Bls.step (b_at (n := n + 6) n_yours nm_yours h15 r15 (by kernel_rfl)) ?_
  rintro _ W16 ⟨⟨u15, rfl⟩, h16, b16⟩
  have r16 := BI.rat (n := n + 6) h16 r15
  go_wp2_with fail
  refine Bls.step (b_ask (n := n + 5) _ _ _ h16 r16) ?_
  rintro _ W17 ⟨⟨u16, rfl⟩, h17, b17⟩
  have r17 := BI.rins (n := n + 5) h17 r16
  go_wp2_with fail
  refine Bls.step (b_set (n := n + 4) _ _ h17 r17) ?_
  rintro _ W18 ⟨⟨u17, rfl⟩, h18, b18⟩
  have r18 := BI.rins (n := n + 4) h18 r17
  go_wp2_with fail
  try rw [str_end]
  refine Bls.step (b_go (n := n + 3) _ _ n_end h18 r18) ?_
  rintro _ W19 ⟨⟨u18, rfl⟩, h19, b19⟩
  have r19 := BI.rgo (n := n + 3) h19 r18
  go_wp2_with fail
  try rw [str_done]
  refine Bls.step (b_at (n := n + 2) n_done nm_done h19 r19 (by kernel_rfl)) ?_
  rintro _ W20 ⟨⟨u19, rfl⟩, h20, b20⟩
  have r20 := BI.rat (n := n + 2) h20 r19
  go_wp2_with fail
  refine Bls.step (b_close (n := n + 0)  h20 r20 (by kernel_rfl)) ?_
  rintro _ W21 ⟨⟨u20, rfl⟩, h21, b21⟩
  have r21 := BB.Room.close r20
  go_wp2
  go_end0
  exact ⟨⟨_, rfl⟩, h21, b1.trans (b2.trans (b3.trans (b4.trans (b5.trans (b6.trans (b7.trans (b8.trans (b9.trans (b10.trans (b11.trans (b12.trans (b13.trans (b14.trans (b15.trans (b16.trans (b17.trans (b18.trans (b19.trans (b20.trans (b21))))))))))))))))))))⟩

set_option maxHeartbeats 2000000 in
theorem b_gdone {N0 bb : Nat} {n : Nat} (base t : Int) {W : World} (h : BI N0 W bb BB.e) (hr : BB.e.Room (n + 15)) (ht : 0 ≤ t ∧ t ≤ 1000) (hb : 0 ≤ base ∧ base ≤ 4294960000) : Bls 71 #[.pointer (some ⟨bb, 0, none⟩), .int .i64 t, .int .u32 base] N0 bb BB.e (BB.gdone BB.e base t) W := by
  unfold Bls
  go_enter Tryz.func71, Tryz.ntmps71
  go_wp2_with fail
  refine Bls.step (b_prove (n := n + 8) _ _ h hr ht (by kernel_rfl)) ?_
  rintro _ W1 ⟨⟨u0, rfl⟩, h1, b1⟩
  have r1 := BB.Room.prove hr (base + 1) t
  go_wp2_with fail
  refine Bls.step (b_zero (n := n + 6) _ h1 r1 ) ?_
  rintro _ W2 ⟨⟨u1, rfl⟩, h2, b2⟩
  have r2 := BB.Room.zero r1 (base + 1)
  go_wp2_with fail
  refine Bls.step (b_set (n := n + 5) _ _ h2 r2) ?_
  rintro _ W3 ⟨⟨u2, rfl⟩, h3, b3⟩
  have r3 := BI.rins (n := n + 5) h3 r2
  go_wp2_with fail
  refine Bls.step (b_ask (n := n + 4) _ _ _ h3 r3) ?_
  rintro _ W4 ⟨⟨u3, rfl⟩, h4, b4⟩
  have r4 := BI.rins (n := n + 4) h4 r3
  go_wp2_with fail
  refine (every_any _).mono ?_
  rintro e W5 ⟨rfl, rfl⟩
  have h5 := h4
  have b5 := BelF.refl N0 W5
  have r5 := r4
  go_wp2_with fail
  refine Bls.step (b_wake (n := n + 2) _ _ h5 r5 ) ?_
  rintro _ W6 ⟨⟨u5, rfl⟩, h6, b6⟩
  have r6 := BB.Room.wake r4 4294967295 base
  go_wp2_with fail
  refine Bls.step (b_close (n := n + 0)  h6 r6 (by kernel_rfl)) ?_
  rintro _ W7 ⟨⟨u6, rfl⟩, h7, b7⟩
  have r7 := BB.Room.close r6
  go_wp2
  go_end0
  exact ⟨⟨_, rfl⟩, h7, b1.trans (b2.trans (b3.trans (b4.trans (b5.trans (b6.trans (b7))))))⟩

set_option maxHeartbeats 2000000 in
theorem b_barS {N0 bb : Nat} {n : Nat} (N t base arg : Int) {W : World} (h : BI N0 W bb BB.e) (hr : BB.e.Room (n + 1)) (hN : 1 ≤ N ∧ N ≤ 8) (ht : 0 ≤ t ∧ t ≤ 1000) (ha : 0 ≤ arg ∧ arg ≤ 4294967295) (hs : N ≤ t) : Bls 69 #[.pointer (some ⟨bb, 0, none⟩), .agg #[.int .i64 13, .int .i64 N, .int .i64 0, .int .i64 0], .int .i64 t, .int .u32 base, .int .u32 arg] N0 bb BB.e (BB.e.ins ⟨1, 7, 0, 0, 4⟩) W := by
  unfold Bls
  have hq := Blk.new W 46 #[.int .i64 13, .int .i64 N, .int .i64 0, .int .i64 0]
  have hB := (Below.refl W.heap.size W).alloc (Nat.le_refl _) (.cells #[.int .i64 13, .int .i64 N, .int .i64 0, .int .i64 0] 46)
  have q1 := (hq.cell 1).trans rfl
  have hI := h.below hB
  have hN0 : N0 ≤ W.heap.size := by obtain ⟨vc, vl, mo, hP⟩ := h; exact hP.lt
  go_enter Tryz.func69, Tryz.ntmps69
  go_wp2_with fail
  refine Bls.step (b_set (n := n) _ _ hI hr) ?_
  rintro _ W1 ⟨⟨u0, rfl⟩, h1, b1⟩
  go_wp2
  go_end0
  exact ⟨⟨_, rfl⟩, h1, (BelF.of hB hN0).trans b1⟩

set_option maxHeartbeats 4000000 in
theorem code_enter ( threads base t arg : Int) (ht : 1 ≤ threads ∧ threads ≤ 8) (h0 : 0 ≤ t ∧ t < threads) (hb : 0 ≤ base ∧ base ≤ 4294960000) (ha : 0 ≤ arg ∧ arg ≤ 4294967295)  (W : World) (hT : Tab W) (hO : ONam W) :
    Calls Tryz.prog 34 #[.agg #[.int .i64 15, .int .i64 0, .int .i64 0, .int .i64 0], .int .i64 9, .int .i64 threads, .int .i64 t, .int .u32 base, .int .u32 arg] W fun e W' => (∃ v, e = .returned (.tuple #[v, .bool true]) ∧ OutI W v (BB.genter BB.e base t).out W') ∧ Below W.heap.size W W' := by
  have hq := Blk.new W 46 #[.int .i64 15, .int .i64 0, .int .i64 0, .int .i64 0]
  have hB := (Below.refl W.heap.size W).alloc (Nat.le_refl _) (.cells #[.int .i64 15, .int .i64 0, .int .i64 0, .int .i64 0] 46)
  have q0 := (hq.cell 0).trans rfl
  have q1 := (hq.cell 1).trans rfl
  have q2 := (hq.cell 2).trans rfl
  have q3 := (hq.cell 3).trans rfl
  have htt : t ≤ 1000 := by omega
  have cMy := may_nam 15 (by decide) 9 threads t ht h0 (by decide) _ (hO.step hB)
  go_enter Tryz.func34, Tryz.ntmps34
  go_wp2_with fail
  refine cMy.mono ?_
  rintro e V0 ⟨rfl, hB0⟩
  clear cMy
  have hq0 := hq.below hB0 hq.lt
  have hb0 := step_below hB hB0
  clear q0 q1 q2 q3 hB hB0 hq
  have hI := BI.fresh (N0 := W.heap.size) (W := V0) hb0.size
  have hal := (Below.refl V0.heap.size V0).alloc (Nat.le_refl _) (.cells #[.slice none 0 0, .map none, .slice none 0 0, .bool false] 130)
  have hb1 := step_below hb0 hal
  have hqs := hq0.below hal hq0.lt
  have q0 := (hqs.cell 0).trans rfl
  have q1 := (hqs.cell 1).trans rfl
  have q2 := (hqs.cell 2).trans rfl
  have q3 := (hqs.cell 3).trans rfl
  clear hal hqs hq0
  have HZ := Lib.hid (And.intro hb0 (And.intro hb1 hT))
  clear hb0 hT
  obtain ⟨bb, hbb⟩ : ∃ bb, V0.heap.size = bb := ⟨_, rfl⟩
  rw [hbb] at hI
  have hr := BB.e_room 900 (by decide)
  go_wp2_with fail
  try rw [hbb]
  refine Bls.step (b_genter (n := 872) _ _ hI hr (by omega) hb) ?_
  rintro _ W1 ⟨⟨u0, rfl⟩, h1, b1⟩
  have hbz := hb1.trans b1.b
  have hTz := HZ.out.2.2.step hbz
  go_wp2_with fail
  refine (bcode_any W.heap.size bb _ W1 h1 hTz (by kernel_rfl) (Nat.le_of_ble_eq_true (by kernel_rfl)) (Nat.le_of_ble_eq_true (by kernel_rfl)) (Nat.le_of_ble_eq_true (by kernel_rfl))).mono ?_
  rintro e V9 ⟨⟨v, rfl, hO9⟩, hB9⟩
  go_wp2
  go_ret2
  exact ⟨⟨_, rfl, hO9.below hbz.size⟩, step_below hbz hB9⟩

set_option maxHeartbeats 4000000 in
theorem code_done ( threads base t arg : Int) (ht : 1 ≤ threads ∧ threads ≤ 8) (h0 : 0 ≤ t ∧ t < threads) (hb : 0 ≤ base ∧ base ≤ 4294960000) (ha : 0 ≤ arg ∧ arg ≤ 4294967295)  (W : World) (hT : Tab W) (hO : ONam W) :
    Calls Tryz.prog 34 #[.agg #[.int .i64 15, .int .i64 0, .int .i64 0, .int .i64 0], .int .i64 10, .int .i64 threads, .int .i64 t, .int .u32 base, .int .u32 arg] W fun e W' => (∃ v, e = .returned (.tuple #[v, .bool true]) ∧ OutI W v (BB.gdone BB.e base t).out W') ∧ Below W.heap.size W W' := by
  have hq := Blk.new W 46 #[.int .i64 15, .int .i64 0, .int .i64 0, .int .i64 0]
  have hB := (Below.refl W.heap.size W).alloc (Nat.le_refl _) (.cells #[.int .i64 15, .int .i64 0, .int .i64 0, .int .i64 0] 46)
  have q0 := (hq.cell 0).trans rfl
  have q1 := (hq.cell 1).trans rfl
  have q2 := (hq.cell 2).trans rfl
  have q3 := (hq.cell 3).trans rfl
  have htt : t ≤ 1000 := by omega
  have cMy := may_nam 15 (by decide) 10 threads t ht h0 (by decide) _ (hO.step hB)
  go_enter Tryz.func34, Tryz.ntmps34
  go_wp2_with fail
  refine cMy.mono ?_
  rintro e V0 ⟨rfl, hB0⟩
  clear cMy
  have hq0 := hq.below hB0 hq.lt
  have hb0 := step_below hB hB0
  clear q0 q1 q2 q3 hB hB0 hq
  have hI := BI.fresh (N0 := W.heap.size) (W := V0) hb0.size
  have hal := (Below.refl V0.heap.size V0).alloc (Nat.le_refl _) (.cells #[.slice none 0 0, .map none, .slice none 0 0, .bool false] 130)
  have hb1 := step_below hb0 hal
  have hqs := hq0.below hal hq0.lt
  have q0 := (hqs.cell 0).trans rfl
  have q1 := (hqs.cell 1).trans rfl
  have q2 := (hqs.cell 2).trans rfl
  have q3 := (hqs.cell 3).trans rfl
  clear hal hqs hq0
  have HZ := Lib.hid (And.intro hb0 (And.intro hb1 hT))
  clear hb0 hT
  obtain ⟨bb, hbb⟩ : ∃ bb, V0.heap.size = bb := ⟨_, rfl⟩
  rw [hbb] at hI
  have hr := BB.e_room 900 (by decide)
  go_wp2_with fail
  try rw [hbb]
  refine Bls.step (b_gdone (n := 885) _ _ hI hr (by omega) hb) ?_
  rintro _ W1 ⟨⟨u0, rfl⟩, h1, b1⟩
  have hbz := hb1.trans b1.b
  have hTz := HZ.out.2.2.step hbz
  go_wp2_with fail
  refine (bcode_any W.heap.size bb _ W1 h1 hTz (by kernel_rfl) (Nat.le_of_ble_eq_true (by kernel_rfl)) (Nat.le_of_ble_eq_true (by kernel_rfl)) (Nat.le_of_ble_eq_true (by kernel_rfl))).mono ?_
  rintro e V9 ⟨⟨v, rfl, hO9⟩, hB9⟩
  go_wp2
  go_ret2
  exact ⟨⟨_, rfl, hO9.below hbz.size⟩, step_below hbz hB9⟩

set_option maxHeartbeats 4000000 in
theorem code_barS (N threads base t arg : Int) (ht : 1 ≤ threads ∧ threads ≤ 8) (h0 : 0 ≤ t ∧ t < threads)  (ha : 0 ≤ arg ∧ arg ≤ 4294967295) (hN : 1 ≤ N ∧ N ≤ threads) (hs : N ≤ t) (W : World) (hT : Tab W) (hO : ONam W) :
    Calls Tryz.prog 34 #[.agg #[.int .i64 13, .int .i64 N, .int .i64 0, .int .i64 0], .int .i64 9, .int .i64 threads, .int .i64 t, .int .u32 base, .int .u32 arg] W fun e W' => (∃ v, e = .returned (.tuple #[v, .bool true]) ∧ OutI W v (BB.e.ins ⟨1, 7, 0, 0, 4⟩).out W') ∧ Below W.heap.size W W' := by
  have hq := Blk.new W 46 #[.int .i64 13, .int .i64 N, .int .i64 0, .int .i64 0]
  have hB := (Below.refl W.heap.size W).alloc (Nat.le_refl _) (.cells #[.int .i64 13, .int .i64 N, .int .i64 0, .int .i64 0] 46)
  have q0 := (hq.cell 0).trans rfl
  have q1 := (hq.cell 1).trans rfl
  have q2 := (hq.cell 2).trans rfl
  have q3 := (hq.cell 3).trans rfl
  have htt : t ≤ 1000 := by omega
  have cMy := may_bar N threads t hN ht h0 (W.alloc (.cells #[.int .i64 13, .int .i64 N, .int .i64 0, .int .i64 0] 46))
  go_enter Tryz.func34, Tryz.ntmps34
  go_wp2_with fail
  refine cMy.mono ?_
  rintro e V0 ⟨rfl, hB0⟩
  clear cMy
  have hq0 := hq.below hB0 hq.lt
  have hb0 := step_below hB hB0
  clear q0 q1 q2 q3 hB hB0 hq
  have hI := BI.fresh (N0 := W.heap.size) (W := V0) hb0.size
  have hal := (Below.refl V0.heap.size V0).alloc (Nat.le_refl _) (.cells #[.slice none 0 0, .map none, .slice none 0 0, .bool false] 130)
  have hb1 := step_below hb0 hal
  have hqs := hq0.below hal hq0.lt
  have q0 := (hqs.cell 0).trans rfl
  have q1 := (hqs.cell 1).trans rfl
  have q2 := (hqs.cell 2).trans rfl
  have q3 := (hqs.cell 3).trans rfl
  clear hal hqs hq0
  have HZ := Lib.hid (And.intro hb0 (And.intro hb1 hT))
  clear hb0 hT
  obtain ⟨bb, hbb⟩ : ∃ bb, V0.heap.size = bb := ⟨_, rfl⟩
  rw [hbb] at hI
  have hr := BB.e_room 900 (by decide)
  go_wp2_with fail
  try rw [hbb]
  refine Bls.step (b_barS (n := 899) N t base arg hI hr (by omega) (by omega) ha hs) ?_
  rintro _ W1 ⟨⟨u0, rfl⟩, h1, b1⟩
  have hbz := hb1.trans b1.b
  have hTz := HZ.out.2.2.step hbz
  go_wp2_with fail
  refine (bcode_any W.heap.size bb _ W1 h1 hTz (by kernel_rfl) (Nat.le_of_ble_eq_true (by kernel_rfl)) (Nat.le_of_ble_eq_true (by kernel_rfl)) (Nat.le_of_ble_eq_true (by kernel_rfl))).mono ?_
  rintro e V9 ⟨⟨v, rfl, hO9⟩, hB9⟩
  go_wp2
  go_ret2
  exact ⟨⟨_, rfl, hO9.below hbz.size⟩, step_below hbz hB9⟩

end Go.Proofs.YtmhfpjnkjlhbpaaGreatDoor
namespace Go.Proofs.YtmhfpjnkjlhbpaaGreatDoor
open Go.ChangeShapes Go.WideShapes Go.ChangeAt Go.RowKit Go.Deep
set_option linter.unusedVariables false
set_option maxRecDepth 100000
set_option linter.unusedSimpArgs false

theorem set_eql (w : World) : (binOp .eql 75 (.agg #[.int .i64 1, .int .i64 7, .int .i64 0, .int .i64 0, .int .u32 4]) (.agg #[.int .i64 1, .int .i64 7, .int .i64 0, .int .i64 0, .int .u32 4])).run Tryz.prog w = .ok (.bool true) w := by kernel_rfl
set_option maxHeartbeats 1000000 in
theorem awake21_any (W : World) (hT : Tab W) (hO : ONam W) : Calls Tryz.prog 32 #[] W fun e W' => e = .returned (.bool true) ∧ Below W.heap.size W W' := by
  have cC := code_barS 2 3 16 2 2 (by decide) (by decide) (by decide) (by decide) (by decide) W hT hO
  have hq := set_eql
  go_enter Tryz.func32, Tryz.ntmps32
  go_wp2_with fail
  refine cC.mono ?_
  rintro e W1 ⟨⟨v, rfl, og, cap, cs, rfl, hb, hs, _, _, _, hins⟩, hB⟩
  have hlen : (BB.e.ins ⟨1, 7, 0, 0, 4⟩).out.length = 1 := by kernel_rfl
  have h0 := hins 0 (by rw [hlen]; decide)
  rw [hlen]
  have hg : (BB.e.ins ⟨1, 7, 0, 0, 4⟩).out.getD 0 default = ⟨1, 7, 0, 0, 4⟩ := by kernel_rfl
  rw [hg] at h0
  have q0 := (hb.cell 0).trans (h0 0 _ rfl)
  have q1 := (hb.cell 1).trans (h0 1 _ rfl)
  have q2 := (hb.cell 2).trans (h0 2 _ rfl)
  have q3 := (hb.cell 3).trans (h0 3 _ rfl)
  have q4 := (hb.cell 4).trans (h0 4 _ rfl)
  clear cC hins h0 hb hs
  go_wp2
  go_ret
  exact ⟨rfl, hB⟩
end Go.Proofs.YtmhfpjnkjlhbpaaGreatDoor

/- seq: more, begin, read (printed by gen/bldf.py). obj.Right, obj.Calls at some kinds; spin.May. seq.Code at what may be asked (printed by gen/bldf.py). -/
import Derived.Test.YtmhfpjnkjlhbpaaGreatDoorQc27
import Derived.Test.YtmhfpjnkjlhbpaaGreatDoorQc07
import Derived.Deep.LoopGhost
import Derived.Test.YtmhfpjnkjlhbpaaGreatDoorQc28
namespace Go.Proofs.YtmhfpjnkjlhbpaaGreatDoor
open Go.ChangeShapes Go.WideShapes Go.ChangeAt Go.RowKit Go.Deep
set_option linter.unusedVariables false
set_option maxRecDepth 100000
set_option linter.unusedSimpArgs false
def BB.smore (b : BB) (base : Int) : BB := (b.ins ⟨1, 4, 0, 0, 1⟩).ins ⟨20, 4, 8, 0, base⟩
def BB.sbegin (b : BB) (base : Int) : BB := ((((b.at n_spin).ins ⟨1, 4, 0, 0, 0⟩).ins ⟨21, 4, 8, 5, base + 1⟩).go 15 4 n_spin).smore base
def BB.sreads (b : BB) (base : Int) (k : Nat) : BB := (List.range k).foldl (fun (b : BB) (i : Nat) => b.ins ⟨16, (i : Int), 8, 0, base + 2 + (i : Int)⟩) b
theorem BB.sreads_succ (b : BB) (base : Int) (k : Nat) : b.sreads base (k + 1) = (b.sreads base k).ins ⟨16, (k : Int), 8, 0, base + 2 + (k : Int)⟩ := by
  unfold BB.sreads; rw [List.range_succ, List.foldl_append]; rfl
def BB.sread1 (b : BB) (base : Int) : BB := ((((b.at n_again).ins ⟨16, 4, 8, 0, base⟩).ins ⟨1, 5, 0, 0, 1⟩).ins ⟨6, 6, 4, 5, 0⟩).go 15 6 n_again
def BB.sread (b : BB) (base : Int) (n : Nat) : BB := ((((b.sread1 base).sreads base n).ins ⟨16, 5, 8, 0, base⟩).ins ⟨12, 6, 4, 5, 0⟩).go 14 6 n_again
theorem BB.Room.smore {b : BB} {n : Nat} (h : b.Room (n + 2)) (base : Int) : (b.smore base).Room n := BB.Room.ins (BB.Room.ins h _) _
theorem BB.Room.sbegin {b : BB} {n : Nat} (h : b.Room (n + 6)) (base : Int) : (b.sbegin base).Room n := BB.Room.smore (BB.Room.go (BB.Room.ins (BB.Room.ins (BB.Room.at (n := n + 5) h _) _) _) _ _ _) _
theorem BB.Room.sread1 {b : BB} {n : Nat} (h : b.Room (n + 5)) (base : Int) : (b.sread1 base).Room n := BB.Room.go (BB.Room.ins (BB.Room.ins (BB.Room.ins (BB.Room.at (n := n + 4) h _) _) _) _) _ _ _
theorem BB.Room.sreads {b : BB} {n k : Nat} (h : b.Room (n + k)) (base : Int) : (b.sreads base k).Room n := by
  induction k generalizing n with
  | zero => exact h
  | succ k ih => rw [BB.sreads_succ]; exact BB.Room.ins (ih (n := n + 1) (h.mono (by omega))) _
theorem BB.Room.sread {b : BB} {n k : Nat} (h : b.Room (n + 8 + k)) (base : Int) : (b.sread base k).Room n := BB.Room.go (BB.Room.ins (BB.Room.ins (BB.Room.sreads (n := n + 3) (k := k) (BB.Room.sread1 (n := n + 3 + k) (h.mono (by omega)) _) _) _) _) _ _ _
set_option maxHeartbeats 2000000 in
theorem b_smore {N0 bb : Nat} {b : BB} {n : Nat} (base : Int) {W : World} (h : BI N0 W bb b) (hr : b.Room (n + 2)) (hb : 0 <= base /\ base <= 4294960000) : Bls 85 #[.pointer (some ⟨bb, 0, none⟩), .int .u32 base] N0 bb b (b.smore base) W := by
  unfold Bls
  go_enter Tryz.func85, Tryz.ntmps85
  go_wp2_with fail
  refine Bls.step (b_set (n := n + 1) _ _ h hr) ?_
  rintro _ W1 ⟨⟨u0, rfl⟩, h1, b1⟩
  have r1 := BI.rins (n := n + 1) h1 hr
  go_wp2_with fail
  refine Bls.step (b_ask (n := n + 0) _ _ _ h1 r1) ?_
  rintro _ W2 ⟨⟨u1, rfl⟩, h2, b2⟩
  have r2 := BI.rins (n := n + 0) h2 r1
  go_wp2
  go_end0
  exact ⟨⟨_, rfl⟩, h2, b1.trans (b2)⟩
set_option maxHeartbeats 2000000 in
theorem b_sbegin {N0 bb : Nat} {b : BB} {n : Nat} (base : Int) {W : World} (h : BI N0 W bb b) (hr : b.Room (n + 6)) (hb : 0 <= base /\ base <= 4294960000) (hf : b.places.lookup n_spin = none) : Bls 83 #[.pointer (some ⟨bb, 0, none⟩), .int .u32 base] N0 bb b (b.sbegin base) W := by
  unfold Bls
  go_enter Tryz.func83, Tryz.ntmps83
  go_wp2_with fail
  try rw [str_spin]
  refine Bls.step (b_at (n := n + 5) n_spin nm_spin h hr hf) ?_
  rintro _ W1 ⟨⟨u0, rfl⟩, h1, b1⟩
  have r1 := BI.rat (n := n + 5) h1 hr
  go_wp2_with fail
  refine Bls.step (b_set (n := n + 4) _ _ h1 r1) ?_
  rintro _ W2 ⟨⟨u1, rfl⟩, h2, b2⟩
  have r2 := BI.rins (n := n + 4) h2 r1
  go_wp2_with fail
  refine Bls.step (b_cas (n := n + 3) _ _ _ h2 r2) ?_
  rintro _ W3 ⟨⟨u2, rfl⟩, h3, b3⟩
  have r3 := BI.rins (n := n + 3) h3 r2
  go_wp2_with fail
  try rw [str_spin]
  refine Bls.step (b_go (n := n + 2) _ _ n_spin h3 r3) ?_
  rintro _ W4 ⟨⟨u3, rfl⟩, h4, b4⟩
  have r4 := BI.rgo (n := n + 2) h4 r3
  go_wp2_with fail
  refine Bls.step (b_smore (n := n + 0) _ h4 r4 hb) ?_
  rintro _ W5 ⟨⟨u4, rfl⟩, h5, b5⟩
  have r5 := BB.Room.smore r4 base
  go_wp2
  go_end0
  exact ⟨⟨_, rfl⟩, h5, b1.trans (b2.trans (b3.trans (b4.trans (b5))))⟩
set_option maxHeartbeats 2000000 in
theorem b_sread {N0 bb : Nat} {b : BB} {n k : Nat} (base : Int) {W : World} (h : BI N0 W bb b) (hr : b.Room (n + 8 + k)) (hb : 0 <= base /\ base <= 4294960000) (hk : k <= 100) (hf : b.places.lookup n_again = none) : Bls 88 #[.pointer (some ⟨bb, 0, none⟩), .int .u32 base, .int .i64 (k : Int)] N0 bb b (b.sread base k) W := by
  unfold Bls
  go_enter Tryz.func88, Tryz.ntmps88
  go_wp2_with fail
  try rw [str_again]
  refine Bls.step (b_at (n := n + 3 + k + 4) n_again nm_again h (hr.mono (show n + 3 + k + 5 <= n + 8 + k by omega)) hf) ?_
  rintro _ W1 ⟨⟨u0, rfl⟩, h1, b1⟩
  have r1 := BI.rat (n := n + 3 + k + 4) h1 (hr.mono (show n + 3 + k + 5 <= n + 8 + k by omega))
  go_wp2_with fail
  refine Bls.step (b_ask (n := n + 3 + k + 3) _ _ _ h1 r1) ?_
  rintro _ W2 ⟨⟨u1, rfl⟩, h2, b2⟩
  have r2 := BI.rins (n := n + 3 + k + 3) h2 r1
  go_wp2_with fail
  refine Bls.step (b_set (n := n + 3 + k + 2) _ _ h2 r2) ?_
  rintro _ W3 ⟨⟨u2, rfl⟩, h3, b3⟩
  have r3 := BI.rins (n := n + 3 + k + 2) h3 r2
  go_wp2_with fail
  refine Bls.step (b_alu (n := n + 3 + k + 1) _ _ _ _ h3 r3) ?_
  rintro _ W4 ⟨⟨u3, rfl⟩, h4, b4⟩
  have r4 := BI.rins (n := n + 3 + k + 1) h4 r3
  go_wp2_with fail
  try rw [str_again]
  refine Bls.step (b_go (n := n + 3 + k + 0) _ _ n_again h4 r4) ?_
  rintro _ W5 ⟨⟨u4, rfl⟩, h5, b5⟩
  have r5 := BI.rgo (n := n + 3 + k + 0) h5 r4
  have hb5 := b1.trans (b2.trans (b3.trans (b4.trans b5)))
  have H5 := Lib.hid (And.intro h5 (And.intro r5 hb5))
  clear h h1 h2 h3 h4 h5 b1 b2 b3 b4 b5 r1 r2 r3 r4 r5 hb5
  go_wp2
  go_loopw [20] (fun v wr => ∃ j : Nat, j <= k /\ v = .int .i64 j /\ BI N0 wr bb ((b.sread1 base).sreads base j) /\ BelF N0 W wr) (fun v _ => k - (intOf v).toNat)
  case atStart => exact ⟨0, Nat.zero_le _, rfl, H5.out.1, H5.out.2.2⟩
  case round =>
    obtain ⟨j, hj, rfl, hI, hB⟩ := hrel
    have rj : ((b.sread1 base).sreads base j).Room (n + 3 + (k - j)) := BB.Room.sreads (n := n + 3 + (k - j)) (k := j) (show (b.sread1 base).Room _ from (H5.out.2.1 : (b.sread1 base).Room (n + 3 + k + 0)).mono (by omega)) base
    by_cases hlt : j < k
    · have hjk : (j : Int) < (k : Int) := by omega
      have hj100 : (j : Int) <= 100 := by omega
      go_wp2_with fail
      refine Bls.step (b_ask (n := n + 3 + (k - j) - 1) _ _ _ hI (rj.mono (by omega))) ?_
      rintro _ W7 ⟨⟨u7, rfl⟩, h7, b7⟩
      go_wp2
      go_roundw
      case rel =>
        refine ⟨j + 1, by omega, by go_num, ?_, hB.trans b7⟩
        rw [BB.sreads_succ]
        exact h7
      case measure => simp [intOf]; omega
    · obtain rfl : j = k := by omega
      have r6 : ((b.sread1 base).sreads base j).Room (n + 3) := rj.mono (by omega)
      clear hlt rj
      go_wp2_with fail
      refine Bls.step (b_ask (n := n + 2) _ _ _ hI r6) ?_
      rintro _ W7 ⟨⟨u7, rfl⟩, h7, b7⟩
      have r7 := BI.rins (n := n + 2) h7 r6
      go_wp2_with fail
      refine Bls.step (b_alu (n := n + 1) _ _ _ _ h7 r7) ?_
      rintro _ W8 ⟨⟨u8, rfl⟩, h8, b8⟩
      have r8 := BI.rins (n := n + 1) h8 r7
      go_wp2_with fail
      try rw [str_again]
      refine Bls.step (b_go (n := n) _ _ n_again h8 r8) ?_
      rintro _ W9 ⟨⟨u9, rfl⟩, h9, b9⟩
      go_wp2
      go_end0
      exact ⟨⟨_, rfl⟩, h9, hB.trans (b7.trans (b8.trans b9))⟩
def onL : List ByteArray := [⟨#[]⟩, ⟨#[116, 97, 115]⟩, ⟨#[116, 116, 97, 115]⟩, ⟨#[116, 105, 99, 107, 101, 116]⟩, ⟨#[109, 99, 115]⟩, ⟨#[99, 108, 104]⟩, ⟨#[112, 101, 116, 101, 114, 115, 111, 110]⟩, ⟨#[100, 101, 107, 107, 101, 114]⟩, ⟨#[98, 105, 97, 115]⟩, ⟨#[115, 101, 113]⟩, ⟨#[109, 117, 116, 101, 120]⟩, ⟨#[115, 101, 109]⟩, ⟨#[99, 111, 110, 100]⟩, ⟨#[98, 97, 114, 114, 105, 101, 114]⟩, ⟨#[114, 119]⟩, ⟨#[111, 110, 99, 101]⟩]
def onS (i : Nat) : ByteArray := onL.getD i ⟨#[]⟩
def ONam (W : World) : Prop := 3 <= W.heap.size /\ ∀ i, i < 16 -> W.cell? ⟨2, i, none⟩ = some (.string (onS i))
def objA (k n a b : Int) : Value := .agg #[.int .i64 k, .int .i64 n, .int .i64 a, .int .i64 b]
theorem in_any (n lo hi : Int) (b : Bool) (hb : decide (lo <= n /\ n <= hi) = b) (W : World) : Calls Tryz.prog 136 #[.int .i64 n, .int .i64 lo, .int .i64 hi] W fun e W' => e = .returned (.bool b) /\ W' = W := by
  subst hb
  by_cases h1 : lo <= n
  · by_cases h2 : n <= hi
    · rw [decide_eq_true ⟨h1, h2⟩]
      go_enter Tryz.func136, Tryz.ntmps136
      go_wp2
      go_ret
      exact ⟨rfl, rfl⟩
    · rw [decide_eq_false (fun h => h2 h.2)]
      go_enter Tryz.func136, Tryz.ntmps136
      go_wp2
      go_ret
      exact ⟨rfl, rfl⟩
  · rw [decide_eq_false (fun h => h1 h.1)]
    go_enter Tryz.func136, Tryz.ntmps136
    go_wp2
    go_ret
    exact ⟨rfl, rfl⟩
set_option maxHeartbeats 2000000 in
theorem right_seq (n threads : Int) (hn : 1 <= n /\ n <= 3) (ht : 1 <= threads /\ threads <= 8) (W : World) : Calls Tryz.prog 91 #[objA 9 n 0 0, .int .i64 threads] W fun e W' => e = .returned (.bool true) /\ Below W.heap.size W W' := by
  have hq := Blk.new W 46 #[.int .i64 9, .int .i64 n, .int .i64 0, .int .i64 0]
  have hB := (Below.refl W.heap.size W).alloc (Nat.le_refl _) (.cells #[.int .i64 9, .int .i64 n, .int .i64 0, .int .i64 0] 46)
  have q0 := (hq.cell 0).trans rfl
  have q1 := (hq.cell 1).trans rfl
  have q2 := (hq.cell 2).trans rfl
  have q3 := (hq.cell 3).trans rfl
  unfold objA
  go_enter Tryz.func91, Tryz.ntmps91
  go_wp2_with fail
  refine (in_any n 1 3 true (decide_eq_true hn) _).mono ?_
  rintro e W1 ⟨rfl, rfl⟩
  go_wp2
  go_ret
  exact ⟨rfl, hB⟩
set_option maxHeartbeats 1000000 in
theorem calls_seq (W : World) : Calls Tryz.prog 92 #[.int .i64 9] W fun e W' => ∃ g, e = .returned (.slice (some ⟨g, 0, none⟩) 4 4) /\ Blk W' g 3 #[.int .i64 1, .int .i64 2, .int .i64 3, .int .i64 4] /\ Below W.heap.size W W' := by
  have hB := (Below.refl W.heap.size W).alloc (Nat.le_refl _) (.cells #[.int .i64 1, .int .i64 2, .int .i64 3, .int .i64 4] 3)
  go_enter Tryz.func92, Tryz.ntmps92
  go_wp2
  go_ret
  exact ⟨_, rfl, Blk.new _ _ _, hB⟩
def mayB (rb : Bool) (cl : List Int) (call threads t : Int) : Bool := decide (0 <= t /\ t < threads) && (rb && cl.contains call)
set_option maxHeartbeats 2000000 in
theorem may_any (k n a b : Int) (rb : Bool) (cl : List Int) (hcl : cl.length <= 100) (call threads t : Int) (W : World) (P : World -> Prop) (hP : ∀ W1 W2, P W1 -> Below W1.heap.size W1 W2 -> P W2) (h0 : P W)
    (hR : ∀ W1, P W1 -> Calls Tryz.prog 91 #[objA k n a b, .int .i64 threads] W1 fun e W' => e = .returned (.bool rb) /\ Below W1.heap.size W1 W')
    (hC : ∀ W1, P W1 -> Calls Tryz.prog 92 #[.int .i64 k] W1 fun e W' => ∃ g, e = .returned (.slice (some ⟨g, 0, none⟩) cl.length cl.length) /\ Blk W' g 3 (cl.map (Value.int .i64)).toArray /\ Below W1.heap.size W1 W') :
    Calls Tryz.prog 52 #[objA k n a b, .int .i64 call, .int .i64 threads, .int .i64 t] W fun e W' => e = .returned (.bool (mayB rb cl call threads t)) /\ Below W.heap.size W W' := by
  have hq := Blk.new W 46 #[.int .i64 k, .int .i64 n, .int .i64 a, .int .i64 b]
  have hB := (Below.refl W.heap.size W).alloc (Nat.le_refl _) (.cells #[.int .i64 k, .int .i64 n, .int .i64 a, .int .i64 b] 46)
  have q0 := (hq.cell 0).trans rfl
  have q1 := (hq.cell 1).trans rfl
  have q2 := (hq.cell 2).trans rfl
  have q3 := (hq.cell 3).trans rfl
  unfold objA at *
  have HP := Lib.hid hP
  have HW := Lib.hid (hP _ _ h0 hB)
  have HR := Lib.hid hR
  have HC := Lib.hid hC
  clear hR hC hP h0
  by_cases h1 : t < 0
  · rw [show mayB rb cl call threads t = false from by unfold mayB; rw [decide_eq_false (by omega)]; rfl]
    go_enter Tryz.func52, Tryz.ntmps52
    go_wp2
    go_ret
    exact ⟨rfl, hB⟩
  by_cases h2 : threads <= t
  · rw [show mayB rb cl call threads t = false from by unfold mayB; rw [decide_eq_false (by omega)]; rfl]
    go_enter Tryz.func52, Tryz.ntmps52
    go_wp2
    go_ret
    exact ⟨rfl, hB⟩
  rw [show mayB rb cl call threads t = (rb && cl.contains call) from by unfold mayB; rw [decide_eq_true (by omega)]; rfl]
  go_enter Tryz.func52, Tryz.ntmps52
  go_wp2_with fail
  refine (HR.out _ HW.out).mono ?_
  rintro e W1 ⟨rfl, hB1⟩
  have hq1 := hq.below hB1 hq.lt
  have hB2 := step_below hB hB1
  have HW1 := Lib.hid (HP.out _ _ HW.out hB1)
  clear q0 q1 q2 q3 hB hB1 hq
  cases rb with
  | false =>
    go_wp2
    go_ret
    exact ⟨rfl, hB2⟩
  | true =>
    have q0 := (hq1.cell 0).trans rfl
    go_wp2_with fail
    refine (HC.out _ HW1.out).mono ?_
    rintro e W2 ⟨g, rfl, hg, hB3⟩
    have hB4 := step_below hB2 hB3
    obtain ⟨m, hm⟩ : ∃ m, cl.length = m := ⟨_, rfl⟩
    rw [hm]
    rw [hm] at hcl
    clear hB2 hB3 HW1 hq1 q0 HC HR HP HW
    have HG := Lib.hid hg
    clear hg
    go_wp2
    go_loopw [28] (fun v wr => ∃ j : Nat, j <= m /\ v = .int .i64 j /\ wr = W2 /\ ∀ i, i < j -> cl[i]? ≠ some call) (fun v _ => m - (intOf v).toNat)
    case atStart => exact ⟨0, Nat.zero_le _, rfl, rfl, fun i hi => absurd hi (by omega)⟩
    case round =>
      obtain ⟨j, hj, rfl, rfl, hno⟩ := hrel
      by_cases hlt : j < m
      · have hx : cl[j]? = some (cl[j]'(by omega)) := List.getElem?_eq_getElem (by omega)
        generalize cl[j]'(by omega) = x at hx
        have c0 : wr.cell? ⟨g, j, none⟩ = some (.int .i64 x) := (HG.out.cell j).trans (by simp [hx])
        have hjm : (j : Int) < (m : Int) := by omega
        by_cases hxc : x = call
        · subst hxc
          have : cl.contains x = true := by
            rw [List.contains_iff_mem]
            exact List.mem_of_getElem? hx
          have HT := Lib.hid this
          clear hno hx this
          go_wp2
          go_ret
          exact ⟨by rw [HT.out]; rfl, hB4⟩
        · have HN := Lib.hid (And.intro hno hx)
          clear hno hx
          go_wp2
          go_roundw
          case rel =>
            refine ⟨j + 1, by omega, by go_num, by trivial, fun i hi => ?_⟩
            by_cases hij : i = j
            · subst hij; rw [HN.out.2]; intro e; exact hxc (Option.some.inj e)
            · exact HN.out.1 i (by omega)
          case measure => simp [intOf]; omega
      · obtain rfl : j = m := by omega
        have : cl.contains call = false := by
          rw [Bool.eq_false_iff]
          intro e
          rw [List.contains_iff_mem] at e
          obtain ⟨i, hi, e⟩ := List.mem_iff_getElem.1 e
          exact hno i (by omega) (by rw [List.getElem?_eq_getElem hi, e])
        have HT := Lib.hid this
        clear hno this
        go_wp2
        go_ret
        exact ⟨by rw [HT.out]; rfl, hB4⟩
theorem BI.fresh {N0 : Nat} {W : World} (hN : N0 <= W.heap.size) : BI N0 (W.alloc (.cells #[.slice none 0 0, .map none, .slice none 0 0, .bool false] 130)) W.heap.size BB.e :=
  ⟨_, _, none, Blk.new _ _ _, hN, ⟨rfl, .inl ⟨rfl, rfl⟩⟩, ⟨rfl, .inl ⟨rfl, rfl⟩⟩, rfl⟩
theorem BB.e_room (n : Nat) (h : n <= 1000) : BB.e.Room n := ⟨by show 0 + n <= _; omega, by show 0 + n <= _; omega, by show 0 + n <= _; omega⟩
theorem OutI.below {W0 W1 W' : World} {v : Value} {l : List Ins} (h : OutI W1 v l W') (hs : W0.heap.size <= W1.heap.size) : OutI W0 v l W' := by
  obtain ⟨og, cap, cs, h1, h2, h3, h4, h5, h6, h7⟩ := h
  exact ⟨og, cap, cs, h1, h2, h3, h4, h5, Nat.le_trans hs h6, h7⟩
theorem may_seq (n call threads t : Int) (hn : 1 <= n /\ n <= 3) (ht : 1 <= threads /\ threads <= 8) (h0 : 0 <= t /\ t < threads) (hc : 1 <= call /\ call <= 4) (W : World) : Calls Tryz.prog 52 #[.agg #[.int .i64 9, .int .i64 n, .int .i64 0, .int .i64 0], .int .i64 call, .int .i64 threads, .int .i64 t] W fun e W' => e = .returned (.bool true) /\ Below W.heap.size W W' := by
  have e : mayB true [1, 2, 3, 4] call threads t = true := by
    unfold mayB
    rw [decide_eq_true h0]
    have : call = 1 ∨ call = 2 ∨ call = 3 ∨ call = 4 := by omega
    rcases this with rfl | rfl | rfl | rfl <;> rfl
  have := may_any 9 n 0 0 true [1, 2, 3, 4] (by decide) call threads t W (fun _ => True) (fun _ _ _ _ => trivial) trivial (fun W1 _ => right_seq n threads hn ht W1) (fun W1 _ => calls_seq W1)
  rw [e] at this
  exact this
theorem sreads_places (b : BB) (base : Int) : ∀ k, (b.sreads base k).places = b.places := by
  intro k
  induction k with
  | zero => rfl
  | succ k ih => rw [BB.sreads_succ]; exact ih
set_option maxHeartbeats 4000000 in
theorem code_acq (n : Nat) (threads base t arg : Int) (hn : 1 <= n /\ n <= 3) (ht : 1 <= threads /\ threads <= 8) (h0 : 0 <= t /\ t < threads) (hb : 0 <= base /\ base <= 4294960000) (ha : 0 <= arg) (W : World) (hT : Tab W) :
    Calls Tryz.prog 40 #[.agg #[.int .i64 9, .int .i64 (n : Int), .int .i64 0, .int .i64 0], .int .i64 1, .int .i64 threads, .int .i64 t, .int .u32 base, .int .u32 arg] W fun e W' => (∃ v, e = .returned (.tuple #[v, .bool true]) /\ OutI W v (((BB.e.claim (base + 1) t).sbegin base).close).out W') /\ Below W.heap.size W W' := by
  have hq := Blk.new W 46 #[.int .i64 9, .int .i64 (n : Int), .int .i64 0, .int .i64 0]
  have hB := (Below.refl W.heap.size W).alloc (Nat.le_refl _) (.cells #[.int .i64 9, .int .i64 (n : Int), .int .i64 0, .int .i64 0] 46)
  have q0 := (hq.cell 0).trans rfl
  have q1 := (hq.cell 1).trans rfl
  have q2 := (hq.cell 2).trans rfl
  have q3 := (hq.cell 3).trans rfl
  have h3 : (n : Int) <= 3 := by omega
  have htt : t <= 1000 := by omega
  go_enter Tryz.func40, Tryz.ntmps40
  go_wp2_with fail
  refine (may_seq (n : Int) 1 threads t (by omega) ht h0 (by omega) _).mono ?_
  rintro e V0 ⟨rfl, hB0⟩
  have hq0 := hq.below hB0 hq.lt
  have hb0 := step_below hB hB0
  have q1' := (hq0.cell 1).trans rfl
  clear q0 q1 q2 q3 hB hB0 hq
  have hI := BI.fresh (N0 := W.heap.size) (W := V0) hb0.size
  have hal := (Below.refl V0.heap.size V0).alloc (Nat.le_refl _) (.cells #[.slice none 0 0, .map none, .slice none 0 0, .bool false] 130)
  have hb1 := step_below hb0 hal
  have q1'' := ((hq0.below hal hq0.lt).cell 1).trans rfl
  have hqs := hq0.below hal hq0.lt
  have hlts : hqs = hqs := rfl
  clear hal hlts
  have HZ := Lib.hid (And.intro hb0 (And.intro hb1 (And.intro hT hqs)))
  clear hb0 hqs hT
  obtain ⟨bb, hbb⟩ : ∃ bb, V0.heap.size = bb := ⟨_, rfl⟩
  rw [hbb] at hI
  have hr := BB.e_room 900 (by decide)
  go_wp2_with fail
  try rw [hbb]
  refine Bls.step (b_claim (n := 893) _ _ hI hr (by omega) rfl) ?_
  rintro _ W1 ⟨⟨u0, rfl⟩, h1, b1⟩
  have r1 := BB.Room.claim (n := 893) hr (base + 1) t
  go_wp2_with fail
  refine Bls.step (b_sbegin (n := 887) _ h1 r1 hb rfl) ?_
  rintro _ W2 ⟨⟨u1, rfl⟩, h2, b2⟩
  have r2 := BB.Room.sbegin (n := 887) r1 base
  go_wp2_with fail
  refine Bls.step (b_close (n := 885)  h2 r2 rfl) ?_
  rintro _ W3 ⟨⟨u2, rfl⟩, h3, b3⟩
  have r3 := BB.Room.close (n := 885) r2
  have hbz := hb1.trans (b1.trans (b2.trans (b3))).b
  have hTz := HZ.out.2.2.1.step hbz
  go_wp2_with fail
  refine (bcode_any W.heap.size bb _ W3 h3 hTz ?_ (by have := r3.2.1; omega) (by have := r3.1; omega) (by first | exact Nat.zero_lt_succ _ | simp [BB.sread, BB.sread1, BB.sreads, BB.ins, BB.go, BB.at, BB.close])).mono ?_
  · rfl
  rintro e V9 ⟨⟨v, rfl, hO⟩, hB9⟩
  go_wp2
  go_ret2
  exact ⟨⟨_, rfl, hO.below hbz.size⟩, step_below hbz hB9⟩
set_option maxHeartbeats 4000000 in
theorem code_rel (n : Nat) (threads base t arg : Int) (hn : 1 <= n /\ n <= 3) (ht : 1 <= threads /\ threads <= 8) (h0 : 0 <= t /\ t < threads) (hb : 0 <= base /\ base <= 4294960000) (ha : 0 <= arg) (W : World) (hT : Tab W) :
    Calls Tryz.prog 40 #[.agg #[.int .i64 9, .int .i64 (n : Int), .int .i64 0, .int .i64 0], .int .i64 2, .int .i64 threads, .int .i64 t, .int .u32 base, .int .u32 arg] W fun e W' => (∃ v, e = .returned (.tuple #[v, .bool true]) /\ OutI W v ((((BB.e.prove (base + 1) t).smore base).zero (base + 1)).close).out W') /\ Below W.heap.size W W' := by
  have hq := Blk.new W 46 #[.int .i64 9, .int .i64 (n : Int), .int .i64 0, .int .i64 0]
  have hB := (Below.refl W.heap.size W).alloc (Nat.le_refl _) (.cells #[.int .i64 9, .int .i64 (n : Int), .int .i64 0, .int .i64 0] 46)
  have q0 := (hq.cell 0).trans rfl
  have q1 := (hq.cell 1).trans rfl
  have q2 := (hq.cell 2).trans rfl
  have q3 := (hq.cell 3).trans rfl
  have h3 : (n : Int) <= 3 := by omega
  have htt : t <= 1000 := by omega
  go_enter Tryz.func40, Tryz.ntmps40
  go_wp2_with fail
  refine (may_seq (n : Int) 2 threads t (by omega) ht h0 (by omega) _).mono ?_
  rintro e V0 ⟨rfl, hB0⟩
  have hq0 := hq.below hB0 hq.lt
  have hb0 := step_below hB hB0
  have q1' := (hq0.cell 1).trans rfl
  clear q0 q1 q2 q3 hB hB0 hq
  have hI := BI.fresh (N0 := W.heap.size) (W := V0) hb0.size
  have hal := (Below.refl V0.heap.size V0).alloc (Nat.le_refl _) (.cells #[.slice none 0 0, .map none, .slice none 0 0, .bool false] 130)
  have hb1 := step_below hb0 hal
  have q1'' := ((hq0.below hal hq0.lt).cell 1).trans rfl
  have hqs := hq0.below hal hq0.lt
  have hlts : hqs = hqs := rfl
  clear hal hlts
  have HZ := Lib.hid (And.intro hb0 (And.intro hb1 (And.intro hT hqs)))
  clear hb0 hqs hT
  obtain ⟨bb, hbb⟩ : ∃ bb, V0.heap.size = bb := ⟨_, rfl⟩
  rw [hbb] at hI
  have hr := BB.e_room 900 (by decide)
  go_wp2_with fail
  try rw [hbb]
  refine Bls.step (b_prove (n := 893) _ _ hI hr (by omega) rfl) ?_
  rintro _ W1 ⟨⟨u0, rfl⟩, h1, b1⟩
  have r1 := BB.Room.prove (n := 893) hr (base + 1) t
  go_wp2_with fail
  refine Bls.step (b_smore (n := 891) _ h1 r1 hb) ?_
  rintro _ W2 ⟨⟨u1, rfl⟩, h2, b2⟩
  have r2 := BB.Room.smore (n := 891) r1 base
  go_wp2_with fail
  refine Bls.step (b_zero (n := 889) _ h2 r2) ?_
  rintro _ W3 ⟨⟨u2, rfl⟩, h3, b3⟩
  have r3 := BB.Room.zero (n := 889) r2 (base + 1)
  go_wp2_with fail
  refine Bls.step (b_close (n := 887)  h3 r3 rfl) ?_
  rintro _ W4 ⟨⟨u3, rfl⟩, h4, b4⟩
  have r4 := BB.Room.close (n := 887) r3
  have hbz := hb1.trans (b1.trans (b2.trans (b3.trans (b4)))).b
  have hTz := HZ.out.2.2.1.step hbz
  go_wp2_with fail
  refine (bcode_any W.heap.size bb _ W4 h4 hTz ?_ (by have := r4.2.1; omega) (by have := r4.1; omega) (by first | exact Nat.zero_lt_succ _ | simp [BB.sread, BB.sread1, BB.sreads, BB.ins, BB.go, BB.at, BB.close])).mono ?_
  · rfl
  rintro e V9 ⟨⟨v, rfl, hO⟩, hB9⟩
  go_wp2
  go_ret2
  exact ⟨⟨_, rfl, hO.below hbz.size⟩, step_below hbz hB9⟩
set_option maxHeartbeats 4000000 in
theorem code_put (n : Nat) (threads base t arg : Int) (hn : 1 <= n /\ n <= 3) (ht : 1 <= threads /\ threads <= 8) (h0 : 0 <= t /\ t < threads) (hb : 0 <= base /\ base <= 4294960000) (ha : 0 <= arg /\ arg < n) (W : World) (hT : Tab W) :
    Calls Tryz.prog 40 #[.agg #[.int .i64 9, .int .i64 (n : Int), .int .i64 0, .int .i64 0], .int .i64 4, .int .i64 threads, .int .i64 t, .int .u32 base, .int .u32 arg] W fun e W' => (∃ v, e = .returned (.tuple #[v, .bool true]) /\ OutI W v ((((BB.e.prove (base + 1) t).ins ⟨17, 0, 8, 0, base + 2 + arg⟩)).close).out W') /\ Below W.heap.size W W' := by
  have hq := Blk.new W 46 #[.int .i64 9, .int .i64 (n : Int), .int .i64 0, .int .i64 0]
  have hB := (Below.refl W.heap.size W).alloc (Nat.le_refl _) (.cells #[.int .i64 9, .int .i64 (n : Int), .int .i64 0, .int .i64 0] 46)
  have q0 := (hq.cell 0).trans rfl
  have q1 := (hq.cell 1).trans rfl
  have q2 := (hq.cell 2).trans rfl
  have q3 := (hq.cell 3).trans rfl
  have h3 : (n : Int) <= 3 := by omega
  have htt : t <= 1000 := by omega
  go_enter Tryz.func40, Tryz.ntmps40
  go_wp2_with fail
  refine (may_seq (n : Int) 4 threads t (by omega) ht h0 (by omega) _).mono ?_
  rintro e V0 ⟨rfl, hB0⟩
  have hq0 := hq.below hB0 hq.lt
  have hb0 := step_below hB hB0
  have q1' := (hq0.cell 1).trans rfl
  clear q0 q1 q2 q3 hB hB0 hq
  have hI := BI.fresh (N0 := W.heap.size) (W := V0) hb0.size
  have hal := (Below.refl V0.heap.size V0).alloc (Nat.le_refl _) (.cells #[.slice none 0 0, .map none, .slice none 0 0, .bool false] 130)
  have hb1 := step_below hb0 hal
  have q1'' := ((hq0.below hal hq0.lt).cell 1).trans rfl
  have hqs := hq0.below hal hq0.lt
  have hlts : hqs = hqs := rfl
  clear hal hlts
  have HZ := Lib.hid (And.intro hb0 (And.intro hb1 (And.intro hT hqs)))
  clear hb0 hqs hT
  obtain ⟨bb, hbb⟩ : ∃ bb, V0.heap.size = bb := ⟨_, rfl⟩
  rw [hbb] at hI
  have hr := BB.e_room 900 (by decide)
  go_wp2_with fail
  try rw [hbb]
  refine Bls.step (b_prove (n := 893) _ _ hI hr (by omega) rfl) ?_
  rintro _ W1 ⟨⟨u0, rfl⟩, h1, b1⟩
  have r1 := BB.Room.prove (n := 893) hr (base + 1) t
  go_wp2_with fail
  refine Bls.step (b_ask (n := 892) _ _ _ h1 r1) ?_
  rintro _ W2 ⟨⟨u1, rfl⟩, h2, b2⟩
  have r2 := BI.rins (n := 892) h2 r1
  go_wp2_with fail
  refine Bls.step (b_close (n := 890)  h2 r2 rfl) ?_
  rintro _ W3 ⟨⟨u2, rfl⟩, h3, b3⟩
  have r3 := BB.Room.close (n := 890) r2
  have hbz := hb1.trans (b1.trans (b2.trans (b3))).b
  have hTz := HZ.out.2.2.1.step hbz
  go_wp2_with fail
  refine (bcode_any W.heap.size bb _ W3 h3 hTz ?_ (by have := r3.2.1; omega) (by have := r3.1; omega) (by first | exact Nat.zero_lt_succ _ | simp [BB.sread, BB.sread1, BB.sreads, BB.ins, BB.go, BB.at, BB.close])).mono ?_
  · rfl
  rintro e V9 ⟨⟨v, rfl, hO⟩, hB9⟩
  go_wp2
  go_ret2
  exact ⟨⟨_, rfl, hO.below hbz.size⟩, step_below hbz hB9⟩
set_option maxHeartbeats 4000000 in
theorem code_read (n : Nat) (threads base t arg : Int) (hn : 1 <= n /\ n <= 3) (ht : 1 <= threads /\ threads <= 8) (h0 : 0 <= t /\ t < threads) (hb : 0 <= base /\ base <= 4294960000) (ha : 0 <= arg) (W : World) (hT : Tab W) :
    Calls Tryz.prog 40 #[.agg #[.int .i64 9, .int .i64 (n : Int), .int .i64 0, .int .i64 0], .int .i64 3, .int .i64 threads, .int .i64 t, .int .u32 base, .int .u32 arg] W fun e W' => (∃ v, e = .returned (.tuple #[v, .bool true]) /\ OutI W v ((BB.e.sread base n).close).out W') /\ Below W.heap.size W W' := by
  have hq := Blk.new W 46 #[.int .i64 9, .int .i64 (n : Int), .int .i64 0, .int .i64 0]
  have hB := (Below.refl W.heap.size W).alloc (Nat.le_refl _) (.cells #[.int .i64 9, .int .i64 (n : Int), .int .i64 0, .int .i64 0] 46)
  have q0 := (hq.cell 0).trans rfl
  have q1 := (hq.cell 1).trans rfl
  have q2 := (hq.cell 2).trans rfl
  have q3 := (hq.cell 3).trans rfl
  have h3 : (n : Int) <= 3 := by omega
  have htt : t <= 1000 := by omega
  go_enter Tryz.func40, Tryz.ntmps40
  go_wp2_with fail
  refine (may_seq (n : Int) 3 threads t (by omega) ht h0 (by omega) _).mono ?_
  rintro e V0 ⟨rfl, hB0⟩
  have hq0 := hq.below hB0 hq.lt
  have hb0 := step_below hB hB0
  have q1' := (hq0.cell 1).trans rfl
  clear q0 q1 q2 q3 hB hB0 hq
  have hI := BI.fresh (N0 := W.heap.size) (W := V0) hb0.size
  have hal := (Below.refl V0.heap.size V0).alloc (Nat.le_refl _) (.cells #[.slice none 0 0, .map none, .slice none 0 0, .bool false] 130)
  have hb1 := step_below hb0 hal
  have q1'' := ((hq0.below hal hq0.lt).cell 1).trans rfl
  have hqs := hq0.below hal hq0.lt
  have hlts : hqs = hqs := rfl
  clear hal hlts
  have HZ := Lib.hid (And.intro hb0 (And.intro hb1 (And.intro hT hqs)))
  clear hb0 hqs hT
  obtain ⟨bb, hbb⟩ : ∃ bb, V0.heap.size = bb := ⟨_, rfl⟩
  rw [hbb] at hI
  have hr := BB.e_room 900 (by decide)
  go_wp2_with fail
  try rw [hbb]
  refine Bls.step (b_sread (n := 15) (k := n) _ hI (hr.mono (by omega)) hb (by omega) rfl) ?_
  rintro _ W1 ⟨⟨u0, rfl⟩, h1, b1⟩
  have r1 := BB.Room.sread (n := 15) (k := n) (hr.mono (by omega)) base
  go_wp2_with fail
  refine Bls.step (b_close (n := 13)  h1 r1 (by unfold BB.sread BB.go BB.ins; show List.lookup n_end ((BB.e.sread1 base).sreads base n).places = none; rw [sreads_places]; rfl)) ?_
  rintro _ W2 ⟨⟨u1, rfl⟩, h2, b2⟩
  have r2 := BB.Room.close (n := 13) r1
  have hbz := hb1.trans (b1.trans (b2)).b
  have hTz := HZ.out.2.2.1.step hbz
  go_wp2_with fail
  refine (bcode_any W.heap.size bb _ W2 h2 hTz ?_ (by have := r2.2.1; omega) (by have := r2.1; omega) (by first | exact Nat.zero_lt_succ _ | simp [BB.sread, BB.sread1, BB.sreads, BB.ins, BB.go, BB.at, BB.close])).mono ?_
  · have : n = 1 ∨ n = 2 ∨ n = 3 := by omega
    rcases this with rfl | rfl | rfl <;> rfl
  rintro e V9 ⟨⟨v, rfl, hO⟩, hB9⟩
  go_wp2
  go_ret2
  exact ⟨⟨_, rfl, hO.below hbz.size⟩, step_below hbz hB9⟩
end Go.Proofs.YtmhfpjnkjlhbpaaGreatDoor

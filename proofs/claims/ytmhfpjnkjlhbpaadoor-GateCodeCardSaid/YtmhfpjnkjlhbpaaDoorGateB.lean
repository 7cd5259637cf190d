/- gate: wake, enter, done, barrier (strangers); gate.Code there (printed by gen/bldf.py). -/
import Derived.Test.YtmhfpjnkjlhbpaaDoorSeqCode
namespace Go.Proofs.YtmhfpjnkjlhbpaaDoor
open Go.ChangeShapes Go.WideShapes Go.ChangeAt Go.RowKit Go.Deep
set_option linter.unusedVariables false
set_option maxRecDepth 100000
set_option linter.unusedSimpArgs false

def BB.wake (b : BB) (k a : Int) : BB := (b.ins ⟨1, 4, 0, 0, k⟩).ins ⟨24, 4, 8, 0, a⟩
theorem BB.Room.wake {b : BB} {n : Nat} (h : b.Room (n + 2)) (k a : Int) : (b.wake k a).Room n := BB.Room.ins (BB.Room.ins h _) _
theorem every_any (W : World) : Calls Tryd.prog 78 #[] W fun e W' => e = .returned (.int .u32 4294967295) ∧ W' = W := by
  have cM : Calls Tryd.prog 112 #[.int .u32 1] W fun e W' => e = .returned (.int .u32 4294967295) ∧ W' = W := by
    go_enter Tryd.func112, Tryd.ntmps112
    go_wp2
    go_ret
    exact ⟨by first | rfl | decide, rfl⟩
  go_enter Tryd.func78, Tryd.ntmps78
  go_wp2_with fail
  refine cM.mono ?_
  rintro e W1 ⟨rfl, rfl⟩
  go_wp2
  go_ret
  exact ⟨rfl, rfl⟩
def BB.genter (b : BB) (base t : Int) : BB := ((((((((((((((((((((b.claim (base + 1) t).at n_again).ins ⟨16, 4, 8, 0, base⟩).ins ⟨1, 6, 0, 0, 2⟩).ins ⟨12, 6, 4, 6, 0⟩).go 15 6 n_done).ins ⟨1, 4, 0, 0, 0⟩).ins ⟨1, 6, 0, 0, 1⟩).ins ⟨21, 4, 8, 6, base⟩).go 14 4 n_yours).ins ⟨1, 6, 0, 0, 1⟩).ins ⟨12, 6, 4, 6, 0⟩).go 14 6 n_again).ins ⟨23, 4, 8, 0, base⟩).go 13 0 n_again).at n_yours).ins ⟨17, 5, 8, 0, base + 1⟩).ins ⟨1, 7, 0, 0, 5⟩).go 13 0 n_end).at n_done).close
def BB.gdone (b : BB) (base t : Int) : BB := ((((b.prove (base + 1) t).zero (base + 1)).ins ⟨1, 4, 0, 0, 2⟩).ins ⟨19, 4, 8, 0, base⟩).wake 4294967295 base |>.close

set_option maxHeartbeats 2000000 in
theorem b_wake {N0 bb : Nat} {b : BB} {n : Nat} (k a : Int) {W : World} (h : BI N0 W bb b) (hr : b.Room (n + 2))  : Bls 77 #[.pointer (some ⟨bb, 0, none⟩), .int .u32 k, .int .u32 a] N0 bb b (b.wake k a) W := by
  unfold Bls
  go_enter Tryd.func77, Tryd.ntmps77
  go_wp2_with fail
  refine Bls.step (b_set (n := n + 1) _ _ h hr) ?_
  rintro _ W1 ⟨⟨u0, rfl⟩, h1, b1⟩
  have r1 := BI.rins (n := n + 1) h1 hr
  go_wp2_with fail
  refine Bls.step (b_ask (n := n + 0) _ _ _ h1 r1) ?_
  rintro _ W2 ⟨⟨u1, rfl⟩, h2, b2⟩
  have r2 := BI.rins (n := n + 0) h2 r1
  go_wp2
  go_end0
  exact ⟨⟨_, rfl⟩, h2, b1.trans (b2)⟩

set_option maxHeartbeats 2000000 in
theorem b_genter {N0 bb : Nat} {n : Nat} (base t : Int) {W : World} (h : BI N0 W bb BB.e) (hr : BB.e.Room (n + 28)) (ht : 0 ≤ t ∧ t ≤ 1000) (hb : 0 ≤ base ∧ base ≤ 4294960000) : Bls 45 #[.pointer (some ⟨bb, 0, none⟩), .int .i64 t, .int .u32 base] N0 bb BB.e (BB.genter BB.e base t) W := by
  unfold Bls
  go_enter Tryd.func45, Tryd.ntmps45
  go_wp2_with fail
  refine Bls.step (b_claim (n := n + 21) _ _ h hr ht (by kernel_rfl)) ?_
  rintro _ W1 ⟨⟨u0, rfl⟩, h1, b1⟩
  have r1 := BB.Room.claim hr (base + 1) t
  go_wp2_with fail
  try rw [str_again]
  refine Bls.step (b_at (n := n + 20) n_again nm_again h1 r1 (by kernel_rfl)) ?_
  rintro _ W2 ⟨⟨u1, rfl⟩, h2, b2⟩
  have r2 := BI.rat (n := n + 20) h2 r1
  go_wp2_with fail
  refine Bls.step (b_ask (n := n + 19) _ _ _ h2 r2) ?_
  rintro _ W3 ⟨⟨u2, rfl⟩, h3, b3⟩
  have r3 := BI.rins (n := n + 19) h3 r2
  go_wp2_with fail
  refine Bls.step (b_set (n := n + 18) _ _ h3 r3) ?_
  rintro _ W4 ⟨⟨u3, rfl⟩, h4, b4⟩
  have r4 := BI.rins (n := n + 18) h4 r3
  go_wp2_with fail
  refine Bls.step (b_alu (n := n + 17) _ _ _ _ h4 r4) ?_
  rintro _ W5 ⟨⟨u4, rfl⟩, h5, b5⟩
  have r5 := BI.rins (n := n + 17) h5 r4
  go_wp2_with fail
  try rw [str_done]
  refine Bls.step (b_go (n := n + 16) _ _ n_done h5 r5) ?_
  rintro _ W6 ⟨⟨u5, rfl⟩, h6, b6⟩
  have r6 := BI.rgo (n := n + 16) h6 r5
  go_wp2_with fail
  refine Bls.step (b_set (n := n + 15) _ _ h6 r6) ?_
  rintro _ W7 ⟨⟨u6, rfl⟩, h7, b7⟩
  have r7 := BI.rins (n := n + 15) h7 r6
  go_wp2_with fail
  refine Bls.step (b_set (n := n + 14) _ _ h7 r7) ?_
  rintro _ W8 ⟨⟨u7, rfl⟩, h8, b8⟩
  have r8 := BI.rins (n := n + 14) h8 r7
  go_wp2_with fail
  refine Bls.step (b_cas (n := n + 13) _ _ _ h8 r8) ?_
  rintro _ W9 ⟨⟨u8, rfl⟩, h9, b9⟩
  have r9 := BI.rins (n := n + 13) h9 r8
  go_wp2_with fail
  try rw [str_yours]
  refine Bls.step (b_go (n := n + 12) _ _ n_yours h9 r9) ?_
  rintro _ W10 ⟨⟨u9, rfl⟩, h10, b10⟩
  have r10 := BI.rgo (n := n + 12) h10 r9
  go_wp2_with fail
  refine Bls.step (b_set (n := n + 11) _ _ h10 r10) ?_
  rintro _ W11 ⟨⟨u10, rfl⟩, h11, b11⟩
  have r11 := BI.rins (n := n + 11) h11 r10
  go_wp2_with fail
  refine Bls.step (b_alu (n := n + 10) _ _ _ _ h11 r11) ?_
  rintro _ W12 ⟨⟨u11, rfl⟩, h12, b12⟩
  have r12 := BI.rins (n := n + 10) h12 r11
  go_wp2_with fail
  try rw [str_again]
  refine Bls.step (b_go (n := n + 9) _ _ n_again h12 r12) ?_
  rintro _ W13 ⟨⟨u12, rfl⟩, h13, b13⟩
  have r13 := BI.rgo (n := n + 9) h13 r12
  go_wp2_with fail
  refine Bls.step (b_ask (n := n + 8) _ _ _ h13 r13) ?_
  rintro _ W14 ⟨⟨u13, rfl⟩, h14, b14⟩
  have r14 := BI.rins (n := n + 8) h14 r13
  go_wp2_with fail
  try rw [str_again]
  refine Bls.step (b_go (n := n + 7) _ _ n_again h14 r14) ?_
  rintro _ W15 ⟨⟨u14, rfl⟩, h15, b15⟩
  have r15 := BI.rgo (n := n + 7) h15 r14
  go_wp2_with fail
  try rw [str_yours]
  refine Bls.step (b_at (n := n + 6) n_yours nm_yours h15 r15 (by kernel_rfl)) ?_
  rintro _ W16 ⟨⟨u15, rfl⟩, h16, b16⟩
  have r16 := BI.rat (n := n + 6) h16 r15
  go_wp2_with fail
  refine Bls.step (b_ask (n := n + 5) _ _ _ h16 r16) ?_
  rintro _ W17 ⟨⟨u16, rfl⟩, h17, b17⟩
  have r17 := BI.rins (n := n + 5) h17 r16
  go_wp2_with fail
  refine Bls.step (b_set (n := n + 4) _ _ h17 r17) ?_
  rintro _ W18 ⟨⟨u17, rfl⟩, h18, b18⟩
  have r18 := BI.rins (n := n + 4) h18 r17
  go_wp2_with fail
  try rw [str_end]
  refine Bls.step (b_go (n := n + 3) _ _ n_end h18 r18) ?_
  rintro _ W19 ⟨⟨u18, rfl⟩, h19, b19⟩
  have r19 := BI.rgo (n := n + 3) h19 r18
  go_wp2_with fail
  try rw [str_done]
  refine Bls.step (b_at (n := n + 2) n_done nm_done h19 r19 (by kernel_rfl)) ?_
  rintro _ W20 ⟨⟨u19, rfl⟩, h20, b20⟩
  have r20 := BI.rat (n := n + 2) h20 r19
  go_wp2_with fail
  refine Bls.step (b_close (n := n + 0)  h20 r20 (by kernel_rfl)) ?_
  rintro _ W21 ⟨⟨u20, rfl⟩, h21, b21⟩
  have r21 := BB.Room.close r20
  go_wp2
  go_end0
  exact ⟨⟨_, rfl⟩, h21, b1.trans (b2.trans (b3.trans (b4.trans (b5.trans (b6.trans (b7.trans (b8.trans (b9.trans (b10.trans (b11.trans (b12.trans (b13.trans (b14.trans (b15.trans (b16.trans (b17.trans (b18.trans (b19.trans (b20.trans (b21))))))))))))))))))))⟩

set_option maxHeartbeats 2000000 in
theorem b_gdone {N0 bb : Nat} {n : Nat} (base t : Int) {W : World} (h : BI N0 W bb BB.e) (hr : BB.e.Room (n + 15)) (ht : 0 ≤ t ∧ t ≤ 1000) (hb : 0 ≤ base ∧ base ≤ 4294960000) : Bls 46 #[.pointer (some ⟨bb, 0, none⟩), .int .i64 t, .int .u32 base] N0 bb BB.e (BB.gdone BB.e base t) W := by
  unfold Bls
  go_enter Tryd.func46, Tryd.ntmps46
  go_wp2_with fail
  refine Bls.step (b_prove (n := n + 8) _ _ h hr ht (by kernel_rfl)) ?_
  rintro _ W1 ⟨⟨u0, rfl⟩, h1, b1⟩
  have r1 := BB.Room.prove hr (base + 1) t
  go_wp2_with fail
  refine Bls.step (b_zero (n := n + 6) _ h1 r1 ) ?_
  rintro _ W2 ⟨⟨u1, rfl⟩, h2, b2⟩
  have r2 := BB.Room.zero r1 (base + 1)
  go_wp2_with fail
  refine Bls.step (b_set (n := n + 5) _ _ h2 r2) ?_
  rintro _ W3 ⟨⟨u2, rfl⟩, h3, b3⟩
  have r3 := BI.rins (n := n + 5) h3 r2
  go_wp2_with fail
  refine Bls.step (b_ask (n := n + 4) _ _ _ h3 r3) ?_
  rintro _ W4 ⟨⟨u3, rfl⟩, h4, b4⟩
  have r4 := BI.rins (n := n + 4) h4 r3
  go_wp2_with fail
  refine (every_any _).mono ?_
  rintro e W5 ⟨rfl, rfl⟩
  have h5 := h4
  have b5 := BelF.refl N0 W5
  have r5 := r4
  go_wp2_with fail
  refine Bls.step (b_wake (n := n + 2) _ _ h5 r5 ) ?_
  rintro _ W6 ⟨⟨u5, rfl⟩, h6, b6⟩
  have r6 := BB.Room.wake r4 4294967295 base
  go_wp2_with fail
  refine Bls.step (b_close (n := n + 0)  h6 r6 (by kernel_rfl)) ?_
  rintro _ W7 ⟨⟨u6, rfl⟩, h7, b7⟩
  have r7 := BB.Room.close r6
  go_wp2
  go_end0
  exact ⟨⟨_, rfl⟩, h7, b1.trans (b2.trans (b3.trans (b4.trans (b5.trans (b6.trans (b7))))))⟩

set_option maxHeartbeats 2000000 in
theorem b_barS {N0 bb : Nat} {n : Nat} (N t base arg : Int) {W : World} (h : BI N0 W bb BB.e) (hr : BB.e.Room (n + 1)) (hN : 1 ≤ N ∧ N ≤ 8) (ht : 0 ≤ t ∧ t ≤ 1000) (ha : 0 ≤ arg ∧ arg ≤ 4294967295) (hs : N ≤ t) : Bls 44 #[.pointer (some ⟨bb, 0, none⟩), .agg #[.int .i64 13, .int .i64 N, .int .i64 0, .int .i64 0], .int .i64 t, .int .u32 base, .int .u32 arg] N0 bb BB.e (BB.e.ins ⟨1, 7, 0, 0, 4⟩) W := by
  unfold Bls
  have hq := Blk.new W 23 #[.int .i64 13, .int .i64 N, .int .i64 0, .int .i64 0]
  have hB := (Below.refl W.heap.size W).alloc (Nat.le_refl _) (.cells #[.int .i64 13, .int .i64 N, .int .i64 0, .int .i64 0] 23)
  have q1 := (hq.cell 1).trans rfl
  have hI := h.below hB
  have hN0 : N0 ≤ W.heap.size := by obtain ⟨vc, vl, mo, hP⟩ := h; exact hP.lt
  go_enter Tryd.func44, Tryd.ntmps44
  go_wp2_with fail
  refine Bls.step (b_set (n := n) _ _ hI hr) ?_
  rintro _ W1 ⟨⟨u0, rfl⟩, h1, b1⟩
  go_wp2
  go_end0
  exact ⟨⟨_, rfl⟩, h1, (BelF.of hB hN0).trans b1⟩

set_option maxHeartbeats 2000000 in
theorem b_barO {N0 bb : Nat} {n : Nat} (N t base arg : Int) {W : World} (h : BI N0 W bb BB.e) (hr : BB.e.Room (n + 1)) (hN : 1 ≤ N ∧ N ≤ 8) (ht : 0 ≤ t ∧ t ≤ 1000) (ha : 0 ≤ arg ∧ arg ≤ 4294967295) (hs : ¬ N ≤ t) (hne : ¬ arg = N) : Bls 44 #[.pointer (some ⟨bb, 0, none⟩), .agg #[.int .i64 13, .int .i64 N, .int .i64 0, .int .i64 0], .int .i64 t, .int .u32 base, .int .u32 arg] N0 bb BB.e (BB.e.ins ⟨1, 7, 0, 0, 3⟩) W := by
  unfold Bls
  have hq := Blk.new W 23 #[.int .i64 13, .int .i64 N, .int .i64 0, .int .i64 0]
  have hB := (Below.refl W.heap.size W).alloc (Nat.le_refl _) (.cells #[.int .i64 13, .int .i64 N, .int .i64 0, .int .i64 0] 23)
  have q1 := (hq.cell 1).trans rfl
  have hI := h.below hB
  have hN0 : N0 ≤ W.heap.size := by obtain ⟨vc, vl, mo, hP⟩ := h; exact hP.lt
  go_enter Tryd.func44, Tryd.ntmps44
  go_wp2_with fail
  refine Bls.step (b_set (n := n) _ _ hI hr) ?_
  rintro _ W1 ⟨⟨u0, rfl⟩, h1, b1⟩
  go_wp2
  go_end0
  exact ⟨⟨_, rfl⟩, h1, (BelF.of hB hN0).trans b1⟩

set_option maxHeartbeats 4000000 in
theorem code_enter ( threads base t arg : Int) (ht : 1 ≤ threads ∧ threads ≤ 8) (h0 : 0 ≤ t ∧ t < threads) (hb : 0 ≤ base ∧ base ≤ 4294960000) (ha : 0 ≤ arg ∧ arg ≤ 4294967295)  (W : World) (hT : Tab W) (hO : ONam W) :
    Calls Tryd.prog 14 #[.agg #[.int .i64 15, .int .i64 0, .int .i64 0, .int .i64 0], .int .i64 9, .int .i64 threads, .int .i64 t, .int .u32 base, .int .u32 arg] W fun e W' => (∃ v, e = .returned (.tuple #[v, .bool true]) ∧ OutI W v (BB.genter BB.e base t).out W') ∧ Below W.heap.size W W' := by
  have hq := Blk.new W 23 #[.int .i64 15, .int .i64 0, .int .i64 0, .int .i64 0]
  have hB := (Below.refl W.heap.size W).alloc (Nat.le_refl _) (.cells #[.int .i64 15, .int .i64 0, .int .i64 0, .int .i64 0] 23)
  have q0 := (hq.cell 0).trans rfl
  have q1 := (hq.cell 1).trans rfl
  have q2 := (hq.cell 2).trans rfl
  have q3 := (hq.cell 3).trans rfl
  have htt : t ≤ 1000 := by omega
  have cMy := may_nam 15 (by decide) 9 threads t ht h0 (by decide) _ (hO.step hB)
  go_enter Tryd.func14, Tryd.ntmps14
  go_wp2_with fail
  refine cMy.mono ?_
  rintro e V0 ⟨rfl, hB0⟩
  clear cMy
  have hq0 := hq.below hB0 hq.lt
  have hb0 := step_below hB hB0
  clear q0 q1 q2 q3 hB hB0 hq
  have hI := BI.fresh (N0 := W.heap.size) (W := V0) hb0.size
  have hal := (Below.refl V0.heap.size V0).alloc (Nat.le_refl _) (.cells #[.slice none 0 0, .map none, .slice none 0 0, .bool false] 65)
  have hb1 := step_below hb0 hal
  have hqs := hq0.below hal hq0.lt
  have q0 := (hqs.cell 0).trans rfl
  have q1 := (hqs.cell 1).trans rfl
  have q2 := (hqs.cell 2).trans rfl
  have q3 := (hqs.cell 3).trans rfl
  clear hal hqs hq0
  have HZ := Lib.hid (And.intro hb0 (And.intro hb1 hT))
  clear hb0 hT
  obtain ⟨bb, hbb⟩ : ∃ bb, V0.heap.size = bb := ⟨_, rfl⟩
  rw [hbb] at hI
  have hr := BB.e_room 900 (by decide)
  go_wp2_with fail
  try rw [hbb]
  refine Bls.step (b_genter (n := 872) _ _ hI hr (by omega) hb) ?_
  rintro _ W1 ⟨⟨u0, rfl⟩, h1, b1⟩
  have hbz := hb1.trans b1.b
  have hTz := HZ.out.2.2.step hbz
  go_wp2_with fail
  refine (bcode_any W.heap.size bb _ W1 h1 hTz (by kernel_rfl) (Nat.le_of_ble_eq_true (by kernel_rfl)) (Nat.le_of_ble_eq_true (by kernel_rfl)) (Nat.le_of_ble_eq_true (by kernel_rfl))).mono ?_
  rintro e V9 ⟨⟨v, rfl, hO9⟩, hB9⟩
  go_wp2
  go_ret2
  exact ⟨⟨_, rfl, hO9.below hbz.size⟩, step_below hbz hB9⟩

set_option maxHeartbeats 4000000 in
theorem code_done ( threads base t arg : Int) (ht : 1 ≤ threads ∧ threads ≤ 8) (h0 : 0 ≤ t ∧ t < threads) (hb : 0 ≤ base ∧ base ≤ 4294960000) (ha : 0 ≤ arg ∧ arg ≤ 4294967295)  (W : World) (hT : Tab W) (hO : ONam W) :
    Calls Tryd.prog 14 #[.agg #[.int .i64 15, .int .i64 0, .int .i64 0, .int .i64 0], .int .i64 10, .int .i64 threads, .int .i64 t, .int .u32 base, .int .u32 arg] W fun e W' => (∃ v, e = .returned (.tuple #[v, .bool true]) ∧ OutI W v (BB.gdone BB.e base t).out W') ∧ Below W.heap.size W W' := by
  have hq := Blk.new W 23 #[.int .i64 15, .int .i64 0, .int .i64 0, .int .i64 0]
  have hB := (Below.refl W.heap.size W).alloc (Nat.le_refl _) (.cells #[.int .i64 15, .int .i64 0, .int .i64 0, .int .i64 0] 23)
  have q0 := (hq.cell 0).trans rfl
  have q1 := (hq.cell 1).trans rfl
  have q2 := (hq.cell 2).trans rfl
  have q3 := (hq.cell 3).trans rfl
  have htt : t ≤ 1000 := by omega
  have cMy := may_nam 15 (by decide) 10 threads t ht h0 (by decide) _ (hO.step hB)
  go_enter Tryd.func14, Tryd.ntmps14
  go_wp2_with fail
  refine cMy.mono ?_
  rintro e V0 ⟨rfl, hB0⟩
  clear cMy
  have hq0 := hq.below hB0 hq.lt
  have hb0 := step_below hB hB0
  clear q0 q1 q2 q3 hB hB0 hq
  have hI := BI.fresh (N0 := W.heap.size) (W := V0) hb0.size
  have hal := (Below.refl V0.heap.size V0).alloc (Nat.le_refl _) (.cells #[.slice none 0 0, .map none, .slice none 0 0, .bool false] 65)
  have hb1 := step_below hb0 hal
  have hqs := hq0.below hal hq0.lt
  have q0 := (hqs.cell 0).trans rfl
  have q1 := (hqs.cell 1).trans rfl
  have q2 := (hqs.cell 2).trans rfl
  have q3 := (hqs.cell 3).trans rfl
  clear hal hqs hq0
  have HZ := Lib.hid (And.intro hb0 (And.intro hb1 hT))
  clear hb0 hT
  obtain ⟨bb, hbb⟩ : ∃ bb, V0.heap.size = bb := ⟨_, rfl⟩
  rw [hbb] at hI
  have hr := BB.e_room 900 (by decide)
  go_wp2_with fail
  try rw [hbb]
  refine Bls.step (b_gdone (n := 885) _ _ hI hr (by omega) hb) ?_
  rintro _ W1 ⟨⟨u0, rfl⟩, h1, b1⟩
  have hbz := hb1.trans b1.b
  have hTz := HZ.out.2.2.step hbz
  go_wp2_with fail
  refine (bcode_any W.heap.size bb _ W1 h1 hTz (by kernel_rfl) (Nat.le_of_ble_eq_true (by kernel_rfl)) (Nat.le_of_ble_eq_true (by kernel_rfl)) (Nat.le_of_ble_eq_true (by kernel_rfl))).mono ?_
  rintro e V9 ⟨⟨v, rfl, hO9⟩, hB9⟩
  go_wp2
  go_ret2
  exact ⟨⟨_, rfl, hO9.below hbz.size⟩, step_below hbz hB9⟩

set_option maxHeartbeats 4000000 in
theorem code_barS (N threads base t arg : Int) (ht : 1 ≤ threads ∧ threads ≤ 8) (h0 : 0 ≤ t ∧ t < threads)  (ha : 0 ≤ arg ∧ arg ≤ 4294967295) (hN : 1 ≤ N ∧ N ≤ threads) (hs : N ≤ t) (W : World) (hT : Tab W) (hO : ONam W) :
    Calls Tryd.prog 14 #[.agg #[.int .i64 13, .int .i64 N, .int .i64 0, .int .i64 0], .int .i64 9, .int .i64 threads, .int .i64 t, .int .u32 base, .int .u32 arg] W fun e W' => (∃ v, e = .returned (.tuple #[v, .bool true]) ∧ OutI W v (BB.e.ins ⟨1, 7, 0, 0, 4⟩).out W') ∧ Below W.heap.size W W' := by
  have hq := Blk.new W 23 #[.int .i64 13, .int .i64 N, .int .i64 0, .int .i64 0]
  have hB := (Below.refl W.heap.size W).alloc (Nat.le_refl _) (.cells #[.int .i64 13, .int .i64 N, .int .i64 0, .int .i64 0] 23)
  have q0 := (hq.cell 0).trans rfl
  have q1 := (hq.cell 1).trans rfl
  have q2 := (hq.cell 2).trans rfl
  have q3 := (hq.cell 3).trans rfl
  have htt : t ≤ 1000 := by omega
  have cMy := may_bar N threads t hN ht h0 (W.alloc (.cells #[.int .i64 13, .int .i64 N, .int .i64 0, .int .i64 0] 23))
  go_enter Tryd.func14, Tryd.ntmps14
  go_wp2_with fail
  refine cMy.mono ?_
  rintro e V0 ⟨rfl, hB0⟩
  clear cMy
  have hq0 := hq.below hB0 hq.lt
  have hb0 := step_below hB hB0
  clear q0 q1 q2 q3 hB hB0 hq
  have hI := BI.fresh (N0 := W.heap.size) (W := V0) hb0.size
  have hal := (Below.refl V0.heap.size V0).alloc (Nat.le_refl _) (.cells #[.slice none 0 0, .map none, .slice none 0 0, .bool false] 65)
  have hb1 := step_below hb0 hal
  have hqs := hq0.below hal hq0.lt
  have q0 := (hqs.cell 0).trans rfl
  have q1 := (hqs.cell 1).trans rfl
  have q2 := (hqs.cell 2).trans rfl
  have q3 := (hqs.cell 3).trans rfl
  clear hal hqs hq0
  have HZ := Lib.hid (And.intro hb0 (And.intro hb1 hT))
  clear hb0 hT
  obtain ⟨bb, hbb⟩ : ∃ bb, V0.heap.size = bb := ⟨_, rfl⟩
  rw [hbb] at hI
  have hr := BB.e_room 900 (by decide)
  go_wp2_with fail
  try rw [hbb]
  refine Bls.step (b_barS (n := 899) N t base arg hI hr (by omega) (by omega) ha hs) ?_
  rintro _ W1 ⟨⟨u0, rfl⟩, h1, b1⟩
  have hbz := hb1.trans b1.b
  have hTz := HZ.out.2.2.step hbz
  go_wp2_with fail
  refine (bcode_any W.heap.size bb _ W1 h1 hTz (by kernel_rfl) (Nat.le_of_ble_eq_true (by kernel_rfl)) (Nat.le_of_ble_eq_true (by kernel_rfl)) (Nat.le_of_ble_eq_true (by kernel_rfl))).mono ?_
  rintro e V9 ⟨⟨v, rfl, hO9⟩, hB9⟩
  go_wp2
  go_ret2
  exact ⟨⟨_, rfl, hO9.below hbz.size⟩, step_below hbz hB9⟩

set_option maxHeartbeats 4000000 in
theorem code_barO (N threads base t arg : Int) (ht : 1 ≤ threads ∧ threads ≤ 8) (h0 : 0 ≤ t ∧ t < threads)  (ha : 0 ≤ arg ∧ arg ≤ 4294967295) (hN : 1 ≤ N ∧ N ≤ threads) (hs : ¬ N ≤ t) (hne : ¬ arg = N) (W : World) (hT : Tab W) (hO : ONam W) :
    Calls Tryd.prog 14 #[.agg #[.int .i64 13, .int .i64 N, .int .i64 0, .int .i64 0], .int .i64 9, .int .i64 threads, .int .i64 t, .int .u32 base, .int .u32 arg] W fun e W' => (∃ v, e = .returned (.tuple #[v, .bool true]) ∧ OutI W v (BB.e.ins ⟨1, 7, 0, 0, 3⟩).out W') ∧ Below W.heap.size W W' := by
  have hq := Blk.new W 23 #[.int .i64 13, .int .i64 N, .int .i64 0, .int .i64 0]
  have hB := (Below.refl W.heap.size W).alloc (Nat.le_refl _) (.cells #[.int .i64 13, .int .i64 N, .int .i64 0, .int .i64 0] 23)
  have q0 := (hq.cell 0).trans rfl
  have q1 := (hq.cell 1).trans rfl
  have q2 := (hq.cell 2).trans rfl
  have q3 := (hq.cell 3).trans rfl
  have htt : t ≤ 1000 := by omega
  have cMy := may_bar N threads t hN ht h0 (W.alloc (.cells #[.int .i64 13, .int .i64 N, .int .i64 0, .int .i64 0] 23))
  go_enter Tryd.func14, Tryd.ntmps14
  go_wp2_with fail
  refine cMy.mono ?_
  rintro e V0 ⟨rfl, hB0⟩
  clear cMy
  have hq0 := hq.below hB0 hq.lt
  have hb0 := step_below hB hB0
  clear q0 q1 q2 q3 hB hB0 hq
  have hI := BI.fresh (N0 := W.heap.size) (W := V0) hb0.size
  have hal := (Below.refl V0.heap.size V0).alloc (Nat.le_refl _) (.cells #[.slice none 0 0, .map none, .slice none 0 0, .bool false] 65)
  have hb1 := step_below hb0 hal
  have hqs := hq0.below hal hq0.lt
  have q0 := (hqs.cell 0).trans rfl
  have q1 := (hqs.cell 1).trans rfl
  have q2 := (hqs.cell 2).trans rfl
  have q3 := (hqs.cell 3).trans rfl
  clear hal hqs hq0
  have HZ := Lib.hid (And.intro hb0 (And.intro hb1 hT))
  clear hb0 hT
  obtain ⟨bb, hbb⟩ : ∃ bb, V0.heap.size = bb := ⟨_, rfl⟩
  rw [hbb] at hI
  have hr := BB.e_room 900 (by decide)
  go_wp2_with fail
  try rw [hbb]
  refine Bls.step (b_barO (n := 899) N t base arg hI hr (by omega) (by omega) ha (by omega) hne) ?_
  rintro _ W1 ⟨⟨u0, rfl⟩, h1, b1⟩
  have hbz := hb1.trans b1.b
  have hTz := HZ.out.2.2.step hbz
  go_wp2_with fail
  refine (bcode_any W.heap.size bb _ W1 h1 hTz (by kernel_rfl) (Nat.le_of_ble_eq_true (by kernel_rfl)) (Nat.le_of_ble_eq_true (by kernel_rfl)) (Nat.le_of_ble_eq_true (by kernel_rfl))).mono ?_
  rintro e V9 ⟨⟨v, rfl, hO9⟩, hB9⟩
  go_wp2
  go_ret2
  exact ⟨⟨_, rfl, hO9.below hbz.size⟩, step_below hbz hB9⟩

end Go.Proofs.YtmhfpjnkjlhbpaaDoor

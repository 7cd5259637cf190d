/- gate: cond, meet; gate.Code there, and where there is none (printed by gen/gatec.py). -/
import Derived.Test.YtmhfpjnkjlhbpaaDoorGateTx
import Derived.Test.YtmhfpjnkjlhbpaaDoorMayH
namespace Go.Proofs.YtmhfpjnkjlhbpaaDoor
open Go.ChangeShapes Go.WideShapes Go.ChangeAt Go.RowKit Go.Deep
set_option linter.unusedVariables false
set_option maxRecDepth 100000
set_option linter.unusedSimpArgs false

theorem BB.Room.gmore {b : BB} {n : Nat} (h : b.Room (n + 2)) (a : Int) : (b.gmore a).Room n := BB.Room.ins (BB.Room.ins h _) _

set_option maxHeartbeats 2000000 in
theorem b_gmore {N0 bb : Nat} {b : BB} {n : Nat} (a : Int) {W : World} (h : BI N0 W bb b) (hr : b.Room (n + 2))  : Bls 76 #[.pointer (some ⟨bb, 0, none⟩), .int .u32 a] N0 bb b (b.gmore a) W := by
  unfold Bls
  go_enter Tryd.func76, Tryd.ntmps76
  go_wp2_with fail
  refine Bls.step (b_set (n := n + 1) _ _ h hr) ?_
  rintro _ W1 ⟨⟨u0, rfl⟩, h1, b1⟩
  have r1 := BI.rins (n := n + 1) h1 hr
  go_wp2_with fail
  refine Bls.step (b_ask (n := n + 0) _ _ _ h1 r1) ?_
  rintro _ W2 ⟨⟨u1, rfl⟩, h2, b2⟩
  have r2 := BI.rins (n := n + 0) h2 r1
  go_wp2
  go_end0
  exact ⟨⟨_, rfl⟩, h2, b1.trans (b2)⟩

set_option maxHeartbeats 2000000 in
theorem b_tick {N0 bb : Nat} {n : Nat} (base t : Int) {W : World} (h : BI N0 W bb BB.e) (hr : BB.e.Room (n + 4)) (ht : 0 ≤ t ∧ t ≤ 1000) (hb : 0 ≤ base ∧ base ≤ 4294960000) : Bls 43 #[.pointer (some ⟨bb, 0, none⟩), .int .i64 5, .int .i64 t, .int .u32 base] N0 bb BB.e (BB.gtick BB.e base (base + 1 + t)) W := by
  unfold Bls
  go_enter Tryd.func43, Tryd.ntmps43
  go_wp2_with fail
  refine Bls.step (b_ask (n := n + 3) _ _ _ h hr) ?_
  rintro _ W1 ⟨⟨u0, rfl⟩, h1, b1⟩
  have r1 := BI.rins (n := n + 3) h1 hr
  go_wp2_with fail
  refine Bls.step (b_ask (n := n + 2) _ _ _ h1 r1) ?_
  rintro _ W2 ⟨⟨u1, rfl⟩, h2, b2⟩
  have r2 := BI.rins (n := n + 2) h2 r1
  go_wp2_with fail
  refine Bls.step (b_close (n := n)  h2 r2 (by kernel_rfl)) ?_
  rintro _ W3 ⟨⟨u2, rfl⟩, h3, b3⟩
  have r3 := BB.Room.close r2
  go_wp2
  go_end0
  exact ⟨⟨_, rfl⟩, h3, b1.trans (b2.trans (b3))⟩

set_option maxHeartbeats 2000000 in
theorem b_gslp {N0 bb : Nat} {n : Nat} (base t : Int) {W : World} (h : BI N0 W bb BB.e) (hr : BB.e.Room (n + 4)) (ht : 0 ≤ t ∧ t ≤ 1000) (hb : 0 ≤ base ∧ base ≤ 4294960000) : Bls 43 #[.pointer (some ⟨bb, 0, none⟩), .int .i64 6, .int .i64 t, .int .u32 base] N0 bb BB.e (BB.gslp BB.e base (base + 1 + t)) W := by
  unfold Bls
  go_enter Tryd.func43, Tryd.ntmps43
  go_wp2_with fail
  refine Bls.step (b_ask (n := n + 3) _ _ _ h hr) ?_
  rintro _ W1 ⟨⟨u0, rfl⟩, h1, b1⟩
  have r1 := BI.rins (n := n + 3) h1 hr
  go_wp2_with fail
  refine Bls.step (b_ask (n := n + 2) _ _ _ h1 r1) ?_
  rintro _ W2 ⟨⟨u1, rfl⟩, h2, b2⟩
  have r2 := BI.rins (n := n + 2) h2 r1
  go_wp2_with fail
  refine Bls.step (b_close (n := n)  h2 r2 (by kernel_rfl)) ?_
  rintro _ W3 ⟨⟨u2, rfl⟩, h3, b3⟩
  have r3 := BB.Room.close r2
  go_wp2
  go_end0
  exact ⟨⟨_, rfl⟩, h3, b1.trans (b2.trans (b3))⟩

set_option maxHeartbeats 2000000 in
theorem b_gsig {N0 bb : Nat} {n : Nat} (base t : Int) {W : World} (h : BI N0 W bb BB.e) (hr : BB.e.Room (n + 6)) (ht : 0 ≤ t ∧ t ≤ 1000) (hb : 0 ≤ base ∧ base ≤ 4294960000) : Bls 43 #[.pointer (some ⟨bb, 0, none⟩), .int .i64 7, .int .i64 t, .int .u32 base] N0 bb BB.e (BB.gsig BB.e base 1) W := by
  unfold Bls
  go_enter Tryd.func43, Tryd.ntmps43
  go_wp2_with fail
  refine Bls.step (b_gmore (n := n + 4) _ h hr ) ?_
  rintro _ W1 ⟨⟨u0, rfl⟩, h1, b1⟩
  have r1 := BB.Room.gmore hr base
  go_wp2_with fail
  refine Bls.step (b_wake (n := n + 2) _ _ h1 r1 ) ?_
  rintro _ W2 ⟨⟨u1, rfl⟩, h2, b2⟩
  have r2 := BB.Room.wake r1 1 base
  go_wp2_with fail
  refine Bls.step (b_close (n := n)  h2 r2 (by kernel_rfl)) ?_
  rintro _ W3 ⟨⟨u2, rfl⟩, h3, b3⟩
  have r3 := BB.Room.close r2
  go_wp2
  go_end0
  exact ⟨⟨_, rfl⟩, h3, b1.trans (b2.trans (b3))⟩

set_option maxHeartbeats 2000000 in
theorem b_gbro {N0 bb : Nat} {n : Nat} (base t : Int) {W : World} (h : BI N0 W bb BB.e) (hr : BB.e.Room (n + 6)) (ht : 0 ≤ t ∧ t ≤ 1000) (hb : 0 ≤ base ∧ base ≤ 4294960000) : Bls 43 #[.pointer (some ⟨bb, 0, none⟩), .int .i64 8, .int .i64 t, .int .u32 base] N0 bb BB.e (BB.gsig BB.e base 4294967295) W := by
  unfold Bls
  go_enter Tryd.func43, Tryd.ntmps43
  go_wp2_with fail
  refine Bls.step (b_gmore (n := n + 4) _ h hr ) ?_
  rintro _ W1 ⟨⟨u0, rfl⟩, h1, b1⟩
  have r1 := BB.Room.gmore hr base
  go_wp2_with fail
  refine (every_any _).mono ?_
  rintro e W2 ⟨rfl, rfl⟩
  have h2 := h1
  have b2 := BelF.refl N0 W2
  have r2 := r1
  go_wp2_with fail
  refine Bls.step (b_wake (n := n + 2) _ _ h2 r2 ) ?_
  rintro _ W3 ⟨⟨u2, rfl⟩, h3, b3⟩
  have r3 := BB.Room.wake r2 4294967295 base
  go_wp2_with fail
  refine Bls.step (b_close (n := n)  h3 r3 (by kernel_rfl)) ?_
  rintro _ W4 ⟨⟨u3, rfl⟩, h4, b4⟩
  have r4 := BB.Room.close r3
  go_wp2
  go_end0
  exact ⟨⟨_, rfl⟩, h4, b1.trans (b2.trans (b3.trans (b4)))⟩

set_option maxHeartbeats 2000000 in
theorem b_meet {N0 bb : Nat} {n : Nat} (N base : Int) {W : World} (h : BI N0 W bb BB.e) (hr : BB.e.Room (n + 23)) (hN : 1 ≤ N ∧ N ≤ 8) (hb : 0 ≤ base ∧ base ≤ 4294960000) : Bls 79 #[.pointer (some ⟨bb, 0, none⟩), .int .i64 N, .int .u32 base] N0 bb BB.e (BB.gmeet BB.e base (N - 1)) W := by
  unfold Bls
  go_enter Tryd.func79, Tryd.ntmps79
  go_wp2_with fail
  refine Bls.step (b_ask (n := n + 22) _ _ _ h hr) ?_
  rintro _ W1 ⟨⟨u0, rfl⟩, h1, b1⟩
  have r1 := BI.rins (n := n + 22) h1 hr
  go_wp2_with fail
  refine Bls.step (b_gmore (n := n + 20) _ h1 r1 ) ?_
  rintro _ W2 ⟨⟨u1, rfl⟩, h2, b2⟩
  have r2 := BB.Room.gmore r1 base
  go_wp2_with fail
  refine Bls.step (b_set (n := n + 19) _ _ h2 r2) ?_
  rintro _ W3 ⟨⟨u2, rfl⟩, h3, b3⟩
  have r3 := BI.rins (n := n + 19) h3 r2
  go_wp2_with fail
  refine Bls.step (b_alu (n := n + 18) _ _ _ _ h3 r3) ?_
  rintro _ W4 ⟨⟨u3, rfl⟩, h4, b4⟩
  have r4 := BI.rins (n := n + 18) h4 r3
  go_wp2_with fail
  try rw [str_look]
  refine Bls.step (b_go (n := n + 17) _ _ n_look h4 r4) ?_
  rintro _ W5 ⟨⟨u4, rfl⟩, h5, b5⟩
  have r5 := BI.rgo (n := n + 17) h5 r4
  go_wp2_with fail
  refine Bls.step (b_zero (n := n + 15) _ h5 r5 ) ?_
  rintro _ W6 ⟨⟨u5, rfl⟩, h6, b6⟩
  have r6 := BB.Room.zero r5 base
  go_wp2_with fail
  refine Bls.step (b_gmore (n := n + 13) _ h6 r6 ) ?_
  rintro _ W7 ⟨⟨u6, rfl⟩, h7, b7⟩
  have r7 := BB.Room.gmore r6 (base + 1)
  go_wp2_with fail
  refine (every_any _).mono ?_
  rintro e W8 ⟨rfl, rfl⟩
  have h8 := h7
  have b8 := BelF.refl N0 W8
  have r8 := r7
  go_wp2_with fail
  refine Bls.step (b_wake (n := n + 11) _ _ h8 r8 ) ?_
  rintro _ W9 ⟨⟨u8, rfl⟩, h9, b9⟩
  have r9 := BB.Room.wake r8 4294967295 (base + 1)
  go_wp2_with fail
  try rw [str_done]
  refine Bls.step (b_go (n := n + 10) _ _ n_done h9 r9) ?_
  rintro _ W10 ⟨⟨u9, rfl⟩, h10, b10⟩
  have r10 := BI.rgo (n := n + 10) h10 r9
  go_wp2_with fail
  try rw [str_look]
  refine Bls.step (b_at (n := n + 9) n_look nm_look h10 r10 (by kernel_rfl)) ?_
  rintro _ W11 ⟨⟨u10, rfl⟩, h11, b11⟩
  have r11 := BI.rat (n := n + 9) h11 r10
  go_wp2_with fail
  refine Bls.step (b_ask (n := n + 8) _ _ _ h11 r11) ?_
  rintro _ W12 ⟨⟨u11, rfl⟩, h12, b12⟩
  have r12 := BI.rins (n := n + 8) h12 r11
  go_wp2_with fail
  refine Bls.step (b_alu (n := n + 7) _ _ _ _ h12 r12) ?_
  rintro _ W13 ⟨⟨u12, rfl⟩, h13, b13⟩
  have r13 := BI.rins (n := n + 7) h13 r12
  go_wp2_with fail
  try rw [str_done]
  refine Bls.step (b_go (n := n + 6) _ _ n_done h13 r13) ?_
  rintro _ W14 ⟨⟨u13, rfl⟩, h14, b14⟩
  have r14 := BI.rgo (n := n + 6) h14 r13
  go_wp2_with fail
  refine Bls.step (b_do (n := n + 5) _ _ _ _ _ h14 r14) ?_
  rintro _ W15 ⟨⟨u14, rfl⟩, h15, b15⟩
  have r15 := BI.rins (n := n + 5) h15 r14
  go_wp2_with fail
  refine Bls.step (b_ask (n := n + 4) _ _ _ h15 r15) ?_
  rintro _ W16 ⟨⟨u15, rfl⟩, h16, b16⟩
  have r16 := BI.rins (n := n + 4) h16 r15
  go_wp2_with fail
  try rw [str_look]
  refine Bls.step (b_go (n := n + 3) _ _ n_look h16 r16) ?_
  rintro _ W17 ⟨⟨u16, rfl⟩, h17, b17⟩
  have r17 := BI.rgo (n := n + 3) h17 r16
  go_wp2_with fail
  try rw [str_done]
  refine Bls.step (b_at (n := n + 2) n_done nm_done h17 r17 (by kernel_rfl)) ?_
  rintro _ W18 ⟨⟨u17, rfl⟩, h18, b18⟩
  have r18 := BI.rat (n := n + 2) h18 r17
  go_wp2_with fail
  refine Bls.step (b_close (n := n)  h18 r18 (by kernel_rfl)) ?_
  rintro _ W19 ⟨⟨u18, rfl⟩, h19, b19⟩
  have r19 := BB.Room.close r18
  go_wp2
  go_end0
  exact ⟨⟨_, rfl⟩, h19, b1.trans (b2.trans (b3.trans (b4.trans (b5.trans (b6.trans (b7.trans (b8.trans (b9.trans (b10.trans (b11.trans (b12.trans (b13.trans (b14.trans (b15.trans (b16.trans (b17.trans (b18.trans (b19))))))))))))))))))⟩

set_option maxHeartbeats 2000000 in
theorem b_barM {N0 bb : Nat} {n : Nat} (N t base : Int) {W : World} (h : BI N0 W bb BB.e) (hr : BB.e.Room (n + 23)) (hN : 1 ≤ N ∧ N ≤ 8) (ht : 0 ≤ t ∧ t ≤ 1000) (hs : ¬ N ≤ t) (hb : 0 ≤ base ∧ base ≤ 4294960000) : Bls 44 #[.pointer (some ⟨bb, 0, none⟩), .agg #[.int .i64 13, .int .i64 N, .int .i64 0, .int .i64 0], .int .i64 t, .int .u32 base, .int .u32 N] N0 bb BB.e (BB.gmeet BB.e base (N - 1)) W := by
  unfold Bls
  have hq := Blk.new W 23 #[.int .i64 13, .int .i64 N, .int .i64 0, .int .i64 0]
  have hB := (Below.refl W.heap.size W).alloc (Nat.le_refl _) (.cells #[.int .i64 13, .int .i64 N, .int .i64 0, .int .i64 0] 23)
  have q1 := (hq.cell 1).trans rfl
  have hI := h.below hB
  have hN0 : N0 ≤ W.heap.size := by obtain ⟨vc, vl, mo, hP⟩ := h; exact hP.lt
  go_enter Tryd.func44, Tryd.ntmps44
  go_wp2_with fail
  refine Bls.step (b_meet (n := n) _ _ hI hr hN hb) ?_
  rintro _ W1 ⟨⟨u0, rfl⟩, h1, b1⟩
  go_wp2
  go_end0
  exact ⟨⟨_, rfl⟩, h1, (BelF.of hB hN0).trans b1⟩

set_option maxHeartbeats 4000000 in
theorem code_tick ( threads base t arg : Int) (ht : 1 ≤ threads ∧ threads ≤ 8) (h0 : 0 ≤ t ∧ t < threads) (hb : 0 ≤ base ∧ base ≤ 4294960000) (ha : 0 ≤ arg ∧ arg ≤ 4294967295) (hmy : may15 12 0 0 0 5 threads t = true) (W : World) (hT : Tab W) (hO : ONam W) :
    Calls Tryd.prog 14 #[.agg #[.int .i64 12, .int .i64 0, .int .i64 0, .int .i64 0], .int .i64 5, .int .i64 threads, .int .i64 t, .int .u32 base, .int .u32 arg] W fun e W' => (∃ v, e = .returned (.tuple #[v, .bool true]) ∧ OutI W v (BB.gtick BB.e base (base + 1 + t)).out W') ∧ Below W.heap.size W W' := by
  have hq := Blk.new W 23 #[.int .i64 12, .int .i64 0, .int .i64 0, .int .i64 0]
  have hB := (Below.refl W.heap.size W).alloc (Nat.le_refl _) (.cells #[.int .i64 12, .int .i64 0, .int .i64 0, .int .i64 0] 23)
  have q0 := (hq.cell 0).trans rfl
  have q1 := (hq.cell 1).trans rfl
  have q2 := (hq.cell 2).trans rfl
  have q3 := (hq.cell 3).trans rfl
  have htt : t ≤ 1000 := by omega
  have cMy := (show Calls _ _ _ _ (fun e W' => e = .returned (.bool true) ∧ Below _ _ W') by have := mayG 12 0 0 0 5 threads t _ (hO.step hB); rw [hmy] at this; exact this)
  go_enter Tryd.func14, Tryd.ntmps14
  go_wp2_with fail
  refine cMy.mono ?_
  rintro e V0 ⟨rfl, hB0⟩
  clear cMy
  have hq0 := hq.below hB0 hq.lt
  have hb0 := step_below hB hB0
  clear q0 q1 q2 q3 hB hB0 hq
  have hI := BI.fresh (N0 := W.heap.size) (W := V0) hb0.size
  have hal := (Below.refl V0.heap.size V0).alloc (Nat.le_refl _) (.cells #[.slice none 0 0, .map none, .slice none 0 0, .bool false] 65)
  have hb1 := step_below hb0 hal
  have hqs := hq0.below hal hq0.lt
  have q0 := (hqs.cell 0).trans rfl
  have q1 := (hqs.cell 1).trans rfl
  have q2 := (hqs.cell 2).trans rfl
  have q3 := (hqs.cell 3).trans rfl
  clear hal hqs hq0
  have HZ := Lib.hid (And.intro hb0 (And.intro hb1 hT))
  clear hb0 hT
  obtain ⟨bb, hbb⟩ : ∃ bb, V0.heap.size = bb := ⟨_, rfl⟩
  rw [hbb] at hI
  have hr := BB.e_room 900 (by decide)
  go_wp2_with fail
  try rw [hbb]
  refine Bls.step (b_tick (n := 896) _ _ hI hr (by omega) hb) ?_
  rintro _ W1 ⟨⟨u0, rfl⟩, h1, b1⟩
  have hbz := hb1.trans b1.b
  have hTz := HZ.out.2.2.step hbz
  go_wp2_with fail
  refine (bcode_any W.heap.size bb _ W1 h1 hTz (by kernel_rfl) (Nat.le_of_ble_eq_true (by kernel_rfl)) (Nat.le_of_ble_eq_true (by kernel_rfl)) (Nat.le_of_ble_eq_true (by kernel_rfl))).mono ?_
  rintro e V9 ⟨⟨v, rfl, hO9⟩, hB9⟩
  go_wp2
  go_ret2
  exact ⟨⟨_, rfl, hO9.below hbz.size⟩, step_below hbz hB9⟩

set_option maxHeartbeats 4000000 in
theorem code_gslp ( threads base t arg : Int) (ht : 1 ≤ threads ∧ threads ≤ 8) (h0 : 0 ≤ t ∧ t < threads) (hb : 0 ≤ base ∧ base ≤ 4294960000) (ha : 0 ≤ arg ∧ arg ≤ 4294967295) (hmy : may15 12 0 0 0 6 threads t = true) (W : World) (hT : Tab W) (hO : ONam W) :
    Calls Tryd.prog 14 #[.agg #[.int .i64 12, .int .i64 0, .int .i64 0, .int .i64 0], .int .i64 6, .int .i64 threads, .int .i64 t, .int .u32 base, .int .u32 arg] W fun e W' => (∃ v, e = .returned (.tuple #[v, .bool true]) ∧ OutI W v (BB.gslp BB.e base (base + 1 + t)).out W') ∧ Below W.heap.size W W' := by
  have hq := Blk.new W 23 #[.int .i64 12, .int .i64 0, .int .i64 0, .int .i64 0]
  have hB := (Below.refl W.heap.size W).alloc (Nat.le_refl _) (.cells #[.int .i64 12, .int .i64 0, .int .i64 0, .int .i64 0] 23)
  have q0 := (hq.cell 0).trans rfl
  have q1 := (hq.cell 1).trans rfl
  have q2 := (hq.cell 2).trans rfl
  have q3 := (hq.cell 3).trans rfl
  have htt : t ≤ 1000 := by omega
  have cMy := (show Calls _ _ _ _ (fun e W' => e = .returned (.bool true) ∧ Below _ _ W') by have := mayG 12 0 0 0 6 threads t _ (hO.step hB); rw [hmy] at this; exact this)
  go_enter Tryd.func14, Tryd.ntmps14
  go_wp2_with fail
  refine cMy.mono ?_
  rintro e V0 ⟨rfl, hB0⟩
  clear cMy
  have hq0 := hq.below hB0 hq.lt
  have hb0 := step_below hB hB0
  clear q0 q1 q2 q3 hB hB0 hq
  have hI := BI.fresh (N0 := W.heap.size) (W := V0) hb0.size
  have hal := (Below.refl V0.heap.size V0).alloc (Nat.le_refl _) (.cells #[.slice none 0 0, .map none, .slice none 0 0, .bool false] 65)
  have hb1 := step_below hb0 hal
  have hqs := hq0.below hal hq0.lt
  have q0 := (hqs.cell 0).trans rfl
  have q1 := (hqs.cell 1).trans rfl
  have q2 := (hqs.cell 2).trans rfl
  have q3 := (hqs.cell 3).trans rfl
  clear hal hqs hq0
  have HZ := Lib.hid (And.intro hb0 (And.intro hb1 hT))
  clear hb0 hT
  obtain ⟨bb, hbb⟩ : ∃ bb, V0.heap.size = bb := ⟨_, rfl⟩
  rw [hbb] at hI
  have hr := BB.e_room 900 (by decide)
  go_wp2_with fail
  try rw [hbb]
  refine Bls.step (b_gslp (n := 896) _ _ hI hr (by omega) hb) ?_
  rintro _ W1 ⟨⟨u0, rfl⟩, h1, b1⟩
  have hbz := hb1.trans b1.b
  have hTz := HZ.out.2.2.step hbz
  go_wp2_with fail
  refine (bcode_any W.heap.size bb _ W1 h1 hTz (by kernel_rfl) (Nat.le_of_ble_eq_true (by kernel_rfl)) (Nat.le_of_ble_eq_true (by kernel_rfl)) (Nat.le_of_ble_eq_true (by kernel_rfl))).mono ?_
  rintro e V9 ⟨⟨v, rfl, hO9⟩, hB9⟩
  go_wp2
  go_ret2
  exact ⟨⟨_, rfl, hO9.below hbz.size⟩, step_below hbz hB9⟩

set_option maxHeartbeats 4000000 in
theorem code_gsig ( threads base t arg : Int) (ht : 1 ≤ threads ∧ threads ≤ 8) (h0 : 0 ≤ t ∧ t < threads) (hb : 0 ≤ base ∧ base ≤ 4294960000) (ha : 0 ≤ arg ∧ arg ≤ 4294967295) (hmy : may15 12 0 0 0 7 threads t = true) (W : World) (hT : Tab W) (hO : ONam W) :
    Calls Tryd.prog 14 #[.agg #[.int .i64 12, .int .i64 0, .int .i64 0, .int .i64 0], .int .i64 7, .int .i64 threads, .int .i64 t, .int .u32 base, .int .u32 arg] W fun e W' => (∃ v, e = .returned (.tuple #[v, .bool true]) ∧ OutI W v (BB.gsig BB.e base 1).out W') ∧ Below W.heap.size W W' := by
  have hq := Blk.new W 23 #[.int .i64 12, .int .i64 0, .int .i64 0, .int .i64 0]
  have hB := (Below.refl W.heap.size W).alloc (Nat.le_refl _) (.cells #[.int .i64 12, .int .i64 0, .int .i64 0, .int .i64 0] 23)
  have q0 := (hq.cell 0).trans rfl
  have q1 := (hq.cell 1).trans rfl
  have q2 := (hq.cell 2).trans rfl
  have q3 := (hq.cell 3).trans rfl
  have htt : t ≤ 1000 := by omega
  have cMy := (show Calls _ _ _ _ (fun e W' => e = .returned (.bool true) ∧ Below _ _ W') by have := mayG 12 0 0 0 7 threads t _ (hO.step hB); rw [hmy] at this; exact this)
  go_enter Tryd.func14, Tryd.ntmps14
  go_wp2_with fail
  refine cMy.mono ?_
  rintro e V0 ⟨rfl, hB0⟩
  clear cMy
  have hq0 := hq.below hB0 hq.lt
  have hb0 := step_below hB hB0
  clear q0 q1 q2 q3 hB hB0 hq
  have hI := BI.fresh (N0 := W.heap.size) (W := V0) hb0.size
  have hal := (Below.refl V0.heap.size V0).alloc (Nat.le_refl _) (.cells #[.slice none 0 0, .map none, .slice none 0 0, .bool false] 65)
  have hb1 := step_below hb0 hal
  have hqs := hq0.below hal hq0.lt
  have q0 := (hqs.cell 0).trans rfl
  have q1 := (hqs.cell 1).trans rfl
  have q2 := (hqs.cell 2).trans rfl
  have q3 := (hqs.cell 3).trans rfl
  clear hal hqs hq0
  have HZ := Lib.hid (And.intro hb0 (And.intro hb1 hT))
  clear hb0 hT
  obtain ⟨bb, hbb⟩ : ∃ bb, V0.heap.size = bb := ⟨_, rfl⟩
  rw [hbb] at hI
  have hr := BB.e_room 900 (by decide)
  go_wp2_with fail
  try rw [hbb]
  refine Bls.step (b_gsig (n := 894) _ _ hI hr (by omega) hb) ?_
  rintro _ W1 ⟨⟨u0, rfl⟩, h1, b1⟩
  have hbz := hb1.trans b1.b
  have hTz := HZ.out.2.2.step hbz
  go_wp2_with fail
  refine (bcode_any W.heap.size bb _ W1 h1 hTz (by kernel_rfl) (Nat.le_of_ble_eq_true (by kernel_rfl)) (Nat.le_of_ble_eq_true (by kernel_rfl)) (Nat.le_of_ble_eq_true (by kernel_rfl))).mono ?_
  rintro e V9 ⟨⟨v, rfl, hO9⟩, hB9⟩
  go_wp2
  go_ret2
  exact ⟨⟨_, rfl, hO9.below hbz.size⟩, step_below hbz hB9⟩

set_option maxHeartbeats 4000000 in
theorem code_gbro ( threads base t arg : Int) (ht : 1 ≤ threads ∧ threads ≤ 8) (h0 : 0 ≤ t ∧ t < threads) (hb : 0 ≤ base ∧ base ≤ 4294960000) (ha : 0 ≤ arg ∧ arg ≤ 4294967295) (hmy : may15 12 0 0 0 8 threads t = true) (W : World) (hT : Tab W) (hO : ONam W) :
    Calls Tryd.prog 14 #[.agg #[.int .i64 12, .int .i64 0, .int .i64 0, .int .i64 0], .int .i64 8, .int .i64 threads, .int .i64 t, .int .u32 base, .int .u32 arg] W fun e W' => (∃ v, e = .returned (.tuple #[v, .bool true]) ∧ OutI W v (BB.gsig BB.e base 4294967295).out W') ∧ Below W.heap.size W W' := by
  have hq := Blk.new W 23 #[.int .i64 12, .int .i64 0, .int .i64 0, .int .i64 0]
  have hB := (Below.refl W.heap.size W).alloc (Nat.le_refl _) (.cells #[.int .i64 12, .int .i64 0, .int .i64 0, .int .i64 0] 23)
  have q0 := (hq.cell 0).trans rfl
  have q1 := (hq.cell 1).trans rfl
  have q2 := (hq.cell 2).trans rfl
  have q3 := (hq.cell 3).trans rfl
  have htt : t ≤ 1000 := by omega
  have cMy := (show Calls _ _ _ _ (fun e W' => e = .returned (.bool true) ∧ Below _ _ W') by have := mayG 12 0 0 0 8 threads t _ (hO.step hB); rw [hmy] at this; exact this)
  go_enter Tryd.func14, Tryd.ntmps14
  go_wp2_with fail
  refine cMy.mono ?_
  rintro e V0 ⟨rfl, hB0⟩
  clear cMy
  have hq0 := hq.below hB0 hq.lt
  have hb0 := step_below hB hB0
  clear q0 q1 q2 q3 hB hB0 hq
  have hI := BI.fresh (N0 := W.heap.size) (W := V0) hb0.size
  have hal := (Below.refl V0.heap.size V0).alloc (Nat.le_refl _) (.cells #[.slice none 0 0, .map none, .slice none 0 0, .bool false] 65)
  have hb1 := step_below hb0 hal
  have hqs := hq0.below hal hq0.lt
  have q0 := (hqs.cell 0).trans rfl
  have q1 := (hqs.cell 1).trans rfl
  have q2 := (hqs.cell 2).trans rfl
  have q3 := (hqs.cell 3).trans rfl
  clear hal hqs hq0
  have HZ := Lib.hid (And.intro hb0 (And.intro hb1 hT))
  clear hb0 hT
  obtain ⟨bb, hbb⟩ : ∃ bb, V0.heap.size = bb := ⟨_, rfl⟩
  rw [hbb] at hI
  have hr := BB.e_room 900 (by decide)
  go_wp2_with fail
  try rw [hbb]
  refine Bls.step (b_gbro (n := 894) _ _ hI hr (by omega) hb) ?_
  rintro _ W1 ⟨⟨u0, rfl⟩, h1, b1⟩
  have hbz := hb1.trans b1.b
  have hTz := HZ.out.2.2.step hbz
  go_wp2_with fail
  refine (bcode_any W.heap.size bb _ W1 h1 hTz (by kernel_rfl) (Nat.le_of_ble_eq_true (by kernel_rfl)) (Nat.le_of_ble_eq_true (by kernel_rfl)) (Nat.le_of_ble_eq_true (by kernel_rfl))).mono ?_
  rintro e V9 ⟨⟨v, rfl, hO9⟩, hB9⟩
  go_wp2
  go_ret2
  exact ⟨⟨_, rfl, hO9.below hbz.size⟩, step_below hbz hB9⟩

set_option maxHeartbeats 4000000 in
theorem code_barM (N threads base t : Int) (ht : 1 ≤ threads ∧ threads ≤ 8) (h0 : 0 ≤ t ∧ t < threads) (hb : 0 ≤ base ∧ base ≤ 4294960000) (hN : 1 ≤ N ∧ N ≤ threads) (hs : ¬ N ≤ t) (W : World) (hT : Tab W) (hO : ONam W) :
    Calls Tryd.prog 14 #[.agg #[.int .i64 13, .int .i64 N, .int .i64 0, .int .i64 0], .int .i64 9, .int .i64 threads, .int .i64 t, .int .u32 base, .int .u32 N] W fun e W' => (∃ v, e = .returned (.tuple #[v, .bool true]) ∧ OutI W v (BB.gmeet BB.e base (N - 1)).out W') ∧ Below W.heap.size W W' := by
  have hq := Blk.new W 23 #[.int .i64 13, .int .i64 N, .int .i64 0, .int .i64 0]
  have hB := (Below.refl W.heap.size W).alloc (Nat.le_refl _) (.cells #[.int .i64 13, .int .i64 N, .int .i64 0, .int .i64 0] 23)
  have q0 := (hq.cell 0).trans rfl
  have q1 := (hq.cell 1).trans rfl
  have q2 := (hq.cell 2).trans rfl
  have q3 := (hq.cell 3).trans rfl
  have htt : t ≤ 1000 := by omega
  have cMy := may_bar N threads t hN ht h0 (W.alloc (.cells #[.int .i64 13, .int .i64 N, .int .i64 0, .int .i64 0] 23))
  go_enter Tryd.func14, Tryd.ntmps14
  go_wp2_with fail
  refine cMy.mono ?_
  rintro e V0 ⟨rfl, hB0⟩
  clear cMy
  have hq0 := hq.below hB0 hq.lt
  have hb0 := step_below hB hB0
  clear q0 q1 q2 q3 hB hB0 hq
  have hI := BI.fresh (N0 := W.heap.size) (W := V0) hb0.size
  have hal := (Below.refl V0.heap.size V0).alloc (Nat.le_refl _) (.cells #[.slice none 0 0, .map none, .slice none 0 0, .bool false] 65)
  have hb1 := step_below hb0 hal
  have hqs := hq0.below hal hq0.lt
  have q0 := (hqs.cell 0).trans rfl
  have q1 := (hqs.cell 1).trans rfl
  have q2 := (hqs.cell 2).trans rfl
  have q3 := (hqs.cell 3).trans rfl
  clear hal hqs hq0
  have HZ := Lib.hid (And.intro hb0 (And.intro hb1 hT))
  clear hb0 hT
  obtain ⟨bb, hbb⟩ : ∃ bb, V0.heap.size = bb := ⟨_, rfl⟩
  rw [hbb] at hI
  have hr := BB.e_room 900 (by decide)
  go_wp2_with fail
  try rw [hbb]
  refine Bls.step (b_barM (n := 877) N t base hI hr (by omega) (by omega) (by omega) hb) ?_
  rintro _ W1 ⟨⟨u0, rfl⟩, h1, b1⟩
  have hbz := hb1.trans b1.b
  have hTz := HZ.out.2.2.step hbz
  go_wp2_with fail
  refine (bcode_any W.heap.size bb _ W1 h1 hTz (by kernel_rfl) (Nat.le_of_ble_eq_true (by kernel_rfl)) (Nat.le_of_ble_eq_true (by kernel_rfl)) (Nat.le_of_ble_eq_true (by kernel_rfl))).mono ?_
  rintro e V9 ⟨⟨v, rfl, hO9⟩, hB9⟩
  go_wp2
  go_ret2
  exact ⟨⟨_, rfl, hO9.below hbz.size⟩, step_below hbz hB9⟩

set_option maxHeartbeats 2000000 in
theorem gate_no (k n a b call th t base arg : Int) (h : may15 k n a b call th t = true → k ≠ 12 ∧ k ≠ 13 ∧ k ≠ 15) (W : World) (hO : ONam W) :
    Calls Tryd.prog 14 #[.agg #[.int .i64 k, .int .i64 n, .int .i64 a, .int .i64 b], .int .i64 call, .int .i64 th, .int .i64 t, .int .u32 base, .int .u32 arg] W fun e W' => e = .returned (.tuple #[.slice none 0 0, .bool false]) ∧ Below W.heap.size W W' := by
  have hq := Blk.new W 23 #[.int .i64 k, .int .i64 n, .int .i64 a, .int .i64 b]
  have hB := (Below.refl W.heap.size W).alloc (Nat.le_refl _) (.cells #[.int .i64 k, .int .i64 n, .int .i64 a, .int .i64 b] 23)
  have q0 := (hq.cell 0).trans rfl
  have q1 := (hq.cell 1).trans rfl
  have q2 := (hq.cell 2).trans rfl
  have q3 := (hq.cell 3).trans rfl
  obtain ⟨m, hm⟩ : ∃ m, may15 k n a b call th t = m := ⟨_, rfl⟩
  have cM := mayG k n a b call th t _ (hO.step hB)
  rw [hm] at h cM
  have HH := Lib.hid h
  clear h hm hO
  go_enter Tryd.func14, Tryd.ntmps14
  go_wp2_with fail
  refine cM.mono ?_
  rintro e V0 ⟨rfl, hB0⟩
  have hq1 := hq.below hB0 hq.lt
  have hB1 := step_below hB hB0
  have hal := step_below hB1 ((Below.refl V0.heap.size V0).alloc (Nat.le_refl _) (.cells #[.slice none 0 0, .map none, .slice none 0 0, .bool false] 65))
  have hq2 := hq1.below ((Below.refl V0.heap.size V0).alloc (Nat.le_refl _) (.cells #[.slice none 0 0, .map none, .slice none 0 0, .bool false] 65)) hq1.lt
  have q0' := (hq2.cell 0).trans rfl
  clear q0 q1 q2 q3 hB hB0 hq hq1 hq2 cM
  cases m with
  | false =>
    go_wp2
    go_ret2
    exact ⟨rfl, hB1⟩
  | true =>
    obtain ⟨h1, h2, h3⟩ := HH.out rfl
    have k1 : (k == 12) = false := by simp [h1]
    have k2 : (k == 13) = false := by simp [h2]
    have k3 : (k == 15) = false := by simp [h3]
    clear HH h1 h2 h3
    go_wp2
    go_ret2
    exact ⟨rfl, hal⟩

end Go.Proofs.YtmhfpjnkjlhbpaaDoor

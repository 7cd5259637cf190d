/- seq.Code at what may be asked (printed by gen/bldf.py). seq: the closure that adds a call to a code: what a law's code in a captured variable comes to. seq: the closure that adds a call to a code, by its contract. -/
import Derived.Test.YtmhfpjnkjlhbpaaGreatDoorQb35
import Derived.Test.YtmhfpjnkjlhbpaaGreatDoorQb32
namespace Go.Proofs.YtmhfpjnkjlhbpaaGreatDoor
open Go.ChangeShapes Go.WideShapes Go.ChangeAt Go.RowKit Go.Deep
set_option linter.unusedVariables false
set_option maxRecDepth 100000
set_option linter.unusedSimpArgs false

theorem BI.fresh {N0 : Nat} {W : World} (hN : N0 ≤ W.heap.size) : BI N0 (W.alloc (.cells #[.slice none 0 0, .map none, .slice none 0 0, .bool false] 130)) W.heap.size BB.e :=
  ⟨_, _, none, Blk.new _ _ _, hN, ⟨rfl, .inl ⟨rfl, rfl⟩⟩, ⟨rfl, .inl ⟨rfl, rfl⟩⟩, rfl⟩
theorem BB.e_room (n : Nat) (h : n ≤ 1000) : BB.e.Room n := ⟨by show 0 + n ≤ _; omega, by show 0 + n ≤ _; omega, by show 0 + n ≤ _; omega⟩
theorem OutI.below {W0 W1 W' : World} {v : Value} {l : List Ins} (h : OutI W1 v l W') (hs : W0.heap.size ≤ W1.heap.size) : OutI W0 v l W' := by
  obtain ⟨og, cap, cs, h1, h2, h3, h4, h5, h6, h7⟩ := h
  exact ⟨og, cap, cs, h1, h2, h3, h4, h5, Nat.le_trans hs h6, h7⟩
theorem may_seq (n call threads t : Int) (hn : 1 ≤ n ∧ n ≤ 3) (ht : 1 ≤ threads ∧ threads ≤ 8) (h0 : 0 ≤ t ∧ t < threads) (hc : 1 ≤ call ∧ call ≤ 4) (W : World) : Calls Tryz.prog 52 #[.agg #[.int .i64 9, .int .i64 n, .int .i64 0, .int .i64 0], .int .i64 call, .int .i64 threads, .int .i64 t] W fun e W' => e = .returned (.bool true) ∧ Below W.heap.size W W' := by
  have e : mayB true [1, 2, 3, 4] call threads t = true := by
    unfold mayB
    rw [decide_eq_true h0]
    have : call = 1 ∨ call = 2 ∨ call = 3 ∨ call = 4 := by omega
    rcases this with rfl | rfl | rfl | rfl <;> rfl
  have := may_any 9 n 0 0 true [1, 2, 3, 4] (by decide) call threads t W (fun _ => True) (fun _ _ _ _ => trivial) trivial (fun W1 _ => right_seq n threads hn ht W1) (fun W1 _ => calls_seq W1)
  rw [e] at this
  exact this

theorem sreads_places (b : BB) (base : Int) : ∀ k, (b.sreads base k).places = b.places := by
  intro k
  induction k with
  | zero => rfl
  | succ k ih => rw [BB.sreads_succ]; exact ih

set_option maxHeartbeats 4000000 in
theorem code_acq (n : Nat) (threads base t arg : Int) (hn : 1 ≤ n ∧ n ≤ 3) (ht : 1 ≤ threads ∧ threads ≤ 8) (h0 : 0 ≤ t ∧ t < threads) (hb : 0 ≤ base ∧ base ≤ 4294960000) (ha : 0 ≤ arg) (W : World) (hT : Tab W) :
    Calls Tryz.prog 40 #[.agg #[.int .i64 9, .int .i64 (n : Int), .int .i64 0, .int .i64 0], .int .i64 1, .int .i64 threads, .int .i64 t, .int .u32 base, .int .u32 arg] W fun e W' => (∃ v, e = .returned (.tuple #[v, .bool true]) ∧ OutI W v (((BB.e.claim (base + 1) t).sbegin base).close).out W') ∧ Below W.heap.size W W' := by
  have hq := Blk.new W 46 #[.int .i64 9, .int .i64 (n : Int), .int .i64 0, .int .i64 0]
  have hB := (Below.refl W.heap.size W).alloc (Nat.le_refl _) (.cells #[.int .i64 9, .int .i64 (n : Int), .int .i64 0, .int .i64 0] 46)
  have q0 := (hq.cell 0).trans rfl
  have q1 := (hq.cell 1).trans rfl
  have q2 := (hq.cell 2).trans rfl
  have q3 := (hq.cell 3).trans rfl
  have h3 : (n : Int) ≤ 3 := by omega
  have htt : t ≤ 1000 := by omega
  go_enter Tryz.func40, Tryz.ntmps40
  go_wp2_with fail
  refine (may_seq (n : Int) 1 threads t (by omega) ht h0 (by omega) _).mono ?_
  rintro e V0 ⟨rfl, hB0⟩
  have hq0 := hq.below hB0 hq.lt
  have hb0 := step_below hB hB0
  have q1' := (hq0.cell 1).trans rfl
  clear q0 q1 q2 q3 hB hB0 hq
  have hI := BI.fresh (N0 := W.heap.size) (W := V0) hb0.size
  have hal := (Below.refl V0.heap.size V0).alloc (Nat.le_refl _) (.cells #[.slice none 0 0, .map none, .slice none 0 0, .bool false] 130)
  have hb1 := step_below hb0 hal
  have q1'' := ((hq0.below hal hq0.lt).cell 1).trans rfl
  have hqs := hq0.below hal hq0.lt
  have hlts : hqs = hqs := rfl
  clear hal hlts
  have HZ := Lib.hid (And.intro hb0 (And.intro hb1 (And.intro hT hqs)))
  clear hb0 hqs hT
  obtain ⟨bb, hbb⟩ : ∃ bb, V0.heap.size = bb := ⟨_, rfl⟩
  rw [hbb] at hI
  have hr := BB.e_room 900 (by decide)
  go_wp2_with fail
  try rw [hbb]
  refine Bls.step (b_claim (n := 893) _ _ hI hr (by omega) rfl) ?_
  rintro _ W1 ⟨⟨u0, rfl⟩, h1, b1⟩
  have r1 := BB.Room.claim (n := 893) hr (base + 1) t
  go_wp2_with fail
  refine Bls.step (b_sbegin (n := 887) _ h1 r1 hb rfl) ?_
  rintro _ W2 ⟨⟨u1, rfl⟩, h2, b2⟩
  have r2 := BB.Room.sbegin (n := 887) r1 base
  go_wp2_with fail
  refine Bls.step (b_close (n := 885)  h2 r2 rfl) ?_
  rintro _ W3 ⟨⟨u2, rfl⟩, h3, b3⟩
  have r3 := BB.Room.close (n := 885) r2
  have hbz := hb1.trans (b1.trans (b2.trans (b3))).b
  have hTz := HZ.out.2.2.1.step hbz
  go_wp2_with fail
  refine (bcode_any W.heap.size bb _ W3 h3 hTz ?_ (by have := r3.2.1; omega) (by have := r3.1; omega) (by first | exact Nat.zero_lt_succ _ | simp [BB.sread, BB.sread1, BB.sreads, BB.ins, BB.go, BB.at, BB.close])).mono ?_
  · rfl
  rintro e V9 ⟨⟨v, rfl, hO⟩, hB9⟩
  go_wp2
  go_ret2
  exact ⟨⟨_, rfl, hO.below hbz.size⟩, step_below hbz hB9⟩

set_option maxHeartbeats 4000000 in
theorem code_rel (n : Nat) (threads base t arg : Int) (hn : 1 ≤ n ∧ n ≤ 3) (ht : 1 ≤ threads ∧ threads ≤ 8) (h0 : 0 ≤ t ∧ t < threads) (hb : 0 ≤ base ∧ base ≤ 4294960000) (ha : 0 ≤ arg) (W : World) (hT : Tab W) :
    Calls Tryz.prog 40 #[.agg #[.int .i64 9, .int .i64 (n : Int), .int .i64 0, .int .i64 0], .int .i64 2, .int .i64 threads, .int .i64 t, .int .u32 base, .int .u32 arg] W fun e W' => (∃ v, e = .returned (.tuple #[v, .bool true]) ∧ OutI W v ((((BB.e.prove (base + 1) t).smore base).zero (base + 1)).close).out W') ∧ Below W.heap.size W W' := by
  have hq := Blk.new W 46 #[.int .i64 9, .int .i64 (n : Int), .int .i64 0, .int .i64 0]
  have hB := (Below.refl W.heap.size W).alloc (Nat.le_refl _) (.cells #[.int .i64 9, .int .i64 (n : Int), .int .i64 0, .int .i64 0] 46)
  have q0 := (hq.cell 0).trans rfl
  have q1 := (hq.cell 1).trans rfl
  have q2 := (hq.cell 2).trans rfl
  have q3 := (hq.cell 3).trans rfl
  have h3 : (n : Int) ≤ 3 := by omega
  have htt : t ≤ 1000 := by omega
  go_enter Tryz.func40, Tryz.ntmps40
  go_wp2_with fail
  refine (may_seq (n : Int) 2 threads t (by omega) ht h0 (by omega) _).mono ?_
  rintro e V0 ⟨rfl, hB0⟩
  have hq0 := hq.below hB0 hq.lt
  have hb0 := step_below hB hB0
  have q1' := (hq0.cell 1).trans rfl
  clear q0 q1 q2 q3 hB hB0 hq
  have hI := BI.fresh (N0 := W.heap.size) (W := V0) hb0.size
  have hal := (Below.refl V0.heap.size V0).alloc (Nat.le_refl _) (.cells #[.slice none 0 0, .map none, .slice none 0 0, .bool false] 130)
  have hb1 := step_below hb0 hal
  have q1'' := ((hq0.below hal hq0.lt).cell 1).trans rfl
  have hqs := hq0.below hal hq0.lt
  have hlts : hqs = hqs := rfl
  clear hal hlts
  have HZ := Lib.hid (And.intro hb0 (And.intro hb1 (And.intro hT hqs)))
  clear hb0 hqs hT
  obtain ⟨bb, hbb⟩ : ∃ bb, V0.heap.size = bb := ⟨_, rfl⟩
  rw [hbb] at hI
  have hr := BB.e_room 900 (by decide)
  go_wp2_with fail
  try rw [hbb]
  refine Bls.step (b_prove (n := 893) _ _ hI hr (by omega) rfl) ?_
  rintro _ W1 ⟨⟨u0, rfl⟩, h1, b1⟩
  have r1 := BB.Room.prove (n := 893) hr (base + 1) t
  go_wp2_with fail
  refine Bls.step (b_smore (n := 891) _ h1 r1 hb) ?_
  rintro _ W2 ⟨⟨u1, rfl⟩, h2, b2⟩
  have r2 := BB.Room.smore (n := 891) r1 base
  go_wp2_with fail
  refine Bls.step (b_zero (n := 889) _ h2 r2) ?_
  rintro _ W3 ⟨⟨u2, rfl⟩, h3, b3⟩
  have r3 := BB.Room.zero (n := 889) r2 (base + 1)
  go_wp2_with fail
  refine Bls.step (b_close (n := 887)  h3 r3 rfl) ?_
  rintro _ W4 ⟨⟨u3, rfl⟩, h4, b4⟩
  have r4 := BB.Room.close (n := 887) r3
  have hbz := hb1.trans (b1.trans (b2.trans (b3.trans (b4)))).b
  have hTz := HZ.out.2.2.1.step hbz
  go_wp2_with fail
  refine (bcode_any W.heap.size bb _ W4 h4 hTz ?_ (by have := r4.2.1; omega) (by have := r4.1; omega) (by first | exact Nat.zero_lt_succ _ | simp [BB.sread, BB.sread1, BB.sreads, BB.ins, BB.go, BB.at, BB.close])).mono ?_
  · rfl
  rintro e V9 ⟨⟨v, rfl, hO⟩, hB9⟩
  go_wp2
  go_ret2
  exact ⟨⟨_, rfl, hO.below hbz.size⟩, step_below hbz hB9⟩

set_option maxHeartbeats 4000000 in
theorem code_put (n : Nat) (threads base t arg : Int) (hn : 1 ≤ n ∧ n ≤ 3) (ht : 1 ≤ threads ∧ threads ≤ 8) (h0 : 0 ≤ t ∧ t < threads) (hb : 0 ≤ base ∧ base ≤ 4294960000) (ha : 0 ≤ arg ∧ arg < n) (W : World) (hT : Tab W) :
    Calls Tryz.prog 40 #[.agg #[.int .i64 9, .int .i64 (n : Int), .int .i64 0, .int .i64 0], .int .i64 4, .int .i64 threads, .int .i64 t, .int .u32 base, .int .u32 arg] W fun e W' => (∃ v, e = .returned (.tuple #[v, .bool true]) ∧ OutI W v ((((BB.e.prove (base + 1) t).ins ⟨17, 0, 8, 0, base + 2 + arg⟩)).close).out W') ∧ Below W.heap.size W W' := by
  have hq := Blk.new W 46 #[.int .i64 9, .int .i64 (n : Int), .int .i64 0, .int .i64 0]
  have hB := (Below.refl W.heap.size W).alloc (Nat.le_refl _) (.cells #[.int .i64 9, .int .i64 (n : Int), .int .i64 0, .int .i64 0] 46)
  have q0 := (hq.cell 0).trans rfl
  have q1 := (hq.cell 1).trans rfl
  have q2 := (hq.cell 2).trans rfl
  have q3 := (hq.cell 3).trans rfl
  have h3 : (n : Int) ≤ 3 := by omega
  have htt : t ≤ 1000 := by omega
  go_enter Tryz.func40, Tryz.ntmps40
  go_wp2_with fail
  refine (may_seq (n : Int) 4 threads t (by omega) ht h0 (by omega) _).mono ?_
  rintro e V0 ⟨rfl, hB0⟩
  have hq0 := hq.below hB0 hq.lt
  have hb0 := step_below hB hB0
  have q1' := (hq0.cell 1).trans rfl
  clear q0 q1 q2 q3 hB hB0 hq
  have hI := BI.fresh (N0 := W.heap.size) (W := V0) hb0.size
  have hal := (Below.refl V0.heap.size V0).alloc (Nat.le_refl _) (.cells #[.slice none 0 0, .map none, .slice none 0 0, .bool false] 130)
  have hb1 := step_below hb0 hal
  have q1'' := ((hq0.below hal hq0.lt).cell 1).trans rfl
  have hqs := hq0.below hal hq0.lt
  have hlts : hqs = hqs := rfl
  clear hal hlts
  have HZ := Lib.hid (And.intro hb0 (And.intro hb1 (And.intro hT hqs)))
  clear hb0 hqs hT
  obtain ⟨bb, hbb⟩ : ∃ bb, V0.heap.size = bb := ⟨_, rfl⟩
  rw [hbb] at hI
  have hr := BB.e_room 900 (by decide)
  go_wp2_with fail
  try rw [hbb]
  refine Bls.step (b_prove (n := 893) _ _ hI hr (by omega) rfl) ?_
  rintro _ W1 ⟨⟨u0, rfl⟩, h1, b1⟩
  have r1 := BB.Room.prove (n := 893) hr (base + 1) t
  go_wp2_with fail
  refine Bls.step (b_ask (n := 892) _ _ _ h1 r1) ?_
  rintro _ W2 ⟨⟨u1, rfl⟩, h2, b2⟩
  have r2 := BI.rins (n := 892) h2 r1
  go_wp2_with fail
  refine Bls.step (b_close (n := 890)  h2 r2 rfl) ?_
  rintro _ W3 ⟨⟨u2, rfl⟩, h3, b3⟩
  have r3 := BB.Room.close (n := 890) r2
  have hbz := hb1.trans (b1.trans (b2.trans (b3))).b
  have hTz := HZ.out.2.2.1.step hbz
  go_wp2_with fail
  refine (bcode_any W.heap.size bb _ W3 h3 hTz ?_ (by have := r3.2.1; omega) (by have := r3.1; omega) (by first | exact Nat.zero_lt_succ _ | simp [BB.sread, BB.sread1, BB.sreads, BB.ins, BB.go, BB.at, BB.close])).mono ?_
  · rfl
  rintro e V9 ⟨⟨v, rfl, hO⟩, hB9⟩
  go_wp2
  go_ret2
  exact ⟨⟨_, rfl, hO.below hbz.size⟩, step_below hbz hB9⟩

set_option maxHeartbeats 4000000 in
theorem code_read (n : Nat) (threads base t arg : Int) (hn : 1 ≤ n ∧ n ≤ 3) (ht : 1 ≤ threads ∧ threads ≤ 8) (h0 : 0 ≤ t ∧ t < threads) (hb : 0 ≤ base ∧ base ≤ 4294960000) (ha : 0 ≤ arg) (W : World) (hT : Tab W) :
    Calls Tryz.prog 40 #[.agg #[.int .i64 9, .int .i64 (n : Int), .int .i64 0, .int .i64 0], .int .i64 3, .int .i64 threads, .int .i64 t, .int .u32 base, .int .u32 arg] W fun e W' => (∃ v, e = .returned (.tuple #[v, .bool true]) ∧ OutI W v ((BB.e.sread base n).close).out W') ∧ Below W.heap.size W W' := by
  have hq := Blk.new W 46 #[.int .i64 9, .int .i64 (n : Int), .int .i64 0, .int .i64 0]
  have hB := (Below.refl W.heap.size W).alloc (Nat.le_refl _) (.cells #[.int .i64 9, .int .i64 (n : Int), .int .i64 0, .int .i64 0] 46)
  have q0 := (hq.cell 0).trans rfl
  have q1 := (hq.cell 1).trans rfl
  have q2 := (hq.cell 2).trans rfl
  have q3 := (hq.cell 3).trans rfl
  have h3 : (n : Int) ≤ 3 := by omega
  have htt : t ≤ 1000 := by omega
  go_enter Tryz.func40, Tryz.ntmps40
  go_wp2_with fail
  refine (may_seq (n : Int) 3 threads t (by omega) ht h0 (by omega) _).mono ?_
  rintro e V0 ⟨rfl, hB0⟩
  have hq0 := hq.below hB0 hq.lt
  have hb0 := step_below hB hB0
  have q1' := (hq0.cell 1).trans rfl
  clear q0 q1 q2 q3 hB hB0 hq
  have hI := BI.fresh (N0 := W.heap.size) (W := V0) hb0.size
  have hal := (Below.refl V0.heap.size V0).alloc (Nat.le_refl _) (.cells #[.slice none 0 0, .map none, .slice none 0 0, .bool false] 130)
  have hb1 := step_below hb0 hal
  have q1'' := ((hq0.below hal hq0.lt).cell 1).trans rfl
  have hqs := hq0.below hal hq0.lt
  have hlts : hqs = hqs := rfl
  clear hal hlts
  have HZ := Lib.hid (And.intro hb0 (And.intro hb1 (And.intro hT hqs)))
  clear hb0 hqs hT
  obtain ⟨bb, hbb⟩ : ∃ bb, V0.heap.size = bb := ⟨_, rfl⟩
  rw [hbb] at hI
  have hr := BB.e_room 900 (by decide)
  go_wp2_with fail
  try rw [hbb]
  refine Bls.step (b_sread (n := 15) (k := n) _ hI (hr.mono (by omega)) hb (by omega) rfl) ?_
  rintro _ W1 ⟨⟨u0, rfl⟩, h1, b1⟩
  have r1 := BB.Room.sread (n := 15) (k := n) (hr.mono (by omega)) base
  go_wp2_with fail
  refine Bls.step (b_close (n := 13)  h1 r1 (by unfold BB.sread BB.go BB.ins; show List.lookup n_end ((BB.e.sread1 base).sreads base n).places = none; rw [sreads_places]; rfl)) ?_
  rintro _ W2 ⟨⟨u1, rfl⟩, h2, b2⟩
  have r2 := BB.Room.close (n := 13) r1
  have hbz := hb1.trans (b1.trans (b2)).b
  have hTz := HZ.out.2.2.1.step hbz
  go_wp2_with fail
  refine (bcode_any W.heap.size bb _ W2 h2 hTz ?_ (by have := r2.2.1; omega) (by have := r2.1; omega) (by first | exact Nat.zero_lt_succ _ | simp [BB.sread, BB.sread1, BB.sreads, BB.ins, BB.go, BB.at, BB.close])).mono ?_
  · have : n = 1 ∨ n = 2 ∨ n = 3 := by omega
    rcases this with rfl | rfl | rfl <;> rfl
  rintro e V9 ⟨⟨v, rfl, hO⟩, hB9⟩
  go_wp2
  go_ret2
  exact ⟨⟨_, rfl, hO.below hbz.size⟩, step_below hbz hB9⟩

end Go.Proofs.YtmhfpjnkjlhbpaaGreatDoor
namespace Go.Proofs.YtmhfpjnkjlhbpaaGreatDoor
open Go.ChangeShapes Go.WideShapes Go.ChangeAt Go.RowKit Go.Deep
set_option linter.unusedVariables false
set_option maxRecDepth 100000
set_option linter.unusedSimpArgs false

structure AX (W0 W : World) (okb : Nat) (v : Value) (A : Option Addr) (N c : Nat) (L : List Ins) : Prop where
  n : N = L.length
  own : W.ownsRow W0.heap.size 75 5 (.slice A N c) N (L.flatMap Ins.cells)
  box : Blk W W0.heap.size 50 #[v]
  okx : Blk W okb 4 #[.bool true]
  okl : 2 ≤ okb ∧ okb < W0.heap.size
  far : W0.grownBy W (some okb)
  tab0 : Tab W0
section
variable {W0 W W' : World} {okb : Nat} {v : Value} {A : Option Addr} {N c : Nat} {L : List Ins}
theorem AX.below2 (h : AX W0 W okb v A N c L) : Below 2 W0 W :=
  { os := h.far.os, tape := h.far.tape, output := h.far.output, size := h.far.size, block := fun i hi => h.far.block i (by have := h.okl; omega) (fun e => by have := Option.some.inj e; have := h.okl.1; omega) }
theorem AX.tab (h : AX W0 W okb v A N c L) : Tab W := h.tab0.below h.below2 (Nat.le_refl _)
theorem AX.lt (h : AX W0 W okb v A N c L) : W0.heap.size < W.heap.size := h.box.lt
theorem AX.step (h : AX W0 W okb v A N c L) (hb : Below W.heap.size W W') : AX W0 W' okb v A N c L :=
  ⟨h.n, own_below h.own (Nat.le_refl _) hb, h.box.below hb h.box.lt, h.okx.below hb h.okx.lt, h.okl, grown_below h.far hb, h.tab0⟩
theorem AX.all (h : AX W0 W okb v A N c L) (h0 : Blk W0 okb 4 #[.bool true]) : Below W0.heap.size W0 W :=
  { os := h.far.os, tape := h.far.tape, output := h.far.output, size := h.far.size, block := fun i hi => by
      by_cases e : i = okb
      · rw [e]; exact h.okx.trans h0.symm
      · exact h.far.block i hi (fun q => e (Option.some.inj q)) }
theorem AX.cw (h : AX W0 W okb v A N c L) (h0 : Blk W0 okb 4 #[.bool true]) : CW W0 W A N c L := ⟨h.n, h.own, h.all h0⟩
theorem AX.old {b : Nat} {t : TypeId} {cs : Array Value} (h : AX W0 W okb v A N c L) (hb : Blk W0 b t cs) (hne : b ≠ okb) : Blk W b t cs := hb.grown h.far (fun e => hne (Option.some.inj e))
theorem AX.start (W0 : World) {okb : Nat} (ho : Blk W0 okb 4 #[.bool true]) (h2 : 2 ≤ okb) (hT : Tab W0) : AX W0 (W0.alloc (.cells #[.slice none 0 0] 50)) okb (.slice none 0 0) none 0 0 [] :=
  ⟨rfl, ⟨rfl, .inl ⟨rfl, rfl⟩⟩, Blk.new _ _ _, ho.alloc _, ⟨h2, ho.lt⟩, grown_below ⟨rfl, rfl, rfl, Nat.le_refl _, fun _ _ _ => rfl⟩ ((Below.refl W0.heap.size W0).alloc (Nat.le_refl _) _), hT⟩
theorem AX.set (h : AX W0 W okb v A N c L) (u : Value) : AX W0 (W.setCell ⟨W0.heap.size, 0, none⟩ u) okb u A N c L :=
  ⟨h.n, row_grown h.own (set_only u) (row_ne h.box h.own (by decide)), h.box.set_ 0 u, h.okx.far (by have := h.okl.2; show okb ≠ W0.heap.size; omega) u, h.okl, grown_row h.far (set_only u) (fun g e => .inl (by rw [← Option.some.inj e]; exact Nat.le_refl _)), h.tab0⟩
theorem AX.setOk (h : AX W0 W okb v A N c L) : AX W0 (W.setCell ⟨okb, 0, none⟩ (.bool true)) okb v A N c L :=
  ⟨h.n, row_grown h.own (set_only _) (row_ne h.okx h.own (by decide)), h.box.far (by have := h.okl.2; show W0.heap.size ≠ okb; omega) _, h.okx.set_ 0 _, h.okl, grown_row h.far (set_only _) (fun g e => .inr e), h.tab0⟩
theorem AX.app {ops : Array Oper} {rest : List Oper} {o : Oper} {a : Act} {Q : Exit → Act → World → Prop} (h : AX W0 W okb v A N c L) (hgd : o.guard = none) (s x : Operand)
    (ho : o.op = .call { callee := .builtin .append, args := #[s, x], argTypes := #[50, 50] }) (l2 : List Ins) (m M cx : Nat) (hm : l2.length = m) (hM : M = N + m) (hs : a.eval s = .slice A N c) {Ax : Option Addr} (hx : a.eval x = .slice Ax m cx)
    (hr : Sl W Ax (m * 5) (fun k => (l2.flatMap Ins.cells).getD k undef)) (hb : M ≤ 1000000)
    (K : ∀ A' c' w', AX W0 w' okb v A' M c' (L ++ l2) → (∀ b t cs, Blk W b t cs → some b ≠ (Value.slice A N c).ownBlock → Blk w' b t cs) → wpList Tryz.prog ops Q rest (a.put o.dst (.slice A' M c')) w') : wpList Tryz.prog ops Q (o :: rest) a W := by
  have hn := h.n
  subst hn hm
  refine wpList_append_ins hgd s x ho W0.heap.size (.slice A L.length c) L l2 hs h.own Ax cx hx hr (by omega) (Nat.le_of_lt h.lt) ?_
  intro A' c' w' h1 h2 h3
  have e : (L ++ l2).length = M := by rw [List.length_append]; exact hM.symm
  rw [e] at h1 ⊢
  exact K A' c' w' ⟨e.symm, h1, h.box.grown h2 (row_ne h.box h.own (by decide)), h.okx.grown h2 (row_ne h.okx h.own (by decide)), h.okl, grown_row h.far h2 (fun g e => .inl (own_in h.own g e).1), h.tab0⟩ (fun b t cs hb hne => hb.grown h2 hne)
theorem AX.app1 {ops : Array Oper} {rest : List Oper} {o : Oper} {a : Act} {Q : Exit → Act → World → Prop} (h : AX W0 W okb v A N c L) (i : Ins) (M g : Nat) (hM : M = N + 1) (hg : W.heap.size = g) (hgd : o.guard = none) (s x : Operand)
    (ho : o.op = .call { callee := .builtin .append, args := #[s, x], argTypes := #[50, 50] }) (hs : a.eval s = .slice A N c) (hx : a.eval x = .slice (some ⟨g, 0, none⟩) 1 1) (hb : M ≤ 1000000)
    (K : ∀ A' c' w', AX W0 w' okb v A' M c' (L ++ [i]) → (∀ b t cs, Blk W b t cs → some b ≠ (Value.slice A N c).ownBlock → Blk w' b t cs) → wpList Tryz.prog ops Q rest (a.put o.dst (.slice A' M c')) w') : wpList Tryz.prog ops Q (o :: rest) a (W.alloc (.cells i.cells.toArray 75)) :=
  (h.step ((Below.refl W.heap.size W).alloc (Nat.le_refl _) _)).app hgd s x ho [i] 1 M 1 rfl hM hs hx (by subst hg; exact sl_one W i) hb (fun A' c' w' q1 q2 => K A' c' w' q1 (fun b t cs hb => q2 b t cs (hb.alloc _)))
theorem sl_three (W : World) (x y z : Ins) : Sl (W.alloc (.cells (x.cells ++ (y.cells ++ z.cells)).toArray 75)) (some ⟨W.heap.size, 0, none⟩) (3 * 5) (fun k => ([x, y, z].flatMap Ins.cells).getD k undef) :=
  sl_ins (l := [x, y, z]) (cap := 0) (Blk.new _ _ _) fun i hi j u hu => by
    have hi' : i < 3 := hi
    obtain rfl | rfl | rfl : i = 0 ∨ i = 1 ∨ i = 2 := by omega
    · have hj : j < 5 := (List.getElem?_eq_some_iff.1 hu).1
      obtain rfl | rfl | rfl | rfl | rfl : j = 0 ∨ j = 1 ∨ j = 2 ∨ j = 3 ∨ j = 4 := by omega
      all_goals exact hu
    · have hj : j < 5 := (List.getElem?_eq_some_iff.1 hu).1
      obtain rfl | rfl | rfl | rfl | rfl : j = 0 ∨ j = 1 ∨ j = 2 ∨ j = 3 ∨ j = 4 := by omega
      all_goals exact hu
    · have hj : j < 5 := (List.getElem?_eq_some_iff.1 hu).1
      obtain rfl | rfl | rfl | rfl | rfl : j = 0 ∨ j = 1 ∨ j = 2 ∨ j = 3 ∨ j = 4 := by omega
      all_goals exact hu
theorem AX.app3 {ops : Array Oper} {rest : List Oper} {o : Oper} {a : Act} {Q : Exit → Act → World → Prop} (h : AX W0 W okb v A N c L) (x1 x2 x3 : Ins) (M g : Nat) (hM : M = N + 3) (hg : W.heap.size = g) (hgd : o.guard = none) (s x : Operand)
    (ho : o.op = .call { callee := .builtin .append, args := #[s, x], argTypes := #[50, 50] }) (hs : a.eval s = .slice A N c) (hx : a.eval x = .slice (some ⟨g, 0, none⟩) 3 3) (hb : M ≤ 1000000)
    (K : ∀ A' c' w', AX W0 w' okb v A' M c' (L ++ [x1, x2, x3]) → wpList Tryz.prog ops Q rest (a.put o.dst (.slice A' M c')) w') : wpList Tryz.prog ops Q (o :: rest) a (W.alloc (.cells (x1.cells ++ (x2.cells ++ x3.cells)).toArray 75)) :=
  (h.step ((Below.refl W.heap.size W).alloc (Nat.le_refl _) _)).app hgd s x ho [x1, x2, x3] 3 M 3 rfl hM hs hx (by subst hg; exact sl_three W x1 x2 x3) hb (fun A' c' w' q1 _ => K A' c' w' q1)
end
end Go.Proofs.YtmhfpjnkjlhbpaaGreatDoor
namespace Go.Proofs.YtmhfpjnkjlhbpaaGreatDoor
open Go.ChangeShapes Go.WideShapes Go.ChangeAt Go.RowKit Go.Deep
set_option linter.unusedVariables false
set_option maxRecDepth 100000
set_option linter.unusedSimpArgs false

theorem AX.drew {W0 W : World} {okb : Nat} {v : Value} {A : Option Addr} {N c : Nat} {L : List Ins} (h : AX W0 W okb v A N c L) : AX W0 W.drew okb v A N c L := h.step (below_drewB W)
theorem wp_append_ins {w : World} {o : Oper} {a : Act} {K : Act → World → Prop} {Q : Exit → Act → World → Prop} (s x : Operand)
    (ho : o.op = .call { callee := .builtin .append, args := #[s, x], argTypes := #[50, 50] }) (base : Nat) (v : Value) (l l2 : List Ins) (hs : a.eval s = v) (hown : w.ownsRow base 75 5 v l.length (l.flatMap Ins.cells))
    (A : Option Addr) (c : Nat) (hx : a.eval x = .slice A l2.length c) (hr : Sl w A (l2.length * 5) (fun k => (l2.flatMap Ins.cells).getD k undef)) (hb : l.length + l2.length ≤ 1000000) (hbase : base ≤ w.heap.size)
    (h : ∀ A' c' w', w'.ownsRow base 75 5 (.slice A' (l ++ l2).length c') (l ++ l2).length ((l ++ l2).flatMap Ins.cells) → w.grownBy w' v.ownBlock → Below base w w' → K (a.put o.dst (.slice A' (l ++ l2).length c')) w') : o.wp Tryz.prog a w K Q := by
  obtain ⟨i0, hi, hy0, hy1, hy2⟩ := info_parts insB_info5
  refine wp_append_sl w s x 50 ho base 75 i0 _ 5 40 Tryz.underlying50 hi hy0 hy1 hy2 rfl (by omega) v l.length _ hs hown A l2.length c (fun k => (l2.flatMap Ins.cells).getD k undef) hx hr (ins_cells_one l2) (by unfold maxLen; omega) (by omega) hbase ?_
  intro v' w' h1 h2 _
  have hl2 : (l2.flatMap Ins.cells).length = l2.length * 5 := by
    clear hr hb hx h h1 h2
    induction l2 with
    | nil => rfl
    | cons y l2 ih => rw [List.flatMap_cons, List.length_append, ih]; show 5 + _ = _; rw [List.length_cons]; omega
  rw [range_getD _ _ hl2, ← List.flatMap_append] at h1
  have hw := below_of_grown hbase h2 fun g e => (own_in hown g e).1
  rw [show l.length + l2.length = (l ++ l2).length from by simp] at h1
  obtain ⟨A', c', rfl, _, _⟩ := own_cap h1
  exact h A' c' w' h1 h2 hw
theorem AX.appO {W0 W : World} {okb : Nat} {v : Value} {A : Option Addr} {N c : Nat} {L : List Ins} {o : Oper} {a : Act} {K : Act → World → Prop} {Q : Exit → Act → World → Prop} {g : Nat} {cs : Array Value} {m : Nat} {F : Nat → Ins} (h : AX W0 W okb v A N c L) (hb5 : Blk W g 75 cs) (hin : ∀ i, i < m → InsAt cs i (F i)) (C : List Ins) (hC : C = (List.range m).map F) (M : Nat) (hM : M = N + m) (s x : Operand)
    (ho : o.op = .call { callee := .builtin .append, args := #[s, x], argTypes := #[50, 50] }) (hs : a.eval s = .slice A N c) (hx : a.eval x = .slice (some ⟨g, 0, none⟩) m m) (hb : M ≤ 1000000)
    (K' : ∀ A' c' w', AX W0 w' okb v A' M c' (L ++ C) → K (a.put o.dst (.slice A' M c')) w') : o.wp Tryz.prog a W K Q := by
  have hl : C.length = m := by rw [hC]; simp
  have hs5 := sl_ins (l := C) (cap := 0) hb5 (fun i hi => by
    have hi' : i < m := by omega
    have e : C.getD i default = F i := by rw [hC]; simp [List.getD_eq_getElem?_getD, List.getElem?_map, List.getElem?_range hi']
    rw [e]; exact hin i hi')
  have hn := h.n
  clear hC
  subst hl hn
  refine wp_append_ins s x ho W0.heap.size (.slice A L.length c) L C hs h.own (some ⟨g, 0, none⟩) C.length hx hs5 (by omega) (Nat.le_of_lt h.lt) ?_
  intro A' c' w' h1 h2 h3
  have e : (L ++ C).length = M := by rw [List.length_append]; exact hM.symm
  rw [e] at h1 ⊢
  exact K' A' c' w' ⟨e.symm, h1, h.box.grown h2 (row_ne h.box h.own (by decide)), h.okx.grown h2 (row_ne h.okx h.own (by decide)), h.okl, grown_row h.far h2 (fun g e => .inl (own_in h.own g e).1), h.tab0⟩
set_option maxHeartbeats 4000000 in
theorem seqAdd_any (site : Nat) (hs : site ≤ 3) (call arg : Int) (C : List Ins) (m n : Nat) (th t : Int) (hC : C.length = m) (hok : ∀ x ∈ C, x.Ok) (hm : m ≤ 100)
    (hcode : ∀ W : World, Tab W → Calls Tryz.prog 40 #[.agg #[.int .i64 9, .int .i64 (n : Int), .int .i64 0, .int .i64 0], .int .i64 call, .int .i64 th, .int .i64 t, .int .u32 16, .int .u32 arg] W fun e W' => (∃ v, e = .returned (.tuple #[v, .bool true]) ∧ OutI W v C W') ∧ Below W.heap.size W W')
    (W0 W : World) (okb ob tb kb : Nat) (A : Option Addr) (N c : Nat) (L : List Ins) (h : AX W0 W okb (.slice A N c) A N c L) (hN : N ≤ 1000)
    (ho : Blk W0 ob 46 #[.int .i64 9, .int .i64 (n : Int), .int .i64 0, .int .i64 0]) (hth : Blk W0 tb 3 #[.int .i64 th]) (hk : Blk W0 kb 3 #[.int .i64 t]) (d1 : ob ≠ okb) (d2 : tb ≠ okb) (d3 : kb ≠ okb) :
    Calls Tryz.prog 41 #[.int .i64 (site : Int), .int .i64 call, .int .u32 arg, .pointer (some ⟨ob, 0, none⟩), .pointer (some ⟨tb, 0, none⟩), .pointer (some ⟨kb, 0, none⟩), .pointer (some ⟨okb, 0, none⟩), .pointer (some ⟨W0.heap.size, 0, none⟩)] W fun e W' =>
      (∃ u, e = .returned u) ∧ ∃ A' M c', M = N + (m + 2) ∧ AX W0 W' okb (.slice A' M c') A' M c' (L ++ (⟨27, 7, 0, 0, 2 * (site : Int)⟩ :: (C.map (movedI ((N : Int) + 1)) ++ [⟨27, 7, 0, 0, 2 * (site : Int) + 1⟩]))) := by
  have hob := h.old ho d1
  have q0 := (hob.cell 0).trans rfl
  have q1 := (hob.cell 1).trans rfl
  have q2 := (hob.cell 2).trans rfl
  have q3 := (hob.cell 3).trans rfl
  have q4 := ((h.old hth d2).cell 0).trans rfl
  have q5 := ((h.old hk d3).cell 0).trans rfl
  have hcd := hcode W h.tab
  have HS := Lib.hid (And.intro hs (And.intro hN hm))
  clear hcode hob ho hth hk
  go_enter Tryz.func41, Tryz.ntmps41
  go_wp2_with fail
  with_reducible refine hcd.mono ?_
  rintro e W1 ⟨⟨v, rfl, hv⟩, hB⟩
  have h1 := h.step hB
  obtain ⟨og, cap, cs, rfl, hog, _, hcap, hcm, hge, hins⟩ := hv
  have hrow : some og ≠ (Value.slice A N c).ownBlock := fun e => by have := (own_in h.own og e.symm).2; omega
  have hoo : og ≠ okb ∧ og ≠ W0.heap.size := by have h1 := h.okl.2; have h2 := h.lt; omega
  clear h hB hcd q0 q1 q2 q3 q4 q5
  have x0 := (h1.okx.cell 0).trans rfl
  have x1 := h1.okx.frozen 0
  have y0 := (h1.setOk.box.cell 0).trans rfl
  have hne : ¬ W0.heap.size = okb := by have := h1.okl.2; omega
  have hs4 : ((site : Int) * 1) ≤ 3 := by omega
  have hogk := hog.far (p := ⟨okb, 0, none⟩) hoo.1 (.bool true)
  have HG := Lib.hid (And.intro hrow hoo)
  clear hrow hoo hog
  go_wp2_with (at_builtin; refine h1.setOk.app1 ⟨27, 7, 0, 0, 2 * (site : Int)⟩ (N + 1) W1.heap.size rfl (by simp [World.setCell]) rfl (.tmp 26) (.tmp 31) rfl rfl rfl (by omega) ?_; intro A1 c1 W2 h3 hkp; have hog2 := hkp _ _ _ hogk HG.out.1; have y1 := (h3.box.cell 0).trans rfl; have y2 := h3.box.frozen 0; clear hkp hogk x0 x1 y0 h1)
  have h4 := h3.set (.slice A1 (N + 1) c1)
  have hog3 := hog2.far (p := ⟨W0.heap.size, 0, none⟩) HG.out.2.2 (.slice A1 (N + 1) c1)
  clear h3 y1 y2 hog2
  generalize W2.setCell ⟨W0.heap.size, 0, none⟩ (.slice A1 (N + 1) c1) = W3 at h4 hog3 ⊢
  have hlen : C.length ≤ 100 := by omega
  refine startG (fun W' => Below W3.drew.heap.size W3.drew W') 5 (by kernel_rfl) ?_
  have h5 := h4.drew
  have hog4 := hog3.drew
  clear h4 hog3
  generalize W3.drew = W4 at h5 hog4 ⊢
  have hH : Below W4.heap.size W4 W4 := Below.refl _ _
  refine takeG (i := 0) (v := .slice A1 (N + 1) c1) rfl (by kernel_rfl) (by kernel_rfl) (by kernel_rfl) (by kernel_rfl) (fun _ _ _ h => h) (Or.inl ⟨by rfl, fun W hW => by have q0 := ((h5.box.below hW h5.box.lt).cell 0).trans rfl; go_simp⟩) hH ?_
  simp only [Act.put, List.getElem_toArray, List.getElem_cons_zero, List.getElem_cons_succ, List.setIfInBounds_toArray, List.set_cons_zero, List.set_cons_succ]
  refine takeG0 (i := 1) (v := .slice (some ⟨og, 0, none⟩) m cap) rfl (by kernel_rfl) (by kernel_rfl) (by kernel_rfl) (by kernel_rfl) (fun _ _ _ h => h) (Or.inl ⟨by rfl, fun W hW => by go_simp⟩) hH ?_
  simp only [Act.put, List.getElem_toArray, List.getElem_cons_zero, List.getElem_cons_succ, List.setIfInBounds_toArray, List.set_cons_zero, List.set_cons_succ]
  refine takeT (i := 2) (v := .slice A1 (N + 1) c1) rfl (by kernel_rfl) (by kernel_rfl) (by kernel_rfl) (by kernel_rfl) (fun _ _ _ h => h) (Or.inl ⟨by rfl, fun W hW => by have q0 := ((h5.box.below hW h5.box.lt).cell 0).trans rfl; go_simp⟩) hH ?_
  simp only [Act.put, List.getElem_toArray, List.getElem_cons_zero, List.getElem_cons_succ, List.setIfInBounds_toArray, List.set_cons_zero, List.set_cons_succ]
  refine takeG0 (i := 3) (v := .int .i64 ((N + 1 : Nat) : Int)) rfl (by kernel_rfl) (by kernel_rfl) (by kernel_rfl) (by kernel_rfl) (fun _ _ _ h => h) (Or.inl ⟨by rfl, fun W hW => by go_simp⟩) hH ?_
  simp only [Act.put, List.getElem_toArray, List.getElem_cons_zero, List.getElem_cons_succ, List.setIfInBounds_toArray, List.set_cons_zero, List.set_cons_succ]
  refine onlyG (i := 4) (by kernel_rfl) rfl (fun K hK => ?_)
  have hsle := sle_ins hog4 hins
  rw [hC] at hsle hcap
  have hCI : CodeIn W4 (.slice (some ⟨og, 0, none⟩) m cap) C m := ⟨⟨og, cap, rfl, hog4.lt, hcap, hcm, hsle⟩, hC⟩
  have cM := hCI.moved hok (by omega) ((N : Int) + 1) (by omega) (by omega) h5.tab
  go_simp
  with_reducible refine cM.mono ?_
  rintro e W5 ⟨cs5, rfl, hb5, hin5, hB5⟩
  have h6 := h5.step hB5
  refine hK.out _ _ hB5 (fun _ => ?_)
  clear hK K cM hCI hsle hog4 hB5 h5 hH
  obtain ⟨g5, hg5⟩ : ∃ g5, W4.heap.size = g5 := ⟨_, rfl⟩
  rw [hg5] at hb5
  try rw [hg5]
  clear hg5
  try simp only [Act.put, List.getElem_toArray, List.getElem_cons_zero, List.getElem_cons_succ, List.setIfInBounds_toArray, List.set_cons_zero, List.set_cons_succ]
  refine onlyM (by kernel_rfl) rfl (fun K hK => ?_)
  rw [if_pos (by rfl)]
  refine h6.appO hb5 hin5 (C.map (movedI ((N : Int) + 1))) (map_range hC _) (N + 1 + m) rfl (.tmp 33) (.tmp 37) rfl rfl rfl (by omega) ?_
  intro A7 c7 W7 h7
  clear h6 hb5 hin5
  refine hK.out _ _ ?_
  clear hK K
  try simp only [Act.put, List.getElem_toArray, List.getElem_cons_zero, List.getElem_cons_succ, List.setIfInBounds_toArray, List.set_cons_zero, List.set_cons_succ]
  refine lastL (i := 6) (by kernel_rfl) (by kernel_rfl) rfl (by kernel_rfl) (fun K hK => ?_)
  have y1 := (h7.box.cell 0).trans rfl
  have y2 := h7.box.frozen 0
  go_simp
  refine hK.out _ _ ?_
  have h8 := h7.set (.slice A7 (N + 1 + m) c7)
  clear hK K h7 y1 y2
  generalize W7.setCell ⟨W0.heap.size, 0, none⟩ (.slice A7 (N + 1 + m) c7) = W8 at h8 ⊢
  have z1 := (h8.box.cell 0).trans rfl
  try simp only [Act.put, List.getElem_toArray, List.getElem_cons_zero, List.getElem_cons_succ, List.setIfInBounds_toArray, List.set_cons_zero, List.set_cons_succ]
  go_wp2_with (at_builtin; refine h8.app1 ⟨27, 7, 0, 0, 2 * (site : Int) + 1⟩ (N + 1 + m + 1) W8.heap.size rfl rfl rfl (.tmp 39) (.tmp 45) rfl rfl rfl (by omega) ?_; intro A9 c9 W9 h9 hkp9; have y1 := (h9.box.cell 0).trans rfl; have y2 := h9.box.frozen 0; clear hkp9 z1 h8)
  have h10 := h9.set (.slice A9 (N + 1 + m + 1) c9)
  clear h9 y1 y2
  go_end0
  refine ⟨⟨_, rfl⟩, A9, N + 1 + m + 1, c9, by omega, ?_⟩
  rw [List.append_assoc, List.append_assoc] at h10
  exact h10
end Go.Proofs.YtmhfpjnkjlhbpaaGreatDoor

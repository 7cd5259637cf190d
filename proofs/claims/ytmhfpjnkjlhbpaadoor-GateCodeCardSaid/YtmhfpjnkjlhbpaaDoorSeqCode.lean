/- seq.Code at what may be asked (printed by gen/bldf.py). -/
import Derived.Test.YtmhfpjnkjlhbpaaDoorSeqB
import Derived.Test.YtmhfpjnkjlhbpaaDoorBldC
import Derived.Test.YtmhfpjnkjlhbpaaDoorObjMay
namespace Go.Proofs.YtmhfpjnkjlhbpaaDoor
open Go.ChangeShapes Go.WideShapes Go.ChangeAt Go.RowKit Go.Deep
set_option linter.unusedVariables false
set_option maxRecDepth 100000
set_option linter.unusedSimpArgs false

theorem BI.fresh {N0 : Nat} {W : World} (hN : N0 ≤ W.heap.size) : BI N0 (W.alloc (.cells #[.slice none 0 0, .map none, .slice none 0 0, .bool false] 65)) W.heap.size BB.e :=
  ⟨_, _, none, Blk.new _ _ _, hN, ⟨rfl, .inl ⟨rfl, rfl⟩⟩, ⟨rfl, .inl ⟨rfl, rfl⟩⟩, rfl⟩
theorem BB.e_room (n : Nat) (h : n ≤ 1000) : BB.e.Room n := ⟨by show 0 + n ≤ _; omega, by show 0 + n ≤ _; omega, by show 0 + n ≤ _; omega⟩
theorem OutI.below {W0 W1 W' : World} {v : Value} {l : List Ins} (h : OutI W1 v l W') (hs : W0.heap.size ≤ W1.heap.size) : OutI W0 v l W' := by
  obtain ⟨og, cap, cs, h1, h2, h3, h4, h5, h6, h7⟩ := h
  exact ⟨og, cap, cs, h1, h2, h3, h4, h5, Nat.le_trans hs h6, h7⟩
theorem may_seq (n call threads t : Int) (hn : 1 ≤ n ∧ n ≤ 3) (ht : 1 ≤ threads ∧ threads ≤ 8) (h0 : 0 ≤ t ∧ t < threads) (hc : 1 ≤ call ∧ call ≤ 4) (W : World) : Calls Tryd.prog 23 #[.agg #[.int .i64 9, .int .i64 n, .int .i64 0, .int .i64 0], .int .i64 call, .int .i64 threads, .int .i64 t] W fun e W' => e = .returned (.bool true) ∧ Below W.heap.size W W' := by
  have e : mayB true [1, 2, 3, 4] call threads t = true := by
    unfold mayB
    rw [decide_eq_true h0]
    have : call = 1 ∨ call = 2 ∨ call = 3 ∨ call = 4 := by omega
    rcases this with rfl | rfl | rfl | rfl <;> rfl
  have := may_any 9 n 0 0 true [1, 2, 3, 4] (by decide) call threads t W (fun _ => True) (fun _ _ _ _ => trivial) trivial (fun W1 _ => right_seq n threads hn ht W1) (fun W1 _ => calls_seq W1)
  rw [e] at this
  exact this

theorem sreads_places (b : BB) (base : Int) : ∀ k, (b.sreads base k).places = b.places := by
  intro k
  induction k with
  | zero => rfl
  | succ k ih => rw [BB.sreads_succ]; exact ih

set_option maxHeartbeats 4000000 in
theorem code_acq (n : Nat) (threads base t arg : Int) (hn : 1 ≤ n ∧ n ≤ 3) (ht : 1 ≤ threads ∧ threads ≤ 8) (h0 : 0 ≤ t ∧ t < threads) (hb : 0 ≤ base ∧ base ≤ 4294960000) (ha : 0 ≤ arg) (W : World) (hT : Tab W) :
    Calls Tryd.prog 8 #[.agg #[.int .i64 9, .int .i64 (n : Int), .int .i64 0, .int .i64 0], .int .i64 1, .int .i64 threads, .int .i64 t, .int .u32 base, .int .u32 arg] W fun e W' => (∃ v, e = .returned (.tuple #[v, .bool true]) ∧ OutI W v (((BB.e.claim (base + 1) t).sbegin base).close).out W') ∧ Below W.heap.size W W' := by
  have hq := Blk.new W 23 #[.int .i64 9, .int .i64 (n : Int), .int .i64 0, .int .i64 0]
  have hB := (Below.refl W.heap.size W).alloc (Nat.le_refl _) (.cells #[.int .i64 9, .int .i64 (n : Int), .int .i64 0, .int .i64 0] 23)
  have q0 := (hq.cell 0).trans rfl
  have q1 := (hq.cell 1).trans rfl
  have q2 := (hq.cell 2).trans rfl
  have q3 := (hq.cell 3).trans rfl
  have h3 : (n : Int) ≤ 3 := by omega
  have htt : t ≤ 1000 := by omega
  go_enter Tryd.func8, Tryd.ntmps8
  go_wp2_with fail
  refine (may_seq (n : Int) 1 threads t (by omega) ht h0 (by omega) _).mono ?_
  rintro e V0 ⟨rfl, hB0⟩
  have hq0 := hq.below hB0 hq.lt
  have hb0 := step_below hB hB0
  have q1' := (hq0.cell 1).trans rfl
  clear q0 q1 q2 q3 hB hB0 hq
  have hI := BI.fresh (N0 := W.heap.size) (W := V0) hb0.size
  have hal := (Below.refl V0.heap.size V0).alloc (Nat.le_refl _) (.cells #[.slice none 0 0, .map none, .slice none 0 0, .bool false] 65)
  have hb1 := step_below hb0 hal
  have q1'' := ((hq0.below hal hq0.lt).cell 1).trans rfl
  have hqs := hq0.below hal hq0.lt
  have hlts : hqs = hqs := rfl
  clear hal hlts
  have HZ := Lib.hid (And.intro hb0 (And.intro hb1 (And.intro hT hqs)))
  clear hb0 hqs hT
  obtain ⟨bb, hbb⟩ : ∃ bb, V0.heap.size = bb := ⟨_, rfl⟩
  rw [hbb] at hI
  have hr := BB.e_room 900 (by decide)
  go_wp2_with fail
  try rw [hbb]
  refine Bls.step (b_claim (n := 893) _ _ hI hr (by omega) rfl) ?_
  rintro _ W1 ⟨⟨u0, rfl⟩, h1, b1⟩
  have r1 := BB.Room.claim (n := 893) hr (base + 1) t
  go_wp2_with fail
  refine Bls.step (b_sbegin (n := 887) _ h1 r1 hb rfl) ?_
  rintro _ W2 ⟨⟨u1, rfl⟩, h2, b2⟩
  have r2 := BB.Room.sbegin (n := 887) r1 base
  go_wp2_with fail
  refine Bls.step (b_close (n := 885)  h2 r2 rfl) ?_
  rintro _ W3 ⟨⟨u2, rfl⟩, h3, b3⟩
  have r3 := BB.Room.close (n := 885) r2
  have hbz := hb1.trans (b1.trans (b2.trans (b3))).b
  have hTz := HZ.out.2.2.1.step hbz
  go_wp2_with fail
  refine (bcode_any W.heap.size bb _ W3 h3 hTz ?_ (by have := r3.2.1; omega) (by have := r3.1; omega) (by first | exact Nat.zero_lt_succ _ | simp [BB.sread, BB.sread1, BB.sreads, BB.ins, BB.go, BB.at, BB.close])).mono ?_
  · rfl
  rintro e V9 ⟨⟨v, rfl, hO⟩, hB9⟩
  go_wp2
  go_ret2
  exact ⟨⟨_, rfl, hO.below hbz.size⟩, step_below hbz hB9⟩

set_option maxHeartbeats 4000000 in
theorem code_rel (n : Nat) (threads base t arg : Int) (hn : 1 ≤ n ∧ n ≤ 3) (ht : 1 ≤ threads ∧ threads ≤ 8) (h0 : 0 ≤ t ∧ t < threads) (hb : 0 ≤ base ∧ base ≤ 4294960000) (ha : 0 ≤ arg) (W : World) (hT : Tab W) :
    Calls Tryd.prog 8 #[.agg #[.int .i64 9, .int .i64 (n : Int), .int .i64 0, .int .i64 0], .int .i64 2, .int .i64 threads, .int .i64 t, .int .u32 base, .int .u32 arg] W fun e W' => (∃ v, e = .returned (.tuple #[v, .bool true]) ∧ OutI W v ((((BB.e.prove (base + 1) t).smore base).zero (base + 1)).close).out W') ∧ Below W.heap.size W W' := by
  have hq := Blk.new W 23 #[.int .i64 9, .int .i64 (n : Int), .int .i64 0, .int .i64 0]
  have hB := (Below.refl W.heap.size W).alloc (Nat.le_refl _) (.cells #[.int .i64 9, .int .i64 (n : Int), .int .i64 0, .int .i64 0] 23)
  have q0 := (hq.cell 0).trans rfl
  have q1 := (hq.cell 1).trans rfl
  have q2 := (hq.cell 2).trans rfl
  have q3 := (hq.cell 3).trans rfl
  have h3 : (n : Int) ≤ 3 := by omega
  have htt : t ≤ 1000 := by omega
  go_enter Tryd.func8, Tryd.ntmps8
  go_wp2_with fail
  refine (may_seq (n : Int) 2 threads t (by omega) ht h0 (by omega) _).mono ?_
  rintro e V0 ⟨rfl, hB0⟩
  have hq0 := hq.below hB0 hq.lt
  have hb0 := step_below hB hB0
  have q1' := (hq0.cell 1).trans rfl
  clear q0 q1 q2 q3 hB hB0 hq
  have hI := BI.fresh (N0 := W.heap.size) (W := V0) hb0.size
  have hal := (Below.refl V0.heap.size V0).alloc (Nat.le_refl _) (.cells #[.slice none 0 0, .map none, .slice none 0 0, .bool false] 65)
  have hb1 := step_below hb0 hal
  have q1'' := ((hq0.below hal hq0.lt).cell 1).trans rfl
  have hqs := hq0.below hal hq0.lt
  have hlts : hqs = hqs := rfl
  clear hal hlts
  have HZ := Lib.hid (And.intro hb0 (And.intro hb1 (And.intro hT hqs)))
  clear hb0 hqs hT
  obtain ⟨bb, hbb⟩ : ∃ bb, V0.heap.size = bb := ⟨_, rfl⟩
  rw [hbb] at hI
  have hr := BB.e_room 900 (by decide)
  go_wp2_with fail
  try rw [hbb]
  refine Bls.step (b_prove (n := 893) _ _ hI hr (by omega) rfl) ?_
  rintro _ W1 ⟨⟨u0, rfl⟩, h1, b1⟩
  have r1 := BB.Room.prove (n := 893) hr (base + 1) t
  go_wp2_with fail
  refine Bls.step (b_smore (n := 891) _ h1 r1 hb) ?_
  rintro _ W2 ⟨⟨u1, rfl⟩, h2, b2⟩
  have r2 := BB.Room.smore (n := 891) r1 base
  go_wp2_with fail
  refine Bls.step (b_zero (n := 889) _ h2 r2) ?_
  rintro _ W3 ⟨⟨u2, rfl⟩, h3, b3⟩
  have r3 := BB.Room.zero (n := 889) r2 (base + 1)
  go_wp2_with fail
  refine Bls.step (b_close (n := 887)  h3 r3 rfl) ?_
  rintro _ W4 ⟨⟨u3, rfl⟩, h4, b4⟩
  have r4 := BB.Room.close (n := 887) r3
  have hbz := hb1.trans (b1.trans (b2.trans (b3.trans (b4)))).b
  have hTz := HZ.out.2.2.1.step hbz
  go_wp2_with fail
  refine (bcode_any W.heap.size bb _ W4 h4 hTz ?_ (by have := r4.2.1; omega) (by have := r4.1; omega) (by first | exact Nat.zero_lt_succ _ | simp [BB.sread, BB.sread1, BB.sreads, BB.ins, BB.go, BB.at, BB.close])).mono ?_
  · rfl
  rintro e V9 ⟨⟨v, rfl, hO⟩, hB9⟩
  go_wp2
  go_ret2
  exact ⟨⟨_, rfl, hO.below hbz.size⟩, step_below hbz hB9⟩

set_option maxHeartbeats 4000000 in
theorem code_put (n : Nat) (threads base t arg : Int) (hn : 1 ≤ n ∧ n ≤ 3) (ht : 1 ≤ threads ∧ threads ≤ 8) (h0 : 0 ≤ t ∧ t < threads) (hb : 0 ≤ base ∧ base ≤ 4294960000) (ha : 0 ≤ arg ∧ arg < n) (W : World) (hT : Tab W) :
    Calls Tryd.prog 8 #[.agg #[.int .i64 9, .int .i64 (n : Int), .int .i64 0, .int .i64 0], .int .i64 4, .int .i64 threads, .int .i64 t, .int .u32 base, .int .u32 arg] W fun e W' => (∃ v, e = .returned (.tuple #[v, .bool true]) ∧ OutI W v ((((BB.e.prove (base + 1) t).ins ⟨17, 0, 8, 0, base + 2 + arg⟩)).close).out W') ∧ Below W.heap.size W W' := by
  have hq := Blk.new W 23 #[.int .i64 9, .int .i64 (n : Int), .int .i64 0, .int .i64 0]
  have hB := (Below.refl W.heap.size W).alloc (Nat.le_refl _) (.cells #[.int .i64 9, .int .i64 (n : Int), .int .i64 0, .int .i64 0] 23)
  have q0 := (hq.cell 0).trans rfl
  have q1 := (hq.cell 1).trans rfl
  have q2 := (hq.cell 2).trans rfl
  have q3 := (hq.cell 3).trans rfl
  have h3 : (n : Int) ≤ 3 := by omega
  have htt : t ≤ 1000 := by omega
  go_enter Tryd.func8, Tryd.ntmps8
  go_wp2_with fail
  refine (may_seq (n : Int) 4 threads t (by omega) ht h0 (by omega) _).mono ?_
  rintro e V0 ⟨rfl, hB0⟩
  have hq0 := hq.below hB0 hq.lt
  have hb0 := step_below hB hB0
  have q1' := (hq0.cell 1).trans rfl
  clear q0 q1 q2 q3 hB hB0 hq
  have hI := BI.fresh (N0 := W.heap.size) (W := V0) hb0.size
  have hal := (Below.refl V0.heap.size V0).alloc (Nat.le_refl _) (.cells #[.slice none 0 0, .map none, .slice none 0 0, .bool false] 65)
  have hb1 := step_below hb0 hal
  have q1'' := ((hq0.below hal hq0.lt).cell 1).trans rfl
  have hqs := hq0.below hal hq0.lt
  have hlts : hqs = hqs := rfl
  clear hal hlts
  have HZ := Lib.hid (And.intro hb0 (And.intro hb1 (And.intro hT hqs)))
  clear hb0 hqs hT
  obtain ⟨bb, hbb⟩ : ∃ bb, V0.heap.size = bb := ⟨_, rfl⟩
  rw [hbb] at hI
  have hr := BB.e_room 900 (by decide)
  go_wp2_with fail
  try rw [hbb]
  refine Bls.step (b_prove (n := 893) _ _ hI hr (by omega) rfl) ?_
  rintro _ W1 ⟨⟨u0, rfl⟩, h1, b1⟩
  have r1 := BB.Room.prove (n := 893) hr (base + 1) t
  go_wp2_with fail
  refine Bls.step (b_ask (n := 892) _ _ _ h1 r1) ?_
  rintro _ W2 ⟨⟨u1, rfl⟩, h2, b2⟩
  have r2 := BI.rins (n := 892) h2 r1
  go_wp2_with fail
  refine Bls.step (b_close (n := 890)  h2 r2 rfl) ?_
  rintro _ W3 ⟨⟨u2, rfl⟩, h3, b3⟩
  have r3 := BB.Room.close (n := 890) r2
  have hbz := hb1.trans (b1.trans (b2.trans (b3))).b
  have hTz := HZ.out.2.2.1.step hbz
  go_wp2_with fail
  refine (bcode_any W.heap.size bb _ W3 h3 hTz ?_ (by have := r3.2.1; omega) (by have := r3.1; omega) (by first | exact Nat.zero_lt_succ _ | simp [BB.sread, BB.sread1, BB.sreads, BB.ins, BB.go, BB.at, BB.close])).mono ?_
  · rfl
  rintro e V9 ⟨⟨v, rfl, hO⟩, hB9⟩
  go_wp2
  go_ret2
  exact ⟨⟨_, rfl, hO.below hbz.size⟩, step_below hbz hB9⟩

set_option maxHeartbeats 4000000 in
theorem code_read (n : Nat) (threads base t arg : Int) (hn : 1 ≤ n ∧ n ≤ 3) (ht : 1 ≤ threads ∧ threads ≤ 8) (h0 : 0 ≤ t ∧ t < threads) (hb : 0 ≤ base ∧ base ≤ 4294960000) (ha : 0 ≤ arg) (W : World) (hT : Tab W) :
    Calls Tryd.prog 8 #[.agg #[.int .i64 9, .int .i64 (n : Int), .int .i64 0, .int .i64 0], .int .i64 3, .int .i64 threads, .int .i64 t, .int .u32 base, .int .u32 arg] W fun e W' => (∃ v, e = .returned (.tuple #[v, .bool true]) ∧ OutI W v ((BB.e.sread base n).close).out W') ∧ Below W.heap.size W W' := by
  have hq := Blk.new W 23 #[.int .i64 9, .int .i64 (n : Int), .int .i64 0, .int .i64 0]
  have hB := (Below.refl W.heap.size W).alloc (Nat.le_refl _) (.cells #[.int .i64 9, .int .i64 (n : Int), .int .i64 0, .int .i64 0] 23)
  have q0 := (hq.cell 0).trans rfl
  have q1 := (hq.cell 1).trans rfl
  have q2 := (hq.cell 2).trans rfl
  have q3 := (hq.cell 3).trans rfl
  have h3 : (n : Int) ≤ 3 := by omega
  have htt : t ≤ 1000 := by omega
  go_enter Tryd.func8, Tryd.ntmps8
  go_wp2_with fail
  refine (may_seq (n : Int) 3 threads t (by omega) ht h0 (by omega) _).mono ?_
  rintro e V0 ⟨rfl, hB0⟩
  have hq0 := hq.below hB0 hq.lt
  have hb0 := step_below hB hB0
  have q1' := (hq0.cell 1).trans rfl
  clear q0 q1 q2 q3 hB hB0 hq
  have hI := BI.fresh (N0 := W.heap.size) (W := V0) hb0.size
  have hal := (Below.refl V0.heap.size V0).alloc (Nat.le_refl _) (.cells #[.slice none 0 0, .map none, .slice none 0 0, .bool false] 65)
  have hb1 := step_below hb0 hal
  have q1'' := ((hq0.below hal hq0.lt).cell 1).trans rfl
  have hqs := hq0.below hal hq0.lt
  have hlts : hqs = hqs := rfl
  clear hal hlts
  have HZ := Lib.hid (And.intro hb0 (And.intro hb1 (And.intro hT hqs)))
  clear hb0 hqs hT
  obtain ⟨bb, hbb⟩ : ∃ bb, V0.heap.size = bb := ⟨_, rfl⟩
  rw [hbb] at hI
  have hr := BB.e_room 900 (by decide)
  go_wp2_with fail
  try rw [hbb]
  refine Bls.step (b_sread (n := 15) (k := n) _ hI (hr.mono (by omega)) hb (by omega) rfl) ?_
  rintro _ W1 ⟨⟨u0, rfl⟩, h1, b1⟩
  have r1 := BB.Room.sread (n := 15) (k := n) (hr.mono (by omega)) base
  go_wp2_with fail
  refine Bls.step (b_close (n := 13)  h1 r1 (by unfold BB.sread BB.go BB.ins; show List.lookup n_end ((BB.e.sread1 base).sreads base n).places = none; rw [sreads_places]; rfl)) ?_
  rintro _ W2 ⟨⟨u1, rfl⟩, h2, b2⟩
  have r2 := BB.Room.close (n := 13) r1
  have hbz := hb1.trans (b1.trans (b2)).b
  have hTz := HZ.out.2.2.1.step hbz
  go_wp2_with fail
  refine (bcode_any W.heap.size bb _ W2 h2 hTz ?_ (by have := r2.2.1; omega) (by have := r2.1; omega) (by first | exact Nat.zero_lt_succ _ | simp [BB.sread, BB.sread1, BB.sreads, BB.ins, BB.go, BB.at, BB.close])).mono ?_
  · have : n = 1 ∨ n = 2 ∨ n = 3 := by omega
    rcases this with rfl | rfl | rfl <;> rfl
  rintro e V9 ⟨⟨v, rfl, hO⟩, hB9⟩
  go_wp2
  go_ret2
  exact ⟨⟨_, rfl, hO.below hbz.size⟩, step_below hbz hB9⟩

end Go.Proofs.YtmhfpjnkjlhbpaaDoor

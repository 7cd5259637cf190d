/- seq: more, begin, read (printed by gen/bldf.py). -/
import Derived.Test.YtmhfpjnkjlhbpaaDoorBldS
namespace Go.Proofs.YtmhfpjnkjlhbpaaDoor
open Go.ChangeShapes Go.WideShapes Go.ChangeAt Go.RowKit Go.Deep
set_option linter.unusedVariables false
set_option maxRecDepth 100000
set_option linter.unusedSimpArgs false

def BB.smore (b : BB) (base : Int) : BB := (b.ins ⟨1, 4, 0, 0, 1⟩).ins ⟨20, 4, 8, 0, base⟩
def BB.sbegin (b : BB) (base : Int) : BB := ((((b.at n_spin).ins ⟨1, 4, 0, 0, 0⟩).ins ⟨21, 4, 8, 5, base + 1⟩).go 15 4 n_spin).smore base
def BB.sreads (b : BB) (base : Int) (k : Nat) : BB := (List.range k).foldl (fun (b : BB) (i : Nat) => b.ins ⟨16, (i : Int), 8, 0, base + 2 + (i : Int)⟩) b
theorem BB.sreads_succ (b : BB) (base : Int) (k : Nat) : b.sreads base (k + 1) = (b.sreads base k).ins ⟨16, (k : Int), 8, 0, base + 2 + (k : Int)⟩ := by
  unfold BB.sreads; rw [List.range_succ, List.foldl_append]; rfl
def BB.sread1 (b : BB) (base : Int) : BB := ((((b.at n_again).ins ⟨16, 4, 8, 0, base⟩).ins ⟨1, 5, 0, 0, 1⟩).ins ⟨6, 6, 4, 5, 0⟩).go 15 6 n_again
def BB.sread (b : BB) (base : Int) (n : Nat) : BB := ((((b.sread1 base).sreads base n).ins ⟨16, 5, 8, 0, base⟩).ins ⟨12, 6, 4, 5, 0⟩).go 14 6 n_again
theorem BB.Room.smore {b : BB} {n : Nat} (h : b.Room (n + 2)) (base : Int) : (b.smore base).Room n := BB.Room.ins (BB.Room.ins h _) _
theorem BB.Room.sbegin {b : BB} {n : Nat} (h : b.Room (n + 6)) (base : Int) : (b.sbegin base).Room n := BB.Room.smore (BB.Room.go (BB.Room.ins (BB.Room.ins (BB.Room.at (n := n + 5) h _) _) _) _ _ _) _
theorem BB.Room.sread1 {b : BB} {n : Nat} (h : b.Room (n + 5)) (base : Int) : (b.sread1 base).Room n := BB.Room.go (BB.Room.ins (BB.Room.ins (BB.Room.ins (BB.Room.at (n := n + 4) h _) _) _) _) _ _ _
theorem BB.Room.sreads {b : BB} {n k : Nat} (h : b.Room (n + k)) (base : Int) : (b.sreads base k).Room n := by
  induction k generalizing n with
  | zero => exact h
  | succ k ih => rw [BB.sreads_succ]; exact BB.Room.ins (ih (n := n + 1) (h.mono (by omega))) _
theorem BB.Room.sread {b : BB} {n k : Nat} (h : b.Room (n + 8 + k)) (base : Int) : (b.sread base k).Room n := BB.Room.go (BB.Room.ins (BB.Room.ins (BB.Room.sreads (n := n + 3) (k := k) (BB.Room.sread1 (n := n + 3 + k) (h.mono (by omega)) _) _) _) _) _ _ _

set_option maxHeartbeats 2000000 in
theorem b_smore {N0 bb : Nat} {b : BB} {n : Nat} (base : Int) {W : World} (h : BI N0 W bb b) (hr : b.Room (n + 2)) (hb : 0 ≤ base ∧ base ≤ 4294960000) : Bls 27 #[.pointer (some ⟨bb, 0, none⟩), .int .u32 base] N0 bb b (b.smore base) W := by
  unfold Bls
  go_enter Tryd.func27, Tryd.ntmps27
  go_wp2_with fail
  refine Bls.step (b_set (n := n + 1) _ _ h hr) ?_
  rintro _ W1 ⟨⟨u0, rfl⟩, h1, b1⟩
  have r1 := BI.rins (n := n + 1) h1 hr
  go_wp2_with fail
  refine Bls.step (b_ask (n := n + 0) _ _ _ h1 r1) ?_
  rintro _ W2 ⟨⟨u1, rfl⟩, h2, b2⟩
  have r2 := BI.rins (n := n + 0) h2 r1
  go_wp2
  go_end0
  exact ⟨⟨_, rfl⟩, h2, b1.trans (b2)⟩

set_option maxHeartbeats 2000000 in
theorem b_sbegin {N0 bb : Nat} {b : BB} {n : Nat} (base : Int) {W : World} (h : BI N0 W bb b) (hr : b.Room (n + 6)) (hb : 0 ≤ base ∧ base ≤ 4294960000) (hf : b.places.lookup n_spin = none) : Bls 25 #[.pointer (some ⟨bb, 0, none⟩), .int .u32 base] N0 bb b (b.sbegin base) W := by
  unfold Bls
  go_enter Tryd.func25, Tryd.ntmps25
  go_wp2_with fail
  try rw [str_spin]
  refine Bls.step (b_at (n := n + 5) n_spin nm_spin h hr hf) ?_
  rintro _ W1 ⟨⟨u0, rfl⟩, h1, b1⟩
  have r1 := BI.rat (n := n + 5) h1 hr
  go_wp2_with fail
  refine Bls.step (b_set (n := n + 4) _ _ h1 r1) ?_
  rintro _ W2 ⟨⟨u1, rfl⟩, h2, b2⟩
  have r2 := BI.rins (n := n + 4) h2 r1
  go_wp2_with fail
  refine Bls.step (b_cas (n := n + 3) _ _ _ h2 r2) ?_
  rintro _ W3 ⟨⟨u2, rfl⟩, h3, b3⟩
  have r3 := BI.rins (n := n + 3) h3 r2
  go_wp2_with fail
  try rw [str_spin]
  refine Bls.step (b_go (n := n + 2) _ _ n_spin h3 r3) ?_
  rintro _ W4 ⟨⟨u3, rfl⟩, h4, b4⟩
  have r4 := BI.rgo (n := n + 2) h4 r3
  go_wp2_with fail
  refine Bls.step (b_smore (n := n + 0) _ h4 r4 hb) ?_
  rintro _ W5 ⟨⟨u4, rfl⟩, h5, b5⟩
  have r5 := BB.Room.smore r4 base
  go_wp2
  go_end0
  exact ⟨⟨_, rfl⟩, h5, b1.trans (b2.trans (b3.trans (b4.trans (b5))))⟩

set_option maxHeartbeats 2000000 in
theorem b_sread {N0 bb : Nat} {b : BB} {n k : Nat} (base : Int) {W : World} (h : BI N0 W bb b) (hr : b.Room (n + 8 + k)) (hb : 0 ≤ base ∧ base ≤ 4294960000) (hk : k ≤ 100) (hf : b.places.lookup n_again = none) : Bls 30 #[.pointer (some ⟨bb, 0, none⟩), .int .u32 base, .int .i64 (k : Int)] N0 bb b (b.sread base k) W := by
  unfold Bls
  go_enter Tryd.func30, Tryd.ntmps30
  go_wp2_with fail
  try rw [str_again]
  refine Bls.step (b_at (n := n + 3 + k + 4) n_again nm_again h (hr.mono (show n + 3 + k + 5 ≤ n + 8 + k by omega)) hf) ?_
  rintro _ W1 ⟨⟨u0, rfl⟩, h1, b1⟩
  have r1 := BI.rat (n := n + 3 + k + 4) h1 (hr.mono (show n + 3 + k + 5 ≤ n + 8 + k by omega))
  go_wp2_with fail
  refine Bls.step (b_ask (n := n + 3 + k + 3) _ _ _ h1 r1) ?_
  rintro _ W2 ⟨⟨u1, rfl⟩, h2, b2⟩
  have r2 := BI.rins (n := n + 3 + k + 3) h2 r1
  go_wp2_with fail
  refine Bls.step (b_set (n := n + 3 + k + 2) _ _ h2 r2) ?_
  rintro _ W3 ⟨⟨u2, rfl⟩, h3, b3⟩
  have r3 := BI.rins (n := n + 3 + k + 2) h3 r2
  go_wp2_with fail
  refine Bls.step (b_alu (n := n + 3 + k + 1) _ _ _ _ h3 r3) ?_
  rintro _ W4 ⟨⟨u3, rfl⟩, h4, b4⟩
  have r4 := BI.rins (n := n + 3 + k + 1) h4 r3
  go_wp2_with fail
  try rw [str_again]
  refine Bls.step (b_go (n := n + 3 + k + 0) _ _ n_again h4 r4) ?_
  rintro _ W5 ⟨⟨u4, rfl⟩, h5, b5⟩
  have r5 := BI.rgo (n := n + 3 + k + 0) h5 r4
  have hb5 := b1.trans (b2.trans (b3.trans (b4.trans b5)))
  have H5 := Lib.hid (And.intro h5 (And.intro r5 hb5))
  clear h h1 h2 h3 h4 h5 b1 b2 b3 b4 b5 r1 r2 r3 r4 r5 hb5
  go_wp2
  go_loopw [20] (fun v wr => ∃ j : Nat, j ≤ k ∧ v = .int .i64 j ∧ BI N0 wr bb ((b.sread1 base).sreads base j) ∧ BelF N0 W wr) (fun v _ => k - (intOf v).toNat)
  case atStart => exact ⟨0, Nat.zero_le _, rfl, H5.out.1, H5.out.2.2⟩
  case round =>
    obtain ⟨j, hj, rfl, hI, hB⟩ := hrel
    have rj : ((b.sread1 base).sreads base j).Room (n + 3 + (k - j)) := BB.Room.sreads (n := n + 3 + (k - j)) (k := j) (show (b.sread1 base).Room _ from (H5.out.2.1 : (b.sread1 base).Room (n + 3 + k + 0)).mono (by omega)) base
    by_cases hlt : j < k
    · have hjk : (j : Int) < (k : Int) := by omega
      have hj100 : (j : Int) ≤ 100 := by omega
      go_wp2_with fail
      refine Bls.step (b_ask (n := n + 3 + (k - j) - 1) _ _ _ hI (rj.mono (by omega))) ?_
      rintro _ W7 ⟨⟨u7, rfl⟩, h7, b7⟩
      go_wp2
      go_roundw
      case rel =>
        refine ⟨j + 1, by omega, by go_num, ?_, hB.trans b7⟩
        rw [BB.sreads_succ]
        exact h7
      case measure => simp [intOf]; omega
    · obtain rfl : j = k := by omega
      have r6 : ((b.sread1 base).sreads base j).Room (n + 3) := rj.mono (by omega)
      clear hlt rj
      go_wp2_with fail
      refine Bls.step (b_ask (n := n + 2) _ _ _ hI r6) ?_
      rintro _ W7 ⟨⟨u7, rfl⟩, h7, b7⟩
      have r7 := BI.rins (n := n + 2) h7 r6
      go_wp2_with fail
      refine Bls.step (b_alu (n := n + 1) _ _ _ _ h7 r7) ?_
      rintro _ W8 ⟨⟨u8, rfl⟩, h8, b8⟩
      have r8 := BI.rins (n := n + 1) h8 r7
      go_wp2_with fail
      try rw [str_again]
      refine Bls.step (b_go (n := n) _ _ n_again h8 r8) ?_
      rintro _ W9 ⟨⟨u9, rfl⟩, h9, b9⟩
      go_wp2
      go_end0
      exact ⟨⟨_, rfl⟩, h9, hB.trans (b7.trans (b8.trans b9))⟩

end Go.Proofs.YtmhfpjnkjlhbpaaDoor

/- law10: awake, ScBoth. -/
import Derived.Test.YtjmnogpnjombgaaDoorScBothP
namespace Go.Proofs.YtjmnogpnjombgaaDoor
open Go.ChangeShapes Go.WideShapes Go.ChangeAt Go.RowKit Go.Deep
set_option linter.unusedVariables false
set_option maxRecDepth 100000
set_option linter.unusedSimpArgs false

/-- Steps of two threads, turns about. -/
def about (k : Nat) : List (Int × Int) := (List.range k).map fun i => (0, ((i : Nat) : Int).tmod 2)
theorem about_six : about 6 = turns6 := by decide
set_option maxHeartbeats 4000000 in
theorem awake_any (w : World) (hT : Tab w) : Calls Tryd.prog 20 #[] w fun e w' => e = .returned (.bool true) ∧ Below w.heap.size w w' := by
  have hN := hT.1
  have HT := Lib.hid hT
  clear hT
  go_enter Tryd.func20, Tryd.ntmps20
  go_wp2_with fail
  refine (both_any w).mono ?_
  rintro e W1 ⟨ab, g0, g1, mb, rfl, hat, hB1⟩
  have cN := scNew_ok (pBoth ab g0 g1 mb) (pBoth_ok ab g0 g1 mb) 0 0 (pBoth_chk ab g0 g1 mb) W1 (HT.out.step hB1) hat
  have H1 := Lib.hid hB1
  clear hat hB1
  go_wp2_with fail
  refine cN.mono ?_
  rintro e W2 ⟨B, rfl, hNM, hI, hB2⟩
  have hsz : w.heap.size ≤ W1.heap.size := H1.out.size
  have H2 := Lib.hid (And.intro hNM (And.intro hI (step_below H1.out hB2)))
  have H2s := Lib.hid (show W1.heap.size ≤ W2.heap.size from hB2.size)
  clear cN hNM hI hB2 H1
  go_wp2
  go_loopw [3] (fun i wr => ∃ k : Nat, k ≤ 6 ∧ i = .int .i64 (k : Int) ∧ Moves (MInv scL B) (sRun B (s0 (pBoth ab g0 g1 mb)) (about k)) (fun i => W1.heap.size ≤ i ∧ i < W2.heap.size) W2 wr) (fun i _ => 6 - (intOf i).toNat)
  case atStart => exact ⟨0, by omega, rfl, H2.out.2.1.stay⟩
  case round =>
    obtain ⟨k, hk, rfl, hM⟩ := hrel
    have HM := Lib.hid hM
    clear hM
    by_cases hk6 : k < 6
    · have hk1 : (k : Int) < 6 := by omega
      go_wp2_with fail
      have hcall : Calls Tryd.prog 23 #[.pointer (some ⟨B.mb, 0, none⟩), .agg #[.int .i64 0, .int .i64 ((k : Int).tmod 2)]] wr fun e W' => (∃ u, e = .returned u) ∧ Moves (MInv scL B) (sRun B (s0 (pBoth ab g0 g1 mb)) (about (k + 1))) (fun i => W1.heap.size ≤ i ∧ i < W2.heap.size) W2 W' := by
        obtain ⟨own2, hI2, ho2, hk2⟩ := HM.out
        have hBok : MBok B := newM_ok H2.out.1 (by show 2 ≤ 8; decide) (by show 2 ≤ 1024; decide)
        have hcan : mCan B 3 (sRun B (s0 (pBoth ab g0 g1 mb)) (about k)) := sRun_can _ _ 3 (s0_can (by show 2 ≤ 8; decide) _ (by unfold about; rw [List.length_map, List.length_range]; omega))
        have hT2 : Tab wr := hk2.tab (fun i hi => by omega) (HT.out.step H2.out.2.2)
        refine (spick_any B hBok _ (sRun_ok hBok _ _ (s0_ok (pBoth_ok ab g0 g1 mb) H2.out.1)) hcan own2 _ hI2 hT2 (0, (k : Int).tmod 2)).mono fun e W' ⟨he, hm⟩ => ⟨he, ?_⟩
        have e1 : about (k + 1) = about k ++ [(0, (k : Int).tmod 2)] := by
          unfold about
          rw [List.range_succ, List.map_append]
          rfl
        rw [e1, sRun_snoc]
        exact Moves.after ho2 hk2 hm
      refine hcall.mono ?_
      rintro e W3 ⟨⟨u, rfl⟩, hM2⟩
      clear hcall HM
      go_wp2
      go_roundw
      case rel => exact ⟨k + 1, by omega, by go_num, hM2⟩
      case measure => simp [intOf]; omega
    · obtain rfl : k = 6 := by omega
      have hM6 := HM.out
      rw [about_six] at hM6
      obtain ⟨r0, r1, r2⟩ := both_six (bothB_of H2.out.1) ab g0 g1 mb
      have HF := Lib.hid (KeepOut.belowM hM6.keep H2.out.2.2 (by have := H2s.out; omega) (fun i hi => by have := hi.1; omega))
      have hnt : (sRun B (s0 (pBoth ab g0 g1 mb)) turns6).ths.length = 2 := by
        have hBok : MBok B := newM_ok H2.out.1 (by show 2 ≤ 8; decide) (by show 2 ≤ 1024; decide)
        rw [(sRun_ok hBok turns6 _ (s0_ok (pBoth_ok ab g0 g1 mb) H2.out.1)).nt, H2.out.1.n]
        rfl
      generalize sRun B (s0 (pBoth ab g0 g1 mb)) turns6 = s6 at hM6 r0 r1 r2 hnt
      obtain ⟨own6, hI6⟩ := hM6.inv
      have HI := Lib.hid hI6
      have c0 := sthread_any B s6 own6 wr hI6 0 (by omega)
      obtain ⟨t0, ht0⟩ : ∃ t, s6.ths.getD 0 tha = t := ⟨_, rfl⟩
      obtain ⟨t1, ht1⟩ : ∃ t, s6.ths.getD 1 tha = t := ⟨_, rfl⟩
      rw [ht0] at r0 c0
      rw [ht1] at r1
      unfold thArr at c0
      rw [r0, show ((0 : Nat) : Int) = 0 from rfl] at c0
      have HR := Lib.hid (And.intro ht1 (And.intro r1 (And.intro r2 hnt)))
      clear hM6 hI6 HM r0 r1 r2 hnt ht0 ht1
      have hfl := th_field
      have hix := reg_index
      go_wp2_with fail
      refine c0.mono ?_
      rintro e W3 ⟨rfl, hb3⟩
      have hI3 := HI.out.below hb3
      have HF3 := Lib.hid (step_belowN HF.out hb3 (HF.out.size))
      have c1 := sthread_any B s6 own6 W3 hI3 1 (by have := HR.out.2.2.2; omega)
      rw [HR.out.1] at c1
      unfold thArr at c1
      rw [HR.out.2.1, show ((1 : Nat) : Int) = 1 from rfl] at c1
      have HI3 := Lib.hid hI3
      clear c0 hb3 hI3 HI
      go_wp2_with fail
      refine c1.mono ?_
      rintro e W4 ⟨rfl, hb4⟩
      have c2 := scount_any B s6 own6 W4 (HI3.out.below hb4)
      rw [HR.out.2.2.1] at c2
      have HF4 := Lib.hid (step_belowN HF3.out hb4 (HF3.out.size))
      clear c1 hb4
      go_wp2_with fail
      refine c2.mono ?_
      rintro e W5 ⟨rfl, rfl⟩
      clear c2
      go_wp2
      go_ret
      exact ⟨rfl, HF4.out⟩
end Go.Proofs.YtjmnogpnjombgaaDoor

/- law10: ScBoth. -/
import Derived.Test.YtjmnogpnjombgaaDoorScAwake
namespace Go.Proofs.YtjmnogpnjombgaaDoor
open Go.ChangeShapes Go.WideShapes Go.ChangeAt Go.RowKit Go.Deep
set_option linter.unusedVariables false
set_option maxRecDepth 100000
set_option linter.unusedSimpArgs false

/-- The picks of so many turns. -/
def turnsZ (Z : Nat → Int) (k : Nat) : List (Int × Int) := (List.range k).map fun i => (0, Z i % 2)
theorem turnsZ_succ (Z : Nat → Int) (k : Nat) : turnsZ Z (k + 1) = turnsZ Z k ++ [(0, Z k % 2)] := by
  unfold turnsZ
  rw [List.range_succ, List.map_append]
  rfl
theorem both_fin {s : Mst} (h : BothI s) : ∃ t0 t1, s.ths.getD 0 tha = t0 ∧ s.ths.getD 1 tha = t1 ∧ s.ths.length = 2 ∧ (t0.pc < 3 ∨ t1.pc < 3 ∨ t0.regs 2 = 1 ∨ t1.regs 2 = 1) := by
  obtain ⟨t0, t1, evs, who, rfl, h0, h1, h3⟩ := h
  refine ⟨t0, t1, rfl, rfl, rfl, ?_⟩
  by_cases a : t0.pc < 3
  · exact .inl a
  by_cases b : t1.pc < 3
  · exact .inr (.inl b)
  have c0 : t0.pc = 3 := by cases h0 <;> first | rfl | exact absurd (show (0 : Int) < 3 from by decide) a | exact absurd (show (1 : Int) < 3 from by decide) a | exact absurd (show (2 : Int) < 3 from by decide) a
  have c1 : t1.pc = 3 := by cases h1 <;> first | rfl | exact absurd (show (0 : Int) < 3 from by decide) b | exact absurd (show (1 : Int) < 3 from by decide) b | exact absurd (show (2 : Int) < 3 from by decide) b
  exact .inr (.inr (h3 c0 c1))

set_option maxHeartbeats 8000000 in
theorem scBoth_true (A : Option Addr) (n cap : Nat) (hnc : n ≤ cap) (hcm : cap ≤ maxLen) (Z : Nat → Int) (hZ : ∀ i, i < n → 0 ≤ Z i ∧ Z i ≤ 255) (w : World) (hT : Tab w) (hs : Sl w A n (fun i => .int .u8 (Z i))) :
    Calls Tryd.prog 6 #[.slice A n cap] w fun e w' => e = .returned (.bool true) ∧ Below w.heap.size w w' := by
  have hN := hT.1
  have cA := awake_any w hT
  have HT := Lib.hid (And.intro hT (And.intro hs hZ))
  unfold maxLen at hcm
  clear hT hs hZ
  go_enter Tryd.func6, Tryd.ntmps6
  go_wp2_with fail
  refine cA.mono ?_
  rintro e W0 ⟨rfl, hB0⟩
  have hT0 := HT.out.1.step hB0
  clear cA
  by_cases hn : 600 < n
  · have hn6 : (600 : Int) < (n : Int) := by omega
    have cA := awake_any W0 hT0
    have H0 := Lib.hid hB0
    clear hB0 hT0 hn
    go_wp2_with fail
    refine cA.mono ?_
    rintro e W1 ⟨rfl, hB1⟩
    have H1 := Lib.hid (step_below H0.out hB1)
    clear cA hB1
    go_wp2
    go_ret
    exact ⟨rfl, H1.out⟩
  have hn6 : ¬ (600 : Int) < (n : Int) := by omega
  have H0 := Lib.hid (And.intro hB0 hT0)
  clear hB0 hT0
  go_wp2_with fail
  refine (both_any W0).mono ?_
  rintro e W1 ⟨ab, g0, g1, mb, rfl, hat, hB1⟩
  have cN := scNew_ok (pBoth ab g0 g1 mb) (pBoth_ok ab g0 g1 mb) 0 0 (pBoth_chk ab g0 g1 mb) W1 (H0.out.2.step hB1) hat
  have H1 := Lib.hid (step_below H0.out.1 hB1)
  clear hat hB1
  go_wp2_with fail
  refine cN.mono ?_
  rintro e W2 ⟨B, rfl, hNM, hI, hB2⟩
  have hsz : w.heap.size ≤ W1.heap.size := H1.out.size
  have H2 := Lib.hid (And.intro hNM (And.intro hI (step_below H1.out hB2)))
  have H2s := Lib.hid (show W1.heap.size ≤ W2.heap.size from hB2.size)
  clear cN hNM hI hB2 H1 H0
  go_wp2
  go_loopw [5] (fun i wr => ∃ k : Nat, k ≤ n ∧ i = .int .i64 (k : Int) ∧ Moves (MInv scL B) (sRun B (s0 (pBoth ab g0 g1 mb)) (turnsZ Z k)) (fun i => W1.heap.size ≤ i ∧ i < W2.heap.size) W2 wr) (fun i _ => n - (intOf i).toNat)
  case atStart => exact ⟨0, by omega, rfl, H2.out.2.1.stay⟩
  case round =>
    obtain ⟨k, hk, rfl, hM⟩ := hrel
    have HM := Lib.hid hM
    clear hM
    by_cases hkn : k < n
    · have hk1 : (k : Int) < (n : Int) := by omega
      have hk0 : (0 : Int) ≤ (k : Int) := by omega
      have hBw : Below w.heap.size w wr := KeepOut.belowM HM.out.keep H2.out.2.2 (by have := H2s.out; omega) (fun i hi => by have := hi.1; omega)
      have hzk := HT.out.2.2 k hkn
      obtain ⟨b, off, rfl, hlt, hcc⟩ := HT.out.2.1 (by omega)
      have hck : wr.cell? ⟨b, off + k, none⟩ = some (.int .u8 (Z k)) := keepAt hBw hlt (hcc k hkn)
      have HBw := Lib.hid hBw
      obtain ⟨z, hz⟩ : ∃ z, Z k = z := ⟨_, rfl⟩
      rw [hz] at hck hzk
      have HZ := Lib.hid hz
      clear hcc hBw hlt hz
      go_wp2_with fail
      have hcall : Calls Tryd.prog 23 #[.pointer (some ⟨B.mb, 0, none⟩), .agg #[.int .i64 0, .int .i64 (z % 2)]] wr fun e W' => (∃ u, e = .returned u) ∧ Moves (MInv scL B) (sRun B (s0 (pBoth ab g0 g1 mb)) (turnsZ Z (k + 1))) (fun i => W1.heap.size ≤ i ∧ i < W2.heap.size) W2 W' := by
        obtain ⟨own2, hI2, ho2, hk2⟩ := HM.out
        have hBok : MBok B := newM_ok H2.out.1 (by show 2 ≤ 8; decide) (by show 2 ≤ 1024; decide)
        have hcan : mCan B 3 (sRun B (s0 (pBoth ab g0 g1 mb)) (turnsZ Z k)) := sRun_can _ _ 3 (s0_can (by show 2 ≤ 8; decide) _ (by unfold turnsZ; rw [List.length_map, List.length_range]; omega))
        refine (spick_any B hBok _ (sRun_ok hBok _ _ (s0_ok (pBoth_ok ab g0 g1 mb) H2.out.1)) hcan own2 _ hI2 (HT.out.1.step HBw.out) (0, z % 2)).mono fun e W' ⟨he, hm⟩ => ⟨he, ?_⟩
        rw [turnsZ_succ, HZ.out, sRun_snoc]
        exact Moves.after ho2 hk2 hm
      with_reducible refine hcall.mono ?_
      rintro e W3 ⟨⟨u, rfl⟩, hM2⟩
      clear hcall HM HBw
      go_wp2
      go_roundw
      case rel => exact ⟨k + 1, by omega, by go_num, hM2⟩
      case measure => simp [intOf]; omega
    · obtain rfl : n = k := by omega
      have hk1 : ¬ (n : Int) < (n : Int) := by omega
      have hM6 := HM.out
      have HF := Lib.hid (KeepOut.belowM hM6.keep H2.out.2.2 (by have := H2s.out; omega) (fun i hi => by have := hi.1; omega))
      have hbi := both_run (bothB_of H2.out.1) (turnsZ Z n) _ (both_start ab g0 g1 mb) (fun x hx => by
        obtain ⟨i, hi, rfl⟩ := List.mem_map.1 hx
        have hz := HT.out.2.2 i (List.mem_range.1 hi)
        refine ⟨rfl, ?_⟩
        show Z i % 2 = 0 ∨ Z i % 2 = 1
        omega)
      obtain ⟨t0, t1, e0, e1, hnt, hfin⟩ := both_fin hbi
      generalize sRun B (s0 (pBoth ab g0 g1 mb)) (turnsZ Z n) = s6 at hM6 e0 e1 hnt
      obtain ⟨own6, hI6⟩ := hM6.inv
      have HI := Lib.hid hI6
      have c0 := sthread_any B s6 own6 wr hI6 0 (by omega)
      rw [e0, show ((0 : Nat) : Int) = 0 from rfl] at c0
      unfold thArr at c0
      have HR := Lib.hid (And.intro e1 hnt)
      clear hM6 hI6 HM hbi e0 e1 hnt
      have HFN := Lib.hid hfin
      clear hfin
      go_wp2_with fail
      refine c0.mono ?_
      rintro e W3 ⟨rfl, hb3⟩
      have HF3 := Lib.hid (step_belowN HF.out hb3 (HF.out.size))
      have c1 := sthread_any B s6 own6 W3 (HI.out.below hb3) 1 (by have := HR.out.2; omega)
      rw [HR.out.1, show ((1 : Nat) : Int) = 1 from rfl] at c1
      unfold thArr at c1
      clear c0 hb3 HI
      go_wp2_with fail
      refine c1.mono ?_
      rintro e W4 ⟨rfl, hb4⟩
      have HF4 := Lib.hid (step_belowN HF3.out hb4 (HF3.out.size))
      clear c1 hb4
      have hfin := HFN.out
      obtain ⟨p0, hp0⟩ : ∃ p, t0.pc = p := ⟨_, rfl⟩
      obtain ⟨p1, hp1⟩ : ∃ p, t1.pc = p := ⟨_, rfl⟩
      obtain ⟨q0, hq0⟩ : ∃ p, t0.regs 2 = p := ⟨_, rfl⟩
      obtain ⟨q1, hq1⟩ : ∃ p, t1.regs 2 = p := ⟨_, rfl⟩
      rw [hp0, hp1, hq0, hq1] at hfin
      try rw [hp0]
      try rw [hp1]
      try rw [hq0]
      try rw [hq1]
      clear hp0 hp1 hq0 hq1 HFN
      have HW := Lib.hid HF4.out.size
      by_cases a : p0 < 3
      · clear hfin
        go_wp2
        go_ret
        exact ⟨by simp [a], (HF4.out.alloc HW.out _).alloc (Nat.le_trans HW.out (by simp)) _⟩
      by_cases b : p1 < 3
      · clear hfin
        go_wp2
        go_ret
        exact ⟨by simp [a, b], (HF4.out.alloc HW.out _).alloc (Nat.le_trans HW.out (by simp)) _⟩
      by_cases c : q0 = 1
      · clear hfin
        subst c
        go_wp2
        go_ret
        exact ⟨by simp [a, b], (HF4.out.alloc HW.out _).alloc (Nat.le_trans HW.out (by simp)) _⟩
      · obtain rfl : q1 = 1 := by
          rcases hfin with h | h | h | h
          · exact absurd h a
          · exact absurd h b
          · exact absurd h c
          · exact h
        clear hfin
        have c' : (q0 == 1) = false := by simpa using c
        clear c
        go_wp2
        go_ret
        exact ⟨by simp [a, b, c'], (HF4.out.alloc HW.out _).alloc (Nat.le_trans HW.out (by simp)) _⟩
end Go.Proofs.YtjmnogpnjombgaaDoor

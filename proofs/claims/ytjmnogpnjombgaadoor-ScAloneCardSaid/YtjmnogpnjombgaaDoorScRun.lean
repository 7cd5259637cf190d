/- sc.Machine: Run, Thread, Count, Events. -/
import Derived.Test.YtjmnogpnjombgaaDoorScNew
namespace Go.Proofs.YtjmnogpnjombgaaDoor
open Go.ChangeShapes Go.WideShapes Go.ChangeAt Go.RowKit Go.Deep
set_option linter.unusedVariables false
set_option maxRecDepth 100000
set_option linter.unusedSimpArgs false

/-- What picks do, one behind the other. -/
def sRun (B : MB) (s : Mst) (l : List (Int × Int)) : Mst := l.foldl (sPick B) s
theorem sRun_ok {B : MB} (hB : MBok B) : ∀ (l : List (Int × Int)) (s : Mst), MOk B s → MOk B (sRun B s l)
  | [], s, h => h
  | x :: l, s, h => sRun_ok hB l _ (sPick_ok hB h x)
theorem sRun_can {B : MB} : ∀ (l : List (Int × Int)) (s : Mst) (n : Nat), mCan B (n + 3 * l.length) s → mCan B n (sRun B s l)
  | [], s, n, h => h
  | x :: l, s, n, h => sRun_can l _ n (sPick_can (n := n + 3 * l.length) (by rw [List.length_cons] at h; rw [show n + 3 * l.length + 3 = n + 3 * (l.length + 1) by omega]; exact h) x)
theorem sRun_snoc (B : MB) (s : Mst) (l : List (Int × Int)) (x : Int × Int) : sRun B s (l ++ [x]) = sPick B (sRun B s l) x := by unfold sRun; rw [List.foldl_append]; rfl
set_option maxHeartbeats 2000000 in
theorem srun_any (B : MB) (hB : MBok B) (s : Mst) (hs : MOk B s) (A : Option Addr) (n cap : Nat) (F : Nat → Int × Int) (hc : mCan B (3 + 3 * n) s) (own : Nat → Prop) (W : World) (hI : MInv scL B s own W) (hT : Tab W)
    (hsl : SlE W A n 2 (fun i => pkc (F i))) (hA : 0 < n → ∀ b o, A = some ⟨b, o, none⟩ → ¬ own b) (hn : n ≤ 1000000000) :
    Calls Tryd.prog 26 #[.pointer (some ⟨B.mb, 0, none⟩), .slice A n cap] W fun e W' => (∃ u, e = .returned u) ∧ Moves (MInv scL B) (sRun B s ((List.range n).map F)) own W W' := by
  have hlo := hI.lo
  have HB := Lib.hid (And.intro hB (And.intro hs (And.intro hc (And.intro hT hlo))))
  have HS := Lib.hid (And.intro hsl hA)
  have HI := Lib.hid hI.stay
  clear hB hs hc hI hT hsl hA hlo
  go_enter Tryd.func26, Tryd.ntmps26
  go_wp2_with fail
  go_loopw [5, 8] (fun q i wr => ∃ k : Nat, k ≤ n ∧ i = .int .i64 (k : Int) ∧ Moves (MInv scL B) (sRun B s ((List.range k).map F)) own W wr) (fun _ i _ => n - (intOf i).toNat)
  case atStart => exact ⟨0, Nat.zero_le _, rfl, HI.out⟩
  case round =>
    obtain ⟨k, hk, rfl, hM⟩ := hrel
    by_cases hkn : k < n
    · have hk0 : (0 : Int) ≤ (k : Int) := by omega
      have hk1 : (k : Int) < (n : Int) := by omega
      have hM0 := hM
      obtain ⟨own1, hI1, ho1, hk1'⟩ := hM
      obtain ⟨b, off, rfl, hlt, hcc⟩ := hk1'.sle HS.out.1 HS.out.2 (by omega)
      obtain ⟨x, hx⟩ : ∃ x, F k = x := ⟨_, rfl⟩
      have k0 := hcc k hkn 0 (.int .i64 (F k).1) rfl
      have k1 := hcc k hkn 1 (.int .i64 (F k).2) rfl
      rw [hx] at k0 k1
      rw [Nat.add_zero] at k0
      have HX := Lib.hid hx
      have hal := (Below.refl wr.heap.size wr).alloc (Nat.le_refl _) (.cells #[.int .i64 x.1, .int .i64 x.2] 67)
      have hM1 := hM0.belowM hal
      have hT1 : Tab wr := hk1'.tab HB.out.2.2.2.2 HB.out.2.2.2.1
      have HM1 := Lib.hid (And.intro hM1 (hT1.step hal))
      have HK := Lib.hid (And.intro ho1 hk1')
      clear hM0 hI1 ho1 hk1' hcc hx hal hM1 hT1
      go_wp2_with fail
      have hcall : Calls Tryd.prog 23 #[.pointer (some ⟨B.mb, 0, none⟩), .agg #[.int .i64 x.1, .int .i64 x.2]] (wr.alloc (.cells #[.int .i64 x.1, .int .i64 x.2] 67)) fun e W' => (∃ u, e = .returned u) ∧ Moves (MInv scL B) (sRun B s ((List.range (k + 1)).map F)) own W W' := by
        obtain ⟨own2, hI2, ho2, hk2⟩ := HM1.out.1
        have hcan : mCan B 3 (sRun B s ((List.range k).map F)) := sRun_can ((List.range k).map F) s 3 (by
          have := HB.out.2.2.1
          rw [List.length_map, List.length_range]
          exact ⟨by have := this.evs; omega, by have := this.slp; omega, this.who, this.buf, this.t8⟩)
        refine (spick_any B HB.out.1 _ (sRun_ok HB.out.1 _ s HB.out.2.1) hcan own2 _ hI2 HM1.out.2 x).mono fun e W' ⟨he, hm⟩ => ⟨he, ?_⟩
        rw [List.range_succ, List.map_append, List.map_cons, List.map_nil, HX.out, sRun_snoc]
        exact Moves.after ho2 hk2 hm
      refine hcall.mono ?_
      rintro e W2 ⟨⟨u, rfl⟩, hM2⟩
      clear hcall k0 k1
      go_wp2
      go_roundw
      case rel => exact ⟨k + 1, by omega, by go_num, hM2⟩
      case measure => simp [intOf]; omega
    · obtain rfl : n = k := by omega
      have hk1 : ¬ (n : Int) < (n : Int) := by omega
      go_wp2
      go_end0
      exact ⟨⟨_, rfl⟩, hM⟩

set_option maxHeartbeats 1000000 in
theorem scount_any (B : MB) (s : Mst) (own : Nat → Prop) (W : World) (hI : MInv scL B s own W) :
    Calls Tryd.prog 70 #[.pointer (some ⟨B.mb, 0, none⟩)] W fun e W' => e = .returned (.int .i64 (s.evs.length : Int)) ∧ W' = W := by
  obtain ⟨V, bcs, h⟩ := hI
  obtain ⟨A, cap, e5, _, _⟩ := own_cap (h.rows 5 (by decide))
  have ec : cnt B s 5 = s.evs.length := rfl
  rw [ec] at e5
  have c4 : W.cell? ⟨B.mb, 4, none⟩ = some (.slice A s.evs.length cap) := by rw [← e5]; exact h.cell (j := 5) (by decide) rfl
  clear h e5 ec
  go_enter Tryd.func70, Tryd.ntmps70
  go_wp2
  go_ret
  exact ⟨rfl, rfl⟩

set_option maxHeartbeats 1000000 in
theorem sevents_any (B : MB) (s : Mst) (own : Nat → Prop) (W : World) (hI : MInv scL B s own W) (hn : s.evs.length ≤ 2000000000) :
    Calls Tryd.prog 28 #[.pointer (some ⟨B.mb, 0, none⟩)] W fun e W' => ∃ v, e = .returned v ∧ W'.ownsRow W.heap.size 86 8 v s.evs.length (s.evs.flatMap Evt.cells) ∧ Below W.heap.size W W' := by
  obtain ⟨V, bcs, h⟩ := hI
  have hr : W.ownsRow 0 86 8 (V 5) s.evs.length (s.evs.flatMap Evt.cells) := h.rows 5 (by decide)
  have cC := clone_events_own (V 5) s.evs.length 0 _ W hr (evt_cells_one s.evs) hn
  obtain ⟨A, cap, e5, _, _⟩ := own_cap hr
  have c4 : W.cell? ⟨B.mb, 4, none⟩ = some (V 5) := h.cell (j := 5) (by decide) rfl
  rw [e5] at c4 cC
  clear h hr e5
  go_enter Tryd.func28, Tryd.ntmps28
  go_wp2_with fail
  refine cC.mono ?_
  rintro e W2 ⟨v, rfl, hv, hb⟩
  have HF := Lib.hid (And.intro hv hb)
  obtain ⟨vA, vc, rfl, _, _⟩ := own_cap hv
  clear cC hv hb
  go_wp2
  go_ret
  exact ⟨_, rfl, HF.out.1, HF.out.2⟩

set_option maxHeartbeats 1000000 in
theorem sthread_any (B : MB) (s : Mst) (own : Nat → Prop) (W : World) (hI : MInv scL B s own W) (t : Nat) (ht : t < s.ths.length) :
    Calls Tryd.prog 24 #[.pointer (some ⟨B.mb, 0, none⟩), .int .i64 (t : Int)] W fun e W' => e = .returned (.agg (thArr (s.ths.getD t tha))) ∧ Below W.heap.size W W' := by
  have hal := (Below.refl W.heap.size W).alloc (Nat.le_refl _) (.cells th0 25)
  have hU := Blk.new W 25 th0
  obtain ⟨V, bcs, h⟩ := hI.below hal
  obtain ⟨g, cap, e1, hgc, hgm, hra, hth, hgn, hog, _⟩ := h.thAt ht
  have c1 : (W.alloc (.cells th0 25)).cell? ⟨B.mb, 1, none⟩ = some (.slice (some ⟨g, 0, none⟩) s.ths.length cap) := by rw [← e1]; exact h.cell (j := 1) (by decide) rfl
  have hw0 : ¬ (t : Int) < 0 := by omega
  have hw1 : ¬ (s.ths.length : Int) ≤ (t : Int) := by omega
  have hw2 : (0 : Int) ≤ (t : Int) := by omega
  have hw3 : (t : Int) < (s.ths.length : Int) := by omega
  obtain ⟨th, hth⟩ : ∃ th, s.ths.getD t tha = th := ⟨_, rfl⟩
  rw [hth] at hra ⊢
  unfold th0 at hal hU c1 hra
  clear h e1 hgc hgm hgn hog ht hth
  go_enter Tryd.func24, Tryd.ntmps24
  go_wp2_with (first
    | (refine wpList_load_mid rfl 25 (.tmp 22) rfl g (t * 10) rfl th.cells _ hra Tryd.underlying25 rfl th_infoL ?_)
    | (refine wpList_store_row rfl 25 (.tmp 4) (.tmp 23) rfl _ rfl (thArr th) rfl 25 _ hU rfl th_info (th_one th) ?_; intro w1 hb1 hg1; have hB1 := below_row hal hg1 (by simp) (Nat.le_refl _); clear hal hU hg1))
  exact bodyPost_ret (results_cell Tryd.results24 _ _ _ _ rfl (run_row _ _ _ _ _ _ hb1 Tryd.underlying25 rfl th_info)) rfl ⟨rfl, hB1⟩
end Go.Proofs.YtjmnogpnjombgaaDoor

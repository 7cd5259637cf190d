/- RwCode. -/
import Derived.Test.YtmhfpjnkjlhbpaaGreatDoorTsA4
namespace Go.Proofs.YtmhfpjnkjlhbpaaGreatDoor
open Go.ChangeShapes Go.WideShapes Go.ChangeAt Go.RowKit Go.Deep
set_option linter.unusedVariables false
set_option maxRecDepth 100000
set_option linter.unusedSimpArgs false
def doneT (s : Mst) (t : Nat) : Bool := (s.ths.getD t tha).st != 0 && (s.ths.getD t tha).st != 1 && (s.bufs.getD t []).length == 0
def doneM (s : Mst) : Bool := (List.range s.ths.length).all (doneT s)
theorem doneM_no {s : Mst} {t : Nat} (ht : t < s.ths.length) (h : doneT s t = false) : doneM s = false := by
  unfold doneM
  rw [List.all_eq_false]
  exact ⟨t, List.mem_range.2 ht, by rw [h]; decide⟩
theorem doneM_yes {s : Mst} (h : ∀ t, t < s.ths.length → doneT s t = true) : doneM s = true := List.all_eq_true.2 fun t ht => h t (List.mem_range.1 ht)
theorem below_of_grownT {w w' : World} {row : Option Nat} {N : Nat} (hN : N ≤ w.heap.size) (h : w.grownBy w' row) (hr : ∀ g, row = some g → N ≤ g) : Below N w w' :=
  ⟨h.os, h.tape, h.output, h.size, fun k hk => h.block k (Nat.lt_of_lt_of_le hk hN) (fun e => by have := hr k e.symm; omega)⟩
section
variable {P : Program}
theorem wpList_load_midG {ops : Array Oper} {rest : List Oper} {op : Oper} {a : Act} {w : World} {Q : Exit → Act → World → Prop} (hgd : Region.wanted op (yielded ops a.tmps) = true) (ty : TypeId) (x : Operand) (ho : op.op = .load ty x)
    (b o : Nat) (hx : a.eval x = .pointer (some ⟨b, o, none⟩)) (cs : List Value) (d : TypeDesc) (hc : w.rangeAt b o cs)
    (hu : P.underlying ty = some d) (hd : d.isRow = true) (hi : (P.info? ty).map (·.size) = some cs.length)
    (h : wpList P ops Q rest (a.put op.dst (.agg cs.toArray)) w) : wpList P ops Q (op :: rest) a w :=
  wpList_step fun _ hK => by
    rw [if_pos hgd]
    exact wp_load_mid ty x ho b o hx cs d hc hu hd hi (hK _ _ h)
end
set_option maxHeartbeats 2000000 in
theorem tdone_any (B : MB) (s : Mst) (own : Nat → Prop) (W : World) (hI : MInv tsoL B s own W) (h0 : 0 < s.ths.length) (h8 : s.ths.length ≤ 8) (hbl : s.bufs.length = s.ths.length) :
    Calls Tryz.prog 21 #[.pointer (some ⟨B.mb, 0, none⟩)] W fun e W' => e = .returned (.bool (doneM s)) ∧ Below W.heap.size W W' := by
  obtain ⟨V, bcs, h⟩ := hI
  obtain ⟨g1, cap1, e1, hc1, hm1, hx1⟩ := h.thAt h0
  obtain ⟨g2, cap2, cs0, e2, hc2, hm2, hx2⟩ := h.bufAt (t := 0) (by omega)
  clear hx1 hx2
  have c1 : W.cell? ⟨B.mb, 1, none⟩ = some (.slice (some ⟨g1, 0, none⟩) s.ths.length cap1) := by rw [← e1]; exact h.cell (j := 1) (by decide) rfl
  have HH := Lib.hid (And.intro h (And.intro e1 e2))
  obtain ⟨n, hn⟩ : ∃ n, s.ths.length = n := ⟨_, rfl⟩
  rw [hn] at c1 hc1 h8
  have HN := Lib.hid (And.intro hn hbl)
  clear h e1 e2 hn hbl h0 hc2 hm2
  go_enter Tryz.func21, Tryz.ntmps21
  go_wp2_with fail
  go_loopw [10] (fun i wr => ∃ k : Nat, k ≤ n ∧ i = .int .i64 (k : Int) ∧ (∀ j, j < k → doneT s j = true) ∧ Below W.heap.size W wr) (fun i _ => n - (intOf i).toNat)
  case atStart => exact ⟨0, Nat.zero_le _, rfl, fun j hj => absurd hj (Nat.not_lt_zero _), Below.refl _ _⟩
  case round =>
    obtain ⟨k, hk, rfl, hall, hB⟩ := hrel
    by_cases hkn : k < n
    · have hk0 : (0 : Int) ≤ (k : Int) := by omega
      have hk1 : (k : Int) < (n : Int) := by omega
      have h' := HH.out.1.below hB
      obtain ⟨g, cap, e1, hx1, hx2, hra, hx3⟩ := h'.thAt (t := k) (by rw [HN.out.1]; exact hkn)
      obtain ⟨gb, capb, cs, e2, hx4, hx5, hbuf, hrb, hx6⟩ := h'.bufAt (t := k) (by rw [HN.out.2, HN.out.1]; exact hkn)
      clear hx1 hx2 hx3 hx4 hx5 hx6
      rw [HH.out.2.1] at e1
      injection e1 with e1 e1n e1c
      clear e1n
      subst e1c
      injection e1 with e1
      injection e1 with e1 _ _
      subst e1
      have c2 : wr.cell? ⟨B.mb, 2, none⟩ = some (.slice (some ⟨gb, 0, none⟩) s.bufs.length capb) := by rw [← e2]; exact h'.cell (j := 2) (by decide) rfl
      rw [HN.out.2, HN.out.1] at c2
      have hlen : (s.bufs.getD k []).length ≤ 16 := hbuf.le
      have hC := len_any cs (s.bufs.getD k []) B.room hbuf
      obtain ⟨m, hm⟩ : ∃ m, (s.bufs.getD k []).length = m := ⟨_, rfl⟩
      obtain ⟨th, hth⟩ : ∃ th, s.ths.getD k tha = th := ⟨_, rfl⟩
      rw [hm] at hlen hC
      rw [hth] at hra
      have hlt2 : gb < wr.heap.size := (h'.lo gb (h'.vb 2 (by decide) gb (by rw [e2]; rfl))).2
      have hbm := h'.blt
      obtain ⟨pc, regs, st⟩ := th
      have hD : doneT s k = (st != 0 && st != 1 && m == 0) := by unfold doneT; rw [hth, hm]
      have HA := Lib.hid (And.intro hall (And.intro hD (And.intro hB (And.intro hrb (And.intro hlt2 (And.intro c2 (And.intro hbm (buf_infoL hbuf))))))))
      clear h' e2 hbuf hall hD hm hth hrb hlt2 c2 hB hbm
      have hz := Blk.new wr 124 #[.int .i64 0, .int .u32 0, .int .u32 0, .int .u32 0, .int .u32 0, .int .u32 0, .int .u32 0, .int .u32 0, .int .u32 0, .int .i64 0]
      have hal := (Below.refl wr.heap.size wr).alloc (Nat.le_refl _) (.cells #[.int .i64 0, .int .u32 0, .int .u32 0, .int .u32 0, .int .u32 0, .int .u32 0, .int .u32 0, .int .u32 0, .int .u32 0, .int .i64 0] 124)
      by_cases s0 : st = 0
      · subst s0
        go_wp2_with (first | (refine wpList_load_mid rfl 124 (.tmp 13) rfl g1 (k * 10) rfl (⟨pc, regs, 0⟩ : Th).cells _ hra Tryz.underlying124 rfl th_info ?_) | (refine wpList_store_row rfl 124 (.tmp 4) (.tmp 14) rfl _ rfl (thArr ⟨pc, regs, 0⟩) rfl 124 _ hz rfl th_info (th_one _) ?_))
        intro W9 hb9 hg9
        have p9 : W9.cell? ⟨wr.heap.size, 9, none⟩ = some (.int .i64 0) := (hb9.cell 9).trans rfl
        have hw9 : Below wr.heap.size wr W9 := hal.trans (below_of_grownT hal.size hg9 (fun g e => by cases e; exact Nat.le_refl _))
        have HB9 := Lib.hid (HA.out.2.2.1.trans (hw9.mono HA.out.2.2.1.size))
        have c2 := keepAt hw9 HA.out.2.2.2.2.2.2.1 HA.out.2.2.2.2.2.1
        have hrb9 := range_below HA.out.2.2.2.1 HA.out.2.2.2.2.1 hw9
        clear hz hal hw9
        go_wp2
        go_ret
        refine ⟨?_, HB9.out⟩
        rw [doneM_no (t := k) (by rw [HN.out.1]; exact hkn) (by rw [HA.out.2.1]; rfl)]
        rfl
      · by_cases s1 : st = 1
        · subst s1
          go_wp2_with (first | (refine wpList_load_mid rfl 124 (.tmp 13) rfl g1 (k * 10) rfl (⟨pc, regs, 1⟩ : Th).cells _ hra Tryz.underlying124 rfl th_info ?_) | (refine wpList_store_row rfl 124 (.tmp 4) (.tmp 14) rfl _ rfl (thArr ⟨pc, regs, 1⟩) rfl 124 _ hz rfl th_info (th_one _) ?_))
          intro W9 hb9 hg9
          have p9 : W9.cell? ⟨wr.heap.size, 9, none⟩ = some (.int .i64 1) := (hb9.cell 9).trans rfl
          have hw9 : Below wr.heap.size wr W9 := hal.trans (below_of_grownT hal.size hg9 (fun g e => by cases e; exact Nat.le_refl _))
          have HB9 := Lib.hid (HA.out.2.2.1.trans (hw9.mono HA.out.2.2.1.size))
          have c2 := keepAt hw9 HA.out.2.2.2.2.2.2.1 HA.out.2.2.2.2.2.1
          have hrb9 := range_below HA.out.2.2.2.1 HA.out.2.2.2.2.1 hw9
          clear hz hal hw9
          go_wp2
          go_ret
          refine ⟨?_, HB9.out⟩
          rw [doneM_no (t := k) (by rw [HN.out.1]; exact hkn) (by rw [HA.out.2.1]; rfl)]
          rfl
        · have hD := HA.out.2.1
          rw [show (st != 0) = true by simpa using s0, show (st != 1) = true by simpa using s1] at hD
          have HD := Lib.hid hD
          clear hD
          have hs0 : (st == 0) = false := by simpa using s0
          have hs1 : (st == 1) = false := by simpa using s1
          go_wp2_with (first | (refine wpList_load_mid rfl 124 (.tmp 13) rfl g1 (k * 10) rfl (⟨pc, regs, st⟩ : Th).cells _ hra Tryz.underlying124 rfl th_info ?_) | (refine wpList_store_row rfl 124 (.tmp 4) (.tmp 14) rfl _ rfl (thArr ⟨pc, regs, st⟩) rfl 124 _ hz rfl th_info (th_one _) ?_))
          intro W9 hb9 hg9
          have p9 : W9.cell? ⟨wr.heap.size, 9, none⟩ = some (.int .i64 st) := (hb9.cell 9).trans rfl
          have hw9 : Below wr.heap.size wr W9 := hal.trans (below_of_grownT hal.size hg9 (fun g e => by cases e; exact Nat.le_refl _))
          have HB9 := Lib.hid (HA.out.2.2.1.trans (hw9.mono HA.out.2.2.1.size))
          have c2 := keepAt hw9 HA.out.2.2.2.2.2.2.1 HA.out.2.2.2.2.2.1
          have hrb9 := range_below HA.out.2.2.2.1 HA.out.2.2.2.2.1 hw9
          clear hz hal hw9
          go_wp2_with (refine wpList_load_midG (by simp [Region.wanted, yielded, s0, s1]) 114 (.tmp 29) rfl gb (k * 35) rfl cs.toList _ hrb9 Tryz.underlying114 rfl HA.out.2.2.2.2.2.2.2 ?_)
          refine (hC W9).mono ?_
          rintro e W10 ⟨rfl, hB10⟩
          have HE := Lib.hid (HB9.out.trans (hB10.mono HB9.out.size))
          clear hC hB10
          by_cases m0 : m = 0
          · subst m0
            go_wp2
            go_roundw
            case rel =>
              refine ⟨k + 1, by omega, by go_num, fun j hj => ?_, HE.out⟩
              by_cases c : j < k
              · exact HA.out.1 j c
              · obtain rfl : j = k := by omega
                exact HD.out
            case measure => simp [intOf]; omega
          · have m1 : (0 : Int) < (m : Int) := by omega
            go_wp2
            go_ret
            refine ⟨?_, HE.out⟩
            rw [doneM_no (t := k) (by rw [HN.out.1]; exact hkn) (by rw [HD.out]; simpa using m0)]
            rfl
    · obtain rfl : k = n := by omega
      have hk1 : ¬ (k : Int) < (k : Int) := by omega
      have HA := Lib.hid (And.intro hall hB)
      clear hall hB
      go_wp2
      go_ret
      refine ⟨?_, HA.out.2⟩
      rw [doneM_yes (by rw [HN.out.1]; exact HA.out.1)]
      rfl
end Go.Proofs.YtmhfpjnkjlhbpaaGreatDoor

/- tso.Machine.Done. seq (plain): the codes of writers and readers, how their pieces follow one another; what the machine comes to. -/
import Derived.Test.YtmhfpjnkjlhbpaaGreatDoorQb23
import Derived.Test.YtmhfpjnkjlhbpaaGreatDoorQb28
import Derived.Test.YtmhfpjnkjlhbpaaGreatDoorQb33
namespace Go.Proofs.YtmhfpjnkjlhbpaaGreatDoor
open Go.ChangeShapes Go.WideShapes Go.ChangeAt Go.RowKit Go.Deep
set_option linter.unusedVariables false
set_option maxRecDepth 100000
set_option linter.unusedSimpArgs false

def doneT (s : Mst) (t : Nat) : Bool := (s.ths.getD t tha).st != 0 && (s.ths.getD t tha).st != 1 && (s.bufs.getD t []).length == 0
def doneM (s : Mst) : Bool := (List.range s.ths.length).all (doneT s)
theorem doneM_no {s : Mst} {t : Nat} (ht : t < s.ths.length) (h : doneT s t = false) : doneM s = false := by
  unfold doneM
  rw [List.all_eq_false]
  exact ⟨t, List.mem_range.2 ht, by rw [h]; decide⟩
theorem doneM_yes {s : Mst} (h : ∀ t, t < s.ths.length → doneT s t = true) : doneM s = true := List.all_eq_true.2 fun t ht => h t (List.mem_range.1 ht)

theorem below_of_grownT {w w' : World} {row : Option Nat} {N : Nat} (hN : N ≤ w.heap.size) (h : w.grownBy w' row) (hr : ∀ g, row = some g → N ≤ g) : Below N w w' :=
  ⟨h.os, h.tape, h.output, h.size, fun k hk => h.block k (Nat.lt_of_lt_of_le hk hN) (fun e => by have := hr k e.symm; omega)⟩
section
variable {P : Program}
theorem wpList_load_midG {ops : Array Oper} {rest : List Oper} {op : Oper} {a : Act} {w : World} {Q : Exit → Act → World → Prop} (hgd : Region.wanted op (yielded ops a.tmps) = true) (ty : TypeId) (x : Operand) (ho : op.op = .load ty x)
    (b o : Nat) (hx : a.eval x = .pointer (some ⟨b, o, none⟩)) (cs : List Value) (d : TypeDesc) (hc : w.rangeAt b o cs)
    (hu : P.underlying ty = some d) (hd : d.isRow = true) (hi : (P.info? ty).map (·.size) = some cs.length)
    (h : wpList P ops Q rest (a.put op.dst (.agg cs.toArray)) w) : wpList P ops Q (op :: rest) a w :=
  wpList_step fun _ hK => by
    rw [if_pos hgd]
    exact wp_load_mid ty x ho b o hx cs d hc hu hd hi (hK _ _ h)
end
set_option maxHeartbeats 2000000 in
theorem tdone_any (B : MB) (s : Mst) (own : Nat → Prop) (W : World) (hI : MInv tsoL B s own W) (h0 : 0 < s.ths.length) (h8 : s.ths.length ≤ 8) (hbl : s.bufs.length = s.ths.length) :
    Calls Tryz.prog 21 #[.pointer (some ⟨B.mb, 0, none⟩)] W fun e W' => e = .returned (.bool (doneM s)) ∧ Below W.heap.size W W' := by
  obtain ⟨V, bcs, h⟩ := hI
  obtain ⟨g1, cap1, e1, hc1, hm1, hx1⟩ := h.thAt h0
  obtain ⟨g2, cap2, cs0, e2, hc2, hm2, hx2⟩ := h.bufAt (t := 0) (by omega)
  clear hx1 hx2
  have c1 : W.cell? ⟨B.mb, 1, none⟩ = some (.slice (some ⟨g1, 0, none⟩) s.ths.length cap1) := by rw [← e1]; exact h.cell (j := 1) (by decide) rfl
  have HH := Lib.hid (And.intro h (And.intro e1 e2))
  obtain ⟨n, hn⟩ : ∃ n, s.ths.length = n := ⟨_, rfl⟩
  rw [hn] at c1 hc1 h8
  have HN := Lib.hid (And.intro hn hbl)
  clear h e1 e2 hn hbl h0 hc2 hm2
  go_enter Tryz.func21, Tryz.ntmps21
  go_wp2_with fail
  go_loopw [10] (fun i wr => ∃ k : Nat, k ≤ n ∧ i = .int .i64 (k : Int) ∧ (∀ j, j < k → doneT s j = true) ∧ Below W.heap.size W wr) (fun i _ => n - (intOf i).toNat)
  case atStart => exact ⟨0, Nat.zero_le _, rfl, fun j hj => absurd hj (Nat.not_lt_zero _), Below.refl _ _⟩
  case round =>
    obtain ⟨k, hk, rfl, hall, hB⟩ := hrel
    by_cases hkn : k < n
    · have hk0 : (0 : Int) ≤ (k : Int) := by omega
      have hk1 : (k : Int) < (n : Int) := by omega
      have h' := HH.out.1.below hB
      obtain ⟨g, cap, e1, hx1, hx2, hra, hx3⟩ := h'.thAt (t := k) (by rw [HN.out.1]; exact hkn)
      obtain ⟨gb, capb, cs, e2, hx4, hx5, hbuf, hrb, hx6⟩ := h'.bufAt (t := k) (by rw [HN.out.2, HN.out.1]; exact hkn)
      clear hx1 hx2 hx3 hx4 hx5 hx6
      rw [HH.out.2.1] at e1
      injection e1 with e1 e1n e1c
      clear e1n
      subst e1c
      injection e1 with e1
      injection e1 with e1 _ _
      subst e1
      have c2 : wr.cell? ⟨B.mb, 2, none⟩ = some (.slice (some ⟨gb, 0, none⟩) s.bufs.length capb) := by rw [← e2]; exact h'.cell (j := 2) (by decide) rfl
      rw [HN.out.2, HN.out.1] at c2
      have hlen : (s.bufs.getD k []).length ≤ 16 := hbuf.le
      have hC := len_any cs (s.bufs.getD k []) B.room hbuf
      obtain ⟨m, hm⟩ : ∃ m, (s.bufs.getD k []).length = m := ⟨_, rfl⟩
      obtain ⟨th, hth⟩ : ∃ th, s.ths.getD k tha = th := ⟨_, rfl⟩
      rw [hm] at hlen hC
      rw [hth] at hra
      have hlt2 : gb < wr.heap.size := (h'.lo gb (h'.vb 2 (by decide) gb (by rw [e2]; rfl))).2
      have hbm := h'.blt
      obtain ⟨pc, regs, st⟩ := th
      have hD : doneT s k = (st != 0 && st != 1 && m == 0) := by unfold doneT; rw [hth, hm]
      have HA := Lib.hid (And.intro hall (And.intro hD (And.intro hB (And.intro hrb (And.intro hlt2 (And.intro c2 (And.intro hbm (buf_infoL hbuf))))))))
      clear h' e2 hbuf hall hD hm hth hrb hlt2 c2 hB hbm
      have hz := Blk.new wr 124 #[.int .i64 0, .int .u32 0, .int .u32 0, .int .u32 0, .int .u32 0, .int .u32 0, .int .u32 0, .int .u32 0, .int .u32 0, .int .i64 0]
      have hal := (Below.refl wr.heap.size wr).alloc (Nat.le_refl _) (.cells #[.int .i64 0, .int .u32 0, .int .u32 0, .int .u32 0, .int .u32 0, .int .u32 0, .int .u32 0, .int .u32 0, .int .u32 0, .int .i64 0] 124)
      by_cases s0 : st = 0
      · subst s0
        go_wp2_with (first | (refine wpList_load_mid rfl 124 (.tmp 13) rfl g1 (k * 10) rfl (⟨pc, regs, 0⟩ : Th).cells _ hra Tryz.underlying124 rfl th_info ?_) | (refine wpList_store_row rfl 124 (.tmp 4) (.tmp 14) rfl _ rfl (thArr ⟨pc, regs, 0⟩) rfl 124 _ hz rfl th_info (th_one _) ?_))
        intro W9 hb9 hg9
        have p9 : W9.cell? ⟨wr.heap.size, 9, none⟩ = some (.int .i64 0) := (hb9.cell 9).trans rfl
        have hw9 : Below wr.heap.size wr W9 := hal.trans (below_of_grownT hal.size hg9 (fun g e => by cases e; exact Nat.le_refl _))
        have HB9 := Lib.hid (HA.out.2.2.1.trans (hw9.mono HA.out.2.2.1.size))
        have c2 := keepAt hw9 HA.out.2.2.2.2.2.2.1 HA.out.2.2.2.2.2.1
        have hrb9 := range_below HA.out.2.2.2.1 HA.out.2.2.2.2.1 hw9
        clear hz hal hw9
        go_wp2
        go_ret
        refine ⟨?_, HB9.out⟩
        rw [doneM_no (t := k) (by rw [HN.out.1]; exact hkn) (by rw [HA.out.2.1]; rfl)]
        rfl
      · by_cases s1 : st = 1
        · subst s1
          go_wp2_with (first | (refine wpList_load_mid rfl 124 (.tmp 13) rfl g1 (k * 10) rfl (⟨pc, regs, 1⟩ : Th).cells _ hra Tryz.underlying124 rfl th_info ?_) | (refine wpList_store_row rfl 124 (.tmp 4) (.tmp 14) rfl _ rfl (thArr ⟨pc, regs, 1⟩) rfl 124 _ hz rfl th_info (th_one _) ?_))
          intro W9 hb9 hg9
          have p9 : W9.cell? ⟨wr.heap.size, 9, none⟩ = some (.int .i64 1) := (hb9.cell 9).trans rfl
          have hw9 : Below wr.heap.size wr W9 := hal.trans (below_of_grownT hal.size hg9 (fun g e => by cases e; exact Nat.le_refl _))
          have HB9 := Lib.hid (HA.out.2.2.1.trans (hw9.mono HA.out.2.2.1.size))
          have c2 := keepAt hw9 HA.out.2.2.2.2.2.2.1 HA.out.2.2.2.2.2.1
          have hrb9 := range_below HA.out.2.2.2.1 HA.out.2.2.2.2.1 hw9
          clear hz hal hw9
          go_wp2
          go_ret
          refine ⟨?_, HB9.out⟩
          rw [doneM_no (t := k) (by rw [HN.out.1]; exact hkn) (by rw [HA.out.2.1]; rfl)]
          rfl
        · have hD := HA.out.2.1
          rw [show (st != 0) = true by simpa using s0, show (st != 1) = true by simpa using s1] at hD
          have HD := Lib.hid hD
          clear hD
          have hs0 : (st == 0) = false := by simpa using s0
          have hs1 : (st == 1) = false := by simpa using s1
          go_wp2_with (first | (refine wpList_load_mid rfl 124 (.tmp 13) rfl g1 (k * 10) rfl (⟨pc, regs, st⟩ : Th).cells _ hra Tryz.underlying124 rfl th_info ?_) | (refine wpList_store_row rfl 124 (.tmp 4) (.tmp 14) rfl _ rfl (thArr ⟨pc, regs, st⟩) rfl 124 _ hz rfl th_info (th_one _) ?_))
          intro W9 hb9 hg9
          have p9 : W9.cell? ⟨wr.heap.size, 9, none⟩ = some (.int .i64 st) := (hb9.cell 9).trans rfl
          have hw9 : Below wr.heap.size wr W9 := hal.trans (below_of_grownT hal.size hg9 (fun g e => by cases e; exact Nat.le_refl _))
          have HB9 := Lib.hid (HA.out.2.2.1.trans (hw9.mono HA.out.2.2.1.size))
          have c2 := keepAt hw9 HA.out.2.2.2.2.2.2.1 HA.out.2.2.2.2.2.1
          have hrb9 := range_below HA.out.2.2.2.1 HA.out.2.2.2.2.1 hw9
          clear hz hal hw9
          go_wp2_with (refine wpList_load_midG (by simp [Region.wanted, yielded, s0, s1]) 114 (.tmp 29) rfl gb (k * 35) rfl cs.toList _ hrb9 Tryz.underlying114 rfl HA.out.2.2.2.2.2.2.2 ?_)
          refine (hC W9).mono ?_
          rintro e W10 ⟨rfl, hB10⟩
          have HE := Lib.hid (HB9.out.trans (hB10.mono HB9.out.size))
          clear hC hB10
          by_cases m0 : m = 0
          · subst m0
            go_wp2
            go_roundw
            case rel =>
              refine ⟨k + 1, by omega, by go_num, fun j hj => ?_, HE.out⟩
              by_cases c : j < k
              · exact HA.out.1 j c
              · obtain rfl : j = k := by omega
                exact HD.out
            case measure => simp [intOf]; omega
          · have m1 : (0 : Int) < (m : Int) := by omega
            go_wp2
            go_ret
            refine ⟨?_, HE.out⟩
            rw [doneM_no (t := k) (by rw [HN.out.1]; exact hkn) (by rw [HD.out]; simpa using m0)]
            rfl
    · obtain rfl : k = n := by omega
      have hk1 : ¬ (k : Int) < (k : Int) := by omega
      have HA := Lib.hid (And.intro hall hB)
      clear hall hB
      go_wp2
      go_ret
      refine ⟨?_, HA.out.2⟩
      rw [doneM_yes (by rw [HN.out.1]; exact HA.out.1)]
      rfl
end Go.Proofs.YtmhfpjnkjlhbpaaGreatDoor
namespace Go.Proofs.YtmhfpjnkjlhbpaaGreatDoor
open Go.ChangeShapes Go.WideShapes Go.ChangeAt Go.RowKit Go.Deep
set_option linter.unusedVariables false
set_option maxRecDepth 100000
set_option linter.unusedSimpArgs false

theorem step_mod {M rd n : Nat} (hM : 0 < M) (hn : n < rd * M) : n / M < rd ∧ ((n % M + 1 < M ∧ n + 1 < rd * M ∧ (n + 1) % M = n % M + 1 ∧ (n + 1) / M = n / M) ∨ (n % M + 1 = M ∧ (n + 1) % M = 0 ∧ (n + 1) / M = n / M + 1 ∧ ((n + 1 = rd * M ∧ n / M + 1 = rd) ∨ (n + 1 < rd * M ∧ n / M + 1 < rd)))) := by
  have e := Nat.div_add_mod n M
  have hc := Nat.mod_lt n hM
  have hq : n / M < rd := Nat.div_lt_of_lt_mul (by rw [Nat.mul_comm]; exact hn)
  obtain ⟨q, hqe⟩ : ∃ q, n / M = q := ⟨_, rfl⟩
  obtain ⟨c, hce⟩ : ∃ c, n % M = c := ⟨_, rfl⟩
  rw [hqe, hce] at e
  rw [hce] at hc
  rw [hqe] at hq
  have h1 : M * (q + 1) ≤ M * rd := Nat.mul_le_mul_left M hq
  have h2 : M * (q + 1) = M * q + M := Nat.mul_succ M q
  have h3 : rd * M = M * rd := Nat.mul_comm _ _
  rw [hqe, hce]
  refine ⟨hq, ?_⟩
  rcases Nat.lt_or_ge (c + 1) M with h | h
  · have e1 : n + 1 = M * q + (c + 1) := by omega
    refine .inl ⟨h, by omega, ?_, ?_⟩
    · rw [e1, Nat.mul_add_mod, Nat.mod_eq_of_lt h]
    · rw [e1, Nat.mul_add_div hM, Nat.div_eq_of_lt h, Nat.add_zero]
  · have e1 : n + 1 = M * (q + 1) := by omega
    refine .inr ⟨by omega, by rw [e1, Nat.mul_mod_right], by rw [e1, Nat.mul_div_cancel_left _ hM], ?_⟩
    rcases Nat.lt_or_ge (q + 1) rd with k | k
    · have := Nat.mul_le_mul_left M (show q + 1 + 1 ≤ rd from k)
      have h4 : M * (q + 1 + 1) = M * (q + 1) + M := Nat.mul_succ M (q + 1)
      exact .inr ⟨by omega, k⟩
    · have e2 : q + 1 = rd := by omega
      exact .inl ⟨by rw [h3, ← e2]; exact e1, e2⟩
def bsQ (kd : Nat → Sg) : Nat → Nat
  | 0 => 0
  | n + 1 => bsQ kd n + sgLen (kd n)
theorem kdW {N rd : Nat} (h1 : 1 ≤ N) (h3 : N ≤ 3) (hr : 1 ≤ rd) : Kd N rd (sgW N) (fun n => n / (N + 2)) (fun n => n - (N + 1)) (rd * (N + 2)) (bsQ (sgW N)) true := by
  have hM : 0 < N + 2 := by omega
  refine ⟨fun n hn hk => ?_, fun n i hn hk => ?_, fun n hn hk => ?_, fun n hn hk => ?_, fun n i hn hk => ?_, fun n hn hk => ?_, fun n i hn hk => ?_, fun _ => rfl, fun n hn => (step_mod hM hn).1, fun _ => ⟨?_, Nat.zero_div _⟩, fun h => ?_, rfl⟩
  · obtain ⟨_, q⟩ := step_mod hM hn
    unfold sgW at hk
    split at hk
    · rename_i c
      rcases q with ⟨q1, q2, q3, q4⟩ | ⟨q1, _⟩
      · refine ⟨q2, ?_, q4⟩
        unfold sgW
        rw [q3, c, if_neg (by omega), if_pos (by omega)]
      · omega
    · split at hk <;> cases hk
  · obtain ⟨_, q⟩ := step_mod hM hn
    unfold sgW at hk
    split at hk
    · cases hk
    · rename_i c
      split at hk
      · rename_i c2
        injection hk with hk
        rcases q with ⟨q1, q2, q3, q4⟩ | ⟨q1, _⟩
        · refine ⟨by omega, q2, q4, ?_⟩
          unfold sgW
          rw [q3, if_neg (by omega)]
          by_cases d : i + 1 < N
          · rw [if_pos (by omega), if_pos d]; congr 1; omega
          · rw [if_neg (by omega), if_neg d]
        · omega
      · cases hk
  · obtain ⟨_, q⟩ := step_mod hM hn
    unfold sgW at hk
    split at hk
    · cases hk
    · split at hk
      · cases hk
      · rename_i c c2
        refine ⟨rfl, ?_⟩
        rcases q with ⟨q1, q2, q3, q4⟩ | ⟨q1, q2, q3, q4⟩
        · have := Nat.mod_lt n hM; omega
        · rcases q4 with ⟨q5, q6⟩ | ⟨q5, q6⟩
          · exact .inl ⟨q5, q6⟩
          · refine .inr ⟨q5, ?_, q3⟩
            unfold sgW
            rw [q2, if_pos rfl]
  · unfold sgW at hk; split at hk; cases hk; split at hk <;> cases hk
  · unfold sgW at hk; split at hk; cases hk; split at hk <;> cases hk
  · unfold sgW at hk; split at hk; cases hk; split at hk <;> cases hk
  · unfold sgW at hk; split at hk; cases hk; split at hk <;> cases hk
  · unfold sgW; rw [Nat.zero_mod, if_pos rfl]; rfl
  · have := Nat.mul_le_mul hr (Nat.le_refl (N + 2)); omega
theorem kdR {N rd : Nat} (h1 : 1 ≤ N) (h3 : N ≤ 3) (hr : 1 ≤ rd) : Kd N rd (sgR N) (fun n => n / (2 * N + 2)) (fun n => n - (N + 1)) (rd * (2 * N + 2)) (bsQ (sgR N)) false := by
  have hM : 0 < 2 * N + 2 := by omega
  refine ⟨fun n hn hk => ?_, fun n i hn hk => ?_, fun n hn hk => ?_, fun n hn hk => ?_, fun n i hn hk => ?_, fun n hn hk => ?_, fun n i hn hk => ?_, fun _ => rfl, fun n hn => (step_mod hM hn).1, fun _ => ⟨?_, Nat.zero_div _⟩, fun h => ?_, rfl⟩
  · unfold sgR at hk; split at hk; cases hk; split at hk; cases hk; split at hk <;> cases hk
  · unfold sgR at hk; split at hk; cases hk; split at hk; cases hk; split at hk <;> cases hk
  · unfold sgR at hk; split at hk; cases hk; split at hk; cases hk; split at hk <;> cases hk
  · obtain ⟨_, q⟩ := step_mod hM hn
    unfold sgR at hk
    split at hk
    · rename_i c
      rcases q with ⟨q1, q2, q3, q4⟩ | ⟨q1, _⟩
      · refine ⟨q2, ?_, q4⟩
        unfold sgR
        rw [q3, c, if_neg (by omega), if_pos (by omega)]
      · omega
    · split at hk
      · cases hk
      · split at hk <;> cases hk
  · obtain ⟨_, q⟩ := step_mod hM hn
    unfold sgR at hk
    split at hk
    · cases hk
    · rename_i c
      split at hk
      · rename_i c2
        injection hk with hk
        rcases q with ⟨q1, q2, q3, q4⟩ | ⟨q1, _⟩
        · refine ⟨by omega, q2, q4, ?_⟩
          unfold sgR
          rw [q3, if_neg (by omega)]
          by_cases d : i + 1 < N
          · rw [if_pos (by omega), if_pos d]; congr 1; omega
          · rw [if_neg (by omega), if_pos (by omega), if_neg d]
        · omega
      · split at hk <;> cases hk
  · obtain ⟨hq, q⟩ := step_mod hM hn
    unfold sgR at hk
    split at hk
    · cases hk
    · split at hk
      · cases hk
      · rename_i c c2
        split at hk
        · rename_i c3
          rcases q with ⟨q1, q2, q3, q4⟩ | ⟨q1, q2, q3, q4⟩
          · have e := Nat.div_add_mod n (2 * N + 2)
            have e1 : n - (N + 1) = (2 * N + 2) * (n / (2 * N + 2)) := by rw [c3] at e; omega
            refine ⟨q2, ?_, q4, by omega, ?_, ?_⟩
            · unfold sgR
              rw [q3, if_neg (by omega), if_neg (by omega), if_neg (by omega), c3]
              congr 1; omega
            · unfold sgR
              rw [e1, Nat.mul_mod_right, if_pos rfl]
            · show (n - (N + 1)) / (2 * N + 2) = _
              rw [e1, Nat.mul_div_cancel_left _ hM]
          · omega
        · cases hk
  · obtain ⟨hq, q⟩ := step_mod hM hn
    have hlt := Nat.mod_lt n hM
    unfold sgR at hk
    split at hk
    · cases hk
    · split at hk
      · cases hk
      · rename_i c c2
        split at hk
        · cases hk
        · rename_i c3
          injection hk with hk
          refine ⟨by omega, ?_⟩
          rcases q with ⟨q1, q2, q3, q4⟩ | ⟨q1, q2, q3, q4⟩
          · refine .inl ⟨by omega, q2, q4, ?_⟩
            unfold sgR
            rw [q3, if_neg (by omega), if_neg (by omega), if_neg (by omega)]
            congr 1; omega
          · refine .inr ⟨by omega, rfl, ?_⟩
            rcases q4 with ⟨q5, q6⟩ | ⟨q5, q6⟩
            · exact .inl ⟨q5, q6⟩
            · refine .inr ⟨q5, ?_, q3⟩
              unfold sgR
              rw [q2, if_pos rfl]
  · unfold sgR; rw [Nat.zero_mod, if_pos rfl]; rfl
  · have := Nat.mul_le_mul hr (Nat.le_refl (2 * N + 2)); omega
def sqC (N W R rd : Nat) : SqC := ⟨W + R, N, rd, fun t => if t < W then sgW N else sgR N, fun t n => if t < W then n / (N + 2) else n / (2 * N + 2), fun _ n => n - (N + 1), fun t => if t < W then rd * (N + 2) else rd * (2 * N + 2), fun t => bsQ (if t < W then sgW N else sgR N), fun t => decide (t < W)⟩
theorem sqC_ok {N W R rd : Nat} (h1 : 1 ≤ N) (h3 : N ≤ 3) (hr : 1 ≤ rd) (hr3 : rd ≤ 3) (hW : W ≤ 2) (hR : R ≤ 2) : (sqC N W R rd).Ok := by
  refine ⟨by show W + R ≤ 8; omega, h1, h3, hr3, fun t _ => ?_⟩
  unfold sqC
  dsimp only
  by_cases c : t < W
  · simp only [if_pos c, decide_eq_true c]; exact kdW h1 h3 hr
  · simp only [if_neg c, decide_eq_false c]; exact kdR h1 h3 hr
theorem sgL_ok {N t q g size : Nat} (ht : t ≤ 8) (h1 : 1 ≤ N) (h3 : N ≤ 3) (k : Sg) (hk : match k with | .wp i => i < N | .rl i => i < N | .ro i => i < N | _ => True) (hq : q + sgLen k ≤ size) (hg : g ≤ size) : ∀ op ∈ sgL t q g k, opOk size (18 + N) op := by
  intro op hop
  cases k
  all_goals (simp only [sgL, List.mem_cons, List.not_mem_nil, or_false] at hop)
  all_goals (simp only [sgLen] at hq)
  all_goals (dsimp only at hk)
  · rcases hop with rfl | rfl | rfl | rfl | rfl | rfl | rfl | rfl | rfl | rfl | rfl | rfl | rfl | rfl | rfl | rfl | rfl <;> (dsimp only [opOk]; omega)
  · rcases hop with rfl | rfl | rfl | rfl | rfl | rfl | rfl | rfl | rfl | rfl <;> (dsimp only [opOk]; omega)
  · rcases hop with rfl | rfl | rfl | rfl | rfl | rfl | rfl | rfl | rfl | rfl | rfl | rfl | rfl <;> (dsimp only [opOk]; omega)
  · rcases hop with rfl | rfl | rfl | rfl | rfl <;> (dsimp only [opOk]; omega)
  · rcases hop with rfl; dsimp only [opOk]; omega
  · rcases hop with rfl | rfl | rfl | rfl | rfl <;> (dsimp only [opOk]; omega)
  · rcases hop with rfl; dsimp only [opOk]; omega
theorem bsQ_le (kd : Nat → Sg) (n : Nat) : bsQ kd n ≤ 17 * n := by
  induction n with
  | zero => exact Nat.le_refl _
  | succ n ih =>
    have : sgLen (kd n) ≤ 17 := by
      cases kd n
      all_goals (simp only [sgLen]; omega)
    show bsQ kd n + sgLen (kd n) ≤ _
    omega
theorem bsQ_mono (kd : Nat → Sg) {n m : Nat} (h : n ≤ m) : bsQ kd n ≤ bsQ kd m := bs_mono (rd := m) (ln := fun n => sgLen (kd n)) (fun _ _ => rfl) h (Nat.le_refl _)
def sqPc (N t : Nat) (isW : Bool) (n : Nat) : List Op := sgL t (bsQ (if isW = true then sgW N else sgR N) n) (bsQ (if isW = true then sgW N else sgR N) (n - (N + 1)) + 1) ((if isW = true then sgW N else sgR N) n)
def sqSn (N rd : Nat) (isW : Bool) : Nat := if isW = true then rd * (N + 2) else rd * (2 * N + 2)
def sqT (N rd t : Nat) (isW : Bool) : List Ins := (codeOf (sqPc N t isW) (sqSn N rd isW)).map Op.ins
theorem sqPc_ok {N rd t n : Nat} {isW : Bool} (ht : t ≤ 8) (h1 : 1 ≤ N) (h3 : N ≤ 3) (hr : 1 ≤ rd) (hn : n < sqSn N rd isW) : ∀ op ∈ sqPc N t isW n, opOk (bsQ (if isW = true then sgW N else sgR N) (sqSn N rd isW)) (18 + N) op := by
  have q1 := bsQ_mono (if isW = true then sgW N else sgR N) (show n + 1 ≤ sqSn N rd isW from hn)
  have q2 := bsQ_mono (if isW = true then sgW N else sgR N) (show n - (N + 1) ≤ n by omega)
  have q3 : bsQ (if isW = true then sgW N else sgR N) (n + 1) = bsQ (if isW = true then sgW N else sgR N) n + sgLen ((if isW = true then sgW N else sgR N) n) := rfl
  have q4 := sgLen_pos ((if isW = true then sgW N else sgR N) n)
  refine sgL_ok ht h1 h3 _ ?_ (by omega) (by omega)
  cases isW with
  | true =>
    have K := kdW h1 h3 hr
    have hn' : n < rd * (N + 2) := hn
    simp only [if_pos]
    split
    · rename_i i e; exact (K.wp n i hn' e).1
    · rename_i i e; exact (K.rl n i hn' e).1
    · rename_i i e; exact (K.ro n i hn' e).1
    · trivial
  | false =>
    have K := kdR h1 h3 hr
    have hn' : n < rd * (2 * N + 2) := hn
    simp only [if_neg (show ¬ (false = true) by decide)]
    split
    · rename_i i e; exact (K.wp n i hn' e).1
    · rename_i i e; exact (K.rl n i hn' e).1
    · rename_i i e; exact (K.ro n i hn' e).1
    · trivial
theorem sqSn_le {N rd : Nat} (h3 : N ≤ 3) (hr3 : rd ≤ 3) (isW : Bool) : sqSn N rd isW ≤ 24 := by
  unfold sqSn
  split
  · have := Nat.mul_le_mul hr3 (show N + 2 ≤ 5 by omega); omega
  · have := Nat.mul_le_mul hr3 (show 2 * N + 2 ≤ 8 by omega); omega
theorem sqPc_len (N t : Nat) (isW : Bool) (n : Nat) : bsQ (if isW = true then sgW N else sgR N) (n + 1) = bsQ (if isW = true then sgW N else sgR N) n + (sqPc N t isW n).length := by
  unfold sqPc; rw [sgL_len]; rfl
theorem sqT_good {N rd t : Nat} (isW : Bool) (ht : t ≤ 8) (h1 : 1 ≤ N) (h3 : N ≤ 3) (hr : 1 ≤ rd) (hr3 : rd ≤ 3) : (∀ x ∈ sqT N rd t isW, x.Ok) ∧ (∀ x ∈ sqT N rd t isW, rightB x ((sqT N rd t isW).length : Int) = true) ∧ (sqT N rd t isW).length = bsQ (if isW = true then sgW N else sgR N) (sqSn N rd isW) :=
  codeOf_good (bs := bsQ (if isW = true then sgW N else sgR N)) (m := 18 + N) rfl (fun n _ => sqPc_len N t isW n) (fun n hn op hop => sqPc_ok ht h1 h3 hr hn op hop) (by have := bsQ_le (if isW = true then sgW N else sgR N) (sqSn N rd isW); have := sqSn_le (N := N) h3 hr3 isW; omega) (by omega)
theorem sumT_wr (W R a : Nat) (f : Nat → Nat) (h : ∀ t, t < W + R → f t = if t < W then a else 0) : sumT (W + R) f = W * a := by
  induction R with
  | zero =>
    rw [Nat.add_zero] at h ⊢
    have e : sumT W f = sumT W (fun _ => a) := sumT_congr (fun t ht => by rw [h t ht, if_pos ht])
    rw [e]
    clear e h
    induction W with
    | zero => simp [sumT]
    | succ W ih => rw [sumT_succ, ih, Nat.succ_mul]
  | succ R ih =>
    rw [← Nat.add_assoc, sumT_succ, ih (fun t ht => h t (by omega)), h (W + R) (by omega), if_neg (by omega), Nat.add_zero]
theorem seq_ends {p : Pg} {B : MB} (hp : p.Ok) (hN : NewM p B) (hroom : B.room = p.room) (hr : 1 ≤ p.room ∧ p.room ≤ 16) {N W R rd : Nat} (h1 : 1 ≤ N) (h3 : N ≤ 3) (hrd : 1 ≤ rd) (hrd3 : rd ≤ 3) (hW : W ≤ 2) (hR : R ≤ 2)
    (hm : p.m = 18 + N) (hZ : ∀ i, p.Z i = 0) (hn : p.n = W + R) (hcd : ∀ t, t < p.n → (p.cd t).len = (sqT N rd t (decide (t < W))).length ∧ (p.cd t).F = fun i => (sqT N rd t (decide (t < W))).getD i default)
    (l : List (Int × Int)) (hl : l.length ≤ 100000) : let S := tRun B (t0 p) l
    EvK S.evs ∧ S.evs.length ≤ 999999000 ∧ (∃ g, SqI (sqC N W R rd) (vw S) g) ∧
    ((∀ t, t < p.n → (thM S t).st = 2 ∧ bufM S t = []) → S.mem.getD 18 0 = ((W * rd : Nat) : Int) ∧ S.mem.getD 16 0 = 2 * ((W * rd : Nat) : Int) ∧ S.mem.getD 17 0 = 0) := by
  intro S
  have hB := newM_ok hN (by omega) (by omega)
  have h0 := t0_ok hp hN
  have hw : Wf B (t0 p) := ⟨h0, by show ((List.range p.m).map p.Z).length = B.m; rw [List.length_map, List.length_range, hN.m], by rw [hroom]; exact hr.1⟩
  have hnc : B.codes.length = p.n := hN.n
  have hC : (sqC N W R rd).In B := by
    refine ⟨by rw [hnc, hn]; rfl, fun t ht => ?_⟩
    have ht' : t < p.n := by rw [hn]; exact ht
    have h1' := hN.cd t ht'
    have h2 := hcd t ht'
    have e1 : (sqC N W R rd).sn t = sqSn N rd (decide (t < W)) := by unfold sqC sqSn; dsimp only; by_cases c : t < W <;> simp [c]
    have e2 : (sqC N W R rd).bs t = bsQ (if decide (t < W) = true then sgW N else sgR N) := by unfold sqC; dsimp only; by_cases c : t < W <;> simp [c]
    have e3 : (fun n => sgL t ((sqC N W R rd).bs t n) ((sqC N W R rd).bs t ((sqC N W R rd).gn t n) + 1) ((sqC N W R rd).kd t n)) = sqPc N t (decide (t < W)) := by
      funext n
      rw [e2]
      unfold sqC sqPc; dsimp only; by_cases c : t < W <;> simp [c]
    rw [e1, e3, e2]
    refine coded_of rfl (fun n _ => sqPc_len N t _ n) (by rw [h1'.1, h2.1]; rfl) (by rw [h1'.2.1, h2.2]; rfl) (fun n hn' op hop => ?_) ?_ (by rw [hN.m, hm]; omega)
    · rw [hN.m, hm]
      exact sqPc_ok (by omega) h1 h3 hrd hn' op hop
    · have := bsQ_le (if decide (t < W) = true then sgW N else sgR N) (sqSn N rd (decide (t < W))); have := sqSn_le (N := N) h3 hrd3 (decide (t < W)); omega
  have hth : ∀ t, (vw (t0 p)).th t = tha := fun t => by
    show (List.replicate p.n tha).getD t tha = tha
    rw [List.getD_eq_getElem?_getD, List.getElem?_replicate]; split <;> rfl
  have hbf : ∀ t, (vw (t0 p)).bf t = [] := fun t => by
    show (List.replicate p.n ([] : List Ent)).getD t [] = []
    rw [List.getD_eq_getElem?_getD, List.getElem?_replicate]; split <;> rfl
  have hmem : ∀ a, (vw (t0 p)).mem a = 0 := fun a => by
    show ((List.range p.m).map p.Z).getD a 0 = 0
    rw [List.getD_eq_getElem?_getD, List.getElem?_map]
    cases (List.range p.m)[a]? with
    | none => rfl
    | some i => exact hZ i
  obtain ⟨g, H⟩ := sq_run hB hC l hw ⟨_, sq_start (sqC_ok h1 h3 hrd hrd3 hW hR) hth hbf hmem rfl⟩
  have hc := tRun_evc (B := B) (K := 999999000) l (n := 0) (s := t0 p) (by
    unfold EvC
    show 0 + tot (List.replicate p.n []) + _ ≤ _
    rw [tot_nil]; omega)
  refine ⟨tRun_evk hB l h0 (fun x hx => by cases hx), ?_, ⟨g, H⟩, fun hd => ?_⟩
  · unfold EvC at hc
    show (tRun B (t0 p) l).evs.length ≤ _
    omega
  · have hfin : ∀ t, t < W + R → g.h ≠ some t ∧ g.c t = if t < W then rd else 0 := fun t ht => by
      obtain ⟨d1, d2⟩ := hd t (by rw [hn]; exact ht)
      obtain ⟨n, o, hp2, q | q⟩ := H.loc t ht
      · have e : (thM S t).st = 0 ∨ (thM S t).st = 1 := q.2.1
        omega
      · have q4 := q.2.2.2
        have hbt : (vw S).bf t = [] := d2
        by_cases c : t < W
        · have ew : (sqC N W R rd).isW t = true := decide_eq_true c
          rw [ew, if_pos rfl, hbt] at q4
          rw [if_pos c]
          refine ⟨?_, q4.c⟩
          rcases q4.b with ⟨q5, _⟩ | ⟨_, q5, _⟩
          · exact of_decide_eq_false q5
          · cases q5
        · have ew : (sqC N W R rd).isW t = false := decide_eq_false c
          rw [ew, if_neg (by decide)] at q4
          rw [if_neg c]
          exact ⟨of_decide_eq_false q4.1.hd, q4.1.c⟩
    have hh : g.h = none := by
      cases h : g.h with
      | none => rfl
      | some u => exact absurd h (hfin u (H.hlt u h)).1
    have ho : g.odd = false := by
      cases h : g.odd with
      | false => rfl
      | true => exact absurd hh (H.od h)
    have hV : g.V = W * rd := H.V.trans (sumT_wr W R rd g.c (fun t ht => (hfin t ht).2))
    have hfl := H.ev ho
    refine ⟨?_, ?_, ?_⟩
    · have := H.data 0 h1
      rw [hfl, if_neg (by omega), hV] at this
      exact this.trans (Int.add_zero _)
    · have := H.m16
      rw [ho, hV] at this
      exact this.trans (Int.add_zero _)
    · have := H.m17
      rw [hh] at this
      exact this
end Go.Proofs.YtmhfpjnkjlhbpaaGreatDoor

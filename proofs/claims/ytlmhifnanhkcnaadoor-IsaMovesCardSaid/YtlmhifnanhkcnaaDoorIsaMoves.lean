/- IsaMoves returns true for every code and every distance, in a world that holds the tables: the row and the card. -/
import Derived.Test.YtlmhifnanhkcnaaDoorIsaMoved
import Derived.Test.YtlmhifnanhkcnaaDoorIsaChk
import Derived.Test.YtlmhifnanhkcnaaDoorIsaAwake
import Derived.Test.YtlmhifnanhkcnaaDoorCard
import Derived.Deep.QuietTactic
import Derived.BigQuiet
namespace Go.Proofs.YtlmhifnanhkcnaaDoor
open Go.ChangeShapes Go.WideShapes Go.ChangeAt Go.RowKit Go.Deep
set_option linter.unusedVariables false

theorem Tab.drewN {w : World} (h : Tab w) (n : Nat) : Tab (w.drewN n) := h
theorem below_drewN {B n : Nat} {w w1 : World} (h : Below B (w.drewN n) w1) : Below B w w1 := ⟨h.os, h.tape, h.output, h.size, h.block⟩

theorem hasT_any (op : Int) (w : World) : Calls Tryd.prog 18 #[.int .i64 op, .int .u8 84] w fun e w' => e = .returned (.bool (jmpB op)) ∧ Below w.heap.size w w' := by
  by_cases h : 0 ≤ op ∧ op < 28
  · obtain ⟨i, rfl⟩ : ∃ i : Nat, op = (i : Int) := ⟨op.toNat, by omega⟩
    have hi : i < 28 := by omega
    have := List.all_eq_true.1 jmpB_all i (List.mem_range.2 hi)
    rw [← eq_of_beq this]
    exact has_in i 84 hi w
  · have hj : jmpB op = false := decide_eq_false (by omega)
    rw [hj]
    exact has_out op 84 (by omega) w

theorem add32_small {a b : Int} (h0 : 0 ≤ a) (h1 : 0 ≤ b) (h : a + b ≤ 4294967295) : add32 a b = a + b := IntWalk.u32_in _ (by omega)

theorem right_moved (q : Ins) (z n : Int) (ho : q.Ok) (hz0 : 0 ≤ z) (hz1 : z ≤ 65535) (hn : n ≤ 5000) (h : rightB q n = true) : rightB (movedI z q) (n + z) = true := by
  obtain ⟨op, a, b, c, k⟩ := q
  have hk0 := ho.k0
  have hk1 := ho.k1
  dsimp only at hk0 hk1
  unfold rightB at h
  dsimp only at h
  by_cases hin : 0 ≤ op ∧ op < 28
  · rw [if_pos hin] at h
    have hj := List.all_eq_true.1 jmpB_all op.toNat (List.mem_range.2 (by omega))
    have hj2 : hasF op.toNat 84 = jmpB op := by
      have := eq_of_beq hj
      rwa [show ((op.toNat : Nat) : Int) = op by omega] at this
    obtain ⟨h1, h2, h3, h4⟩ := of_decide_eq_true h
    have hT : (kindAt op.toNat).T = jmpB op := hj2
    rw [hT] at h4
    cases hjb : jmpB op
    · have hm : movedI z ⟨op, a, b, c, k⟩ = ⟨op, a, b, c, k⟩ := by unfold movedI; rw [hjb]; rfl
      rw [hm]
      unfold rightB
      dsimp only
      rw [if_pos hin]
      rw [hjb] at h4
      exact decide_eq_true ⟨h1, h2, h3, by rw [hT, hjb]; exact h4⟩
    · rw [hjb] at h4
      simp only [if_true] at h4
      have hm : movedI z ⟨op, a, b, c, k⟩ = ⟨op, a, b, c, k + z⟩ := by
        unfold movedI
        rw [hjb]
        simp only [if_true]
        rw [add32_small hk0 hz0 (by omega)]
      rw [hm]
      unfold rightB
      dsimp only
      rw [if_pos hin]
      exact decide_eq_true ⟨h1, h2, h3, by rw [hT, hjb]; simp only [if_true]; omega⟩
  · rw [if_neg hin] at h
    cases h

theorem movedI_ok {q : Ins} {z : Int} (ho : q.Ok) : (movedI z q).Ok := by
  unfold movedI
  split
  · exact ⟨ho.op0, ho.op1, ho.a0, ho.a1, ho.b0, ho.b1, ho.c0, ho.c1, (add32_bd _ _).1, (add32_bd _ _).2⟩
  · exact ho

theorem isaMoves_long (c : Cd) (z : Int) (hl : 5000 < c.len) (hm : c.len ≤ maxLen) (w : World) (ht : Tab w) :
    Calls Tryd.prog 6 #[c.val, .int .u16 z] w fun e w' => e = .returned (.bool true) ∧ Below w.heap.size w w' := by
  obtain ⟨A, len, cap, F⟩ := c
  unfold Cd.val
  dsimp only at *
  unfold maxLen at hm
  have hl' : (5000 : Int) < (len : Int) := by omega
  go_enter Tryd.func6, Tryd.ntmps6
  go_wp2_with fail
  refine (awake02_any _ ht).mono ?_
  rintro e' w1 ⟨rfl, hb1⟩
  have ht1 := ht.step hb1
  go_wp2_with fail
  refine (awake02_any _ ht1).mono ?_
  rintro e' w2 ⟨rfl, hb2⟩
  have hB2 := step_below hb1 hb2
  go_wp2
  go_ret
  exact ⟨rfl, hB2⟩

set_option maxHeartbeats 2000000 in
theorem isaMoves_true (c : Cd) (z : Int) (ho : c.Ok) (hl : c.len ≤ 5000) (hz0 : 0 ≤ z) (hz1 : z ≤ 65535) (w : World) (ht : Tab w) (ha : c.At w) :
    Calls Tryd.prog 6 #[c.val, .int .u16 z] w fun e w' => e = .returned (.bool true) ∧ Below w.heap.size w w' := by
  have cM := fun wx htx hax => moved_any c z ho (by omega) hz0 (by omega) wx htx hax
  have CM := Lib.hid cM
  have hins := ho.ins
  clear cM
  obtain ⟨A, len, cap, F⟩ := c
  have HA := Lib.hid ha
  have HI := Lib.hid hins
  unfold Cd.val
  dsimp only at hl ⊢
  clear ha hins ho
  go_enter Tryd.func6, Tryd.ntmps6
  go_wp2_with fail
  refine (awake02_any _ ht).mono ?_
  rintro e' w1 ⟨rfl, hb1⟩
  have ht1 := ht.step hb1
  go_wp2_with fail
  refine (CM.out _ ht1 (HA.out.step hb1)).mono ?_
  rintro e' w2 ⟨cs, rfl, hblk, hcs, hmv, hb2⟩
  have hB2 := step_below hb1 hb2
  have HC := Lib.hid hcs
  have HM := Lib.hid hmv
  have ht2 := ht.step hB2
  generalize w1.heap.size = g at *
  clear hcs hmv ht1 hb1 hb2 CM
  go_wp2
  go_loopw [6] (fun v wr => ∃ k : Nat, k ≤ len ∧ v = .int .i64 k ∧ Below w2.heap.size w2 wr) (fun v _ => len - (intOf v).toNat)
  case atStart => exact ⟨0, Nat.zero_le _, rfl, Below.refl _ _⟩
  case round =>
    obtain ⟨k, hk, rfl, hBr⟩ := hrel
    have hBw := step_below hB2 hBr
    have htr := ht.step hBw
    by_cases hlt : k < len
    · obtain ⟨b, off, rfl, hbW, hcW⟩ := HA.out.step hBw (show 0 < len by omega)
      have hcj := hcW k hlt
      dsimp only at hcj
      have hiq := HI.out k hlt
      have hmk := HM.out k hlt
      have hbk := hblk.below hBr hblk.lt
      clear hcW
      generalize F k = q at hcj hiq hmk
      have k0 : wr.cell? ⟨b, off + k * 5, none⟩ = some (.int .i64 q.op) := hcj 0 _ rfl
      have k1 : wr.cell? ⟨b, off + k * 5 + 1, none⟩ = some (.int .i64 q.a) := hcj 1 _ rfl
      have k2 : wr.cell? ⟨b, off + k * 5 + 2, none⟩ = some (.int .i64 q.b) := hcj 2 _ rfl
      have k3 : wr.cell? ⟨b, off + k * 5 + 3, none⟩ = some (.int .i64 q.c) := hcj 3 _ rfl
      have k4 : wr.cell? ⟨b, off + k * 5 + 4, none⟩ = some (.int .u32 q.k) := hcj 4 _ rfl
      clear hcj
      have htr2 := htr.alloc (Obj.cells #[.int .i64 q.op, .int .i64 q.a, .int .i64 q.b, .int .i64 q.c, .int .u32 q.k] 24)
      have hB3 := hBr.alloc hBr.size (Obj.cells #[.int .i64 q.op, .int .i64 q.a, .int .i64 q.b, .int .i64 q.c, .int .u32 q.k] 24)
      have hm3 := Blk.new wr 24 #[.int .i64 q.op, .int .i64 q.a, .int .i64 q.b, .int .i64 q.c, .int .u32 q.k]
      have hk0 : (0 : Int) ≤ (k : Int) := by omega
      have hkl : (k : Int) < (len : Int) := by omega
      go_wp2_with fail
      refine (hasT_any q.op _).mono ?_
      rintro e' w3 ⟨rfl, hb3⟩
      have hB4 := step_below hB3 hb3
      have htx := htr2.step hb3
      have hm4 := hm3.below hb3 hm3.lt
      have hbk4 := (hbk.alloc _).below hb3 (hbk.alloc _).lt
      have hBx : Below wr.heap.size wr w3 := ((Below.refl _ _).alloc (Nat.le_refl _) _).trans (hb3.mono (by simp))
      have s0 := keepAt hBx hbW k0
      have s1 := keepAt hBx hbW k1
      have s2 := keepAt hBx hbW k2
      have s3 := keepAt hBx hbW k3
      have s4 := keepAt hBx hbW k4
      have HS := Lib.hid (And.intro s0 (And.intro s1 (And.intro s2 (And.intro s3 s4))))
      clear s0 s1 s2 s3 s4 k0 k1 k2 k3 k4
      have hmp : wr.heap.size < w3.heap.size := Nat.lt_of_lt_of_le (by simp) hb3.size
      have hgl := hblk.lt
      have hgr : g < wr.heap.size := Nat.lt_of_lt_of_le hgl hBr.size
      have HN := Lib.hid (And.intro hmp (And.intro hgr hbW))
      clear hm3 hB3 hb3 hbk htr2 hmp hgl hgr
      obtain ⟨p, hp⟩ : ∃ p, movedI z q = p := ⟨_, rfl⟩
      have hpo : p.Ok := hp ▸ movedI_ok hiq
      have hrm : rightB q len = true → rightB p (len + z) = true := fun h => hp ▸ right_moved q z len hiq hz0 hz1 (by omega) h
      have HP := Lib.hid (And.intro hp hrm)
      rw [hp] at hmk
      clear hp hrm
      go_upto_if 37 with fail
      go_cut [42] (fun s wx => Blk wx wr.heap.size 24 #[.int .i64 p.op, .int .i64 p.a, .int .i64 p.b, .int .i64 p.c, .int .u32 p.k] ∧ Below wr.heap.size w3 wx)
      case first =>
        have m4 := hm4.cell 4
        have f4 := hm4.frozen 4
        simp only [List.getElem?_toArray, List.getElem?_cons_zero, List.getElem?_cons_succ] at m4
        rcases Bool.eq_false_or_eq_true (jmpB q.op) with hj | hj
        · have HJ := Lib.hid hj
          rw [hj]
          clear hj
          go_wp2_with fail
          go_meet
          case rel =>
            refine ⟨?_, (Below.refl wr.heap.size w3).setCell (p := ⟨wr.heap.size, 4, none⟩) (Nat.le_refl _) _⟩
            have e32 : add32 q.k z = (q.k + z) % 4294967296 := by unfold add32; rw [IntKind.wrap_u32]
            rw [← e32]
            have := hm4.set_ 4 (.int .u32 (add32 q.k z))
            rw [← HP.out.1]
            unfold movedI
            rw [HJ.out]
            exact this
        · have HJ := Lib.hid hj
          rw [hj]
          clear hj
          go_wp2_with fail
          go_meet
          case rel =>
            refine ⟨?_, Below.refl _ _⟩
            rw [← HP.out.1]
            unfold movedI
            rw [HJ.out]
            exact hm4
      case rest =>
        obtain ⟨hm5, hB5⟩ := hcut
        obtain ⟨n1, n2, n3⟩ := HN.out
        have hbk5 := Blk.below hbk4 hB5 n2
        have k0 := keepAt hB5 n3 HS.out.1
        have k1 := keepAt hB5 n3 HS.out.2.1
        have k2 := keepAt hB5 n3 HS.out.2.2.1
        have k3 := keepAt hB5 n3 HS.out.2.2.2.1
        have k4 := keepAt hB5 n3 HS.out.2.2.2.2
        have m0 := hm5.cell 0
        have m1 := hm5.cell 1
        have m2 := hm5.cell 2
        have m3 := hm5.cell 3
        have m4 := hm5.cell 4
        simp only [List.getElem?_toArray, List.getElem?_cons_zero, List.getElem?_cons_succ] at m0 m1 m2 m3 m4
        have o0 : wc.cell? ⟨g, k * 5, none⟩ = some (.int .i64 p.op) := (hbk5.cell (k * 5)).trans (hmk 0 _ rfl)
        have o1 : wc.cell? ⟨g, k * 5 + 1, none⟩ = some (.int .i64 p.a) := (hbk5.cell (k * 5 + 1)).trans (hmk 1 _ rfl)
        have o2 : wc.cell? ⟨g, k * 5 + 2, none⟩ = some (.int .i64 p.b) := (hbk5.cell (k * 5 + 2)).trans (hmk 2 _ rfl)
        have o3 : wc.cell? ⟨g, k * 5 + 3, none⟩ = some (.int .i64 p.c) := (hbk5.cell (k * 5 + 3)).trans (hmk 3 _ rfl)
        have o4 : wc.cell? ⟨g, k * 5 + 4, none⟩ = some (.int .u32 p.k) := (hbk5.cell (k * 5 + 4)).trans (hmk 4 _ rfl)
        clear hbk4 hmk hm4 hbk5 hm5
        have hBz := step_below (step_below hBw (Below.refl _ _)) (show Below wr.heap.size wr wc from hBx.trans hB5)
        have htz := ht.step hBz
        have hgo := HP.out.2
        have cR1 := right_any q len hiq (by omega) (by omega)
        have cR2 := right_any p (len + z) hpo (by omega) (by omega)
        have hB5' : Below wr.heap.size wr wc := hBx.trans hB5
        clear htx hB4 hBx hB5
        rcases Bool.eq_false_or_eq_true (rightB q len) with hr | hr
        · rw [hgo hr] at cR2
          rw [hr] at cR1
          clear hr hgo
          go_wp2_with fail
          go_quiet (fail)
          go_wp2_with fail
          refine (cR1 _ (htz.drewN _)).mono ?_
          rintro e' w6 ⟨rfl, hb6⟩
          have hB6 := step_below hBz (below_drewN hb6)
          have hb6' : Below wc.heap.size wc w6 := below_drewN hb6
          have hgc : g < wc.heap.size := Nat.lt_of_lt_of_le n2 hB5'.size
          have u0 := keepAt hb6' hgc o0
          have u1 := keepAt hb6' hgc o1
          have u2 := keepAt hb6' hgc o2
          have u3 := keepAt hb6' hgc o3
          have u4 := keepAt hb6' hgc o4
          clear k0 k1 k2 k3 k4 m0 m1 m2 m3 m4 o0 o1 o2 o3 o4
          go_wp2_with fail
          refine (cR2 _ (ht.step hB6)).mono ?_
          rintro e' w7 ⟨rfl, hb7⟩
          have hB7 := step_below hB6 hb7
          go_wp2
          go_roundw
          case rel => exact ⟨k + 1, by omega, by go_num, (hBr.trans ((hB5'.trans (hb6'.mono hB5'.size)).mono hBr.size)).trans (hb7.mono (Nat.le_trans hBr.size (Nat.le_trans hB5'.size hb6'.size)))⟩
          case measure => simp [intOf]; omega
        · rw [hr] at cR1
          clear hr hgo cR2
          go_wp2_with fail
          go_quiet (fail)
          go_wp2_with fail
          refine (cR1 _ (htz.drewN _)).mono ?_
          rintro e' w6 ⟨rfl, hb6⟩
          have hb6' : Below wc.heap.size wc w6 := below_drewN hb6
          go_wp2
          go_roundw
          case rel => exact ⟨k + 1, by omega, by go_num, hBr.trans ((hB5'.trans (hb6'.mono hB5'.size)).mono hBr.size)⟩
          case measure => simp [intOf]; omega
    · obtain rfl : k = len := by omega
      go_wp2
      go_ret
      exact ⟨rfl, hBw⟩

theorem isaMoves_met (os : Os) : laidMet Tryd.prog theLaid ((laidWorld os).forCall (fun _ _ => 0) ⟨#[], #[.slice none 0 0, .int .u16 0], []⟩).memory :=
  laidMet_of_run' 8 (by kernel_rfl) (by kernel_rfl)
theorem isaMoves_reads (os : Os) {H : Type} (enc : TypeId × Value → H) : ∃ places, DataW.whole enc Tryd.prog ((laidWorld os).forCall (fun _ _ => 0) ⟨#[], #[.slice none 0 0, .int .u16 0], []⟩).memory Tryd.f6.params.toList Rows.isaMovesSpec.vars false (#[.slice none 0 0, .int .u16 0] : Array Value).toList 8 = some ([.nil, .lit (.int .u16 0)], [], places) :=
  ⟨[], by kernel_rfl⟩

set_option maxRecDepth 100000 in
theorem isaMoves_lifted (os : Os) (started : os.Started) (H : Type) (enc : TypeId × Value → H) (F : Stop.Interp) :
    ReturnsInHanded {} Tryd.checked os 6 .any ((OpenSpec.ofChange Rows.isaMovesSpec).preRow enc Tryd.prog Tryd.f6 Rows.isaMovesRow.domain false Rows.isaMovesRow.laid) (((OpenSpec.ofChange Rows.isaMovesSpec).at F).post enc Tryd.prog Tryd.f6 false true false false) := by
  obtain ⟨places, hx⟩ := isaMoves_reads os enc
  refine card_lifted started (by kernel_rfl) Tryd.func6
    (witness_row_at (enc := enc) (C := Tryd.checked) false (laidWorld os) #[.slice none 0 0, .int .u16 0] rfl (by kernel_rfl) (by kernel_rfl) (by kernel_rfl)
      (OpenSpec.preRow_of_cond 8 hx (by kernel_rfl) (fun k hk => by cases hk) (by kernel_rfl) (isaMoves_met os)))
    4 rfl (by kernel_rfl) Tryd.underlying4 (fun ds h => ?_) (by kernel_rfl) ?_
  · rw [show Tryd.f6.params.size = 2 from by kernel_rfl] at h
    match ds, h with
    | [_, _], _ => rfl
  intro W base args ds p hT hval hA hlt hsz
  rw [Tryd.params6] at hA hval hsz
  obtain ⟨v0, v1, d0, d1, p0, p1, rfl, rfl, rfl, h0, h1⟩ := trodAll_two hA
  obtain ⟨c, rfl, ho, ha⟩ := open_code (hval 0 39 v0 rfl rfl) h0
  obtain ⟨z, rfl, rfl, rfl, ws⟩ := open_int Tryd.underlying46 (hval 1 46 v1 rfl rfl) h1
  have hz := bounds_u16 ws
  by_cases hl : c.len ≤ 5000
  · exact isaMoves_true c z ho hl hz.1 hz.2 W hT ha
  · exact isaMoves_long c z (by omega) (Nat.le_trans ho.hl ho.hm) W hT

theorem isaMoves_said : Rows.IsaMovesSaid :=
  OpenClaim.holds_of_cond 6 Tryd.f6 rfl rfl rfl rfl rfl rfl rfl ⟨rfl, rfl, rfl, rfl, rfl⟩ rfl rfl rfl rfl rfl (by kernel_rfl) Tryd.func6 (by kernel_rfl)
    (of_decide_eq_true (by kernel_rfl)) (by unfold Func.isWrapper; first | (rw [if_pos (by decide +kernel)]; kernel_rfl) | (rw [if_neg (by decide +kernel)]; exact ⟨rfl, rfl⟩))
    (fun os started H enc _ F => by rw [OpenClaim.pre_eq_preRow]; exact isaMoves_lifted os started H enc F)

theorem isaMoves_plain (f : FuncId) (fn : Func) (hf : Tryd.pinned.checked.prog.funcNamed "deadlatch/deadlatchlaw02.IsaMoves" = some f) (hfn : Tryd.pinned.checked.prog.funcs[f]? = some fn) :
    false = Tryd.pinned.checked.prog.looks [] ∧ ∀ (j : Nat) t, fn.params[j]? = some t → Tryd.pinned.checked.prog.wantsStandIn t = false := by
  obtain rfl : f = 6 := Option.some.inj ((show Tryd.prog.funcNamed "deadlatch/deadlatchlaw02.IsaMoves" = some 6 by kernel_rfl).symm.trans hf) |>.symm
  obtain rfl : fn = Tryd.f6 := (Option.some.inj (Tryd.func6.symm.trans hfn)).symm
  refine ⟨by kernel_rfl, fun j t ht => ?_⟩
  rw [Tryd.params6] at ht
  have hm : t = 39 ∨ t = 46 := by simpa using Array.mem_of_getElem? ht
  rcases hm with rfl | rfl
  · exact (show Tryd.prog.wantsStandIn 39 = false by kernel_rfl)
  · exact (show Tryd.prog.wantsStandIn 46 = false by kernel_rfl)

theorem isaMoves_card : Rows.IsaMovesCardSaid :=
  Claim7.holds_tied_plain_at .later [] _ _ _ _ isaMoves_said (fun _ h => by cases h) (by kernel_rfl) (fun _ h => by cases h) isaMoves_row_tie rfl ⟨rfl, rfl⟩ (by kernel_rfl) rfl isaMoves_plain (by kernel_rfl)
end Go.Proofs.YtlmhifnanhkcnaaDoor

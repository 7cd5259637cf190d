/- law08: awake. -/
import Derived.Test.YtjmnogpnjombgaaDoorLaw08
namespace Go.Proofs.YtjmnogpnjombgaaDoor
open Go.ChangeShapes Go.WideShapes Go.ChangeAt Go.RowKit Go.Deep
set_option linter.unusedVariables false
set_option maxRecDepth 100000
set_option linter.unusedSimpArgs false

theorem YInv.lt {B : YB} {s : Yst} {own : Nat → Prop} {W : World} (h : YInv B s own W) : ∀ i, own i → i < W.heap.size := fun i hi => by obtain ⟨_, _, _, _, hh, _⟩ := h; exact (hh i hi).2
theorem KeepOut.belowOf {own : Nat → Prop} {w W W' : World} (h : KeepOut own W W') (hB : Below w.heap.size w W) (hlo : ∀ i, own i → w.heap.size ≤ i) : Below w.heap.size w W' :=
  ⟨h.os.trans hB.os, h.tape.trans hB.tape, h.output.trans hB.output, Nat.le_trans hB.size h.size, fun i hi => (h.block i (Nat.lt_of_lt_of_le hi hB.size) (fun e => by have := hlo i e; omega)).trans (hB.block i hi)⟩
theorem makeW (n : Nat) (hn : n ≤ 1000000) : ∀ w : World, (Instr.makeSlice 28 (.int .i64 (n : Int)) (.int .i64 (n : Int))).run Tryd.prog w =
    .ok (.slice (some ⟨w.heap.size, 0, none⟩) n n) (w.alloc (.cells (madeCells #[.int .u32 0] n) 22)) := fun w => by
  obtain ⟨i, hi, hz, hs, hb⟩ := info_parts u32_info3
  have hb2 : (i.bytes : Int) * (n : Int) ≤ 281474976710656 := by rw [hb]; omega
  have hr := run_make (P := Tryd.prog) w 28 22 i _ Tryd.underlying28 hi hz .i64 .i64 n n (by omega) (by omega) hb2 (by omega)
  simp only [Int.toNat_natCast] at hr
  rw [hs, Nat.mul_one] at hr
  exact hr
def insA : Ins := ⟨21, 1, 8, 2, 5⟩
theorem insA_ok : insA.Ok := ⟨by decide, by decide, by decide, by decide, by decide, by decide, by decide, by decide, by decide, by decide⟩
def sA : Yst := ⟨[0, 0, 0, 0, 0, 0], [], [], [], ⟨#[]⟩⟩
def tA9 : Th := ⟨0, fun r => if r = 2 then 9 else 0, 0⟩
def tR : Th := ⟨1, updR (fun r => if r = 2 then 9 else 0) 1 0, 0⟩
def sR : Yst := ⟨[0, 0, 0, 0, 0, 9], [], [], [⟨4, 0, 0, 5, 9, 0, 0, true⟩], ⟨#[108, 120]⟩⟩
theorem step_yard (B : YB) (hB : YBok B) (s : Yst) (own : Nat → Prop) (t : Th) (c : Cd) (W : World) (hI : YInv B s own W) (hT : Tab W) (hca : c.At W) (hco : c.Ok) (hregs : ∀ r, 0 ≤ t.regs r ∧ t.regs r ≤ 4294967295) (hc : yCan B 3 s) :
    Calls Tryd.prog 17 #[t.val, c.val, (yPv B).val B.n] W fun e W' => e = .returned (stepR (yOps B) s t c).1.val ∧ Moves (YInv B) (stepR (yOps B) s t c).2 own W W' :=
  step_any (yard_port B hB) 0 s own t c W hI hT hca hco (by show (B.n : Int) ≤ _; have := hB.n; omega) hregs hc
theorem awake_step (Bq : YB) (wb xb ab : Nat) (own1 : Nat → Prop) (W : World) (hI : YInv (Bq.at wb xb ab) sA own1 W) (hT : Tab W) (g2 : Nat) (hC : Cd.At (⟨some ⟨g2, 0, none⟩, 1, 1, fun _ => ⟨21, 1, 8, 2, 5⟩⟩ : Cd) W) (hBn : Bq.n = 6) (hBr : Bq.room = 1) (hBb : Bq.base = 0) (hBt : ∃ tA tl tcap, Bq.tv = .slice tA tl tcap ∧ 0 < tl ∧ tl ≤ 1000000) :
    Calls Tryd.prog 17 #[.agg (thArr tA9), .slice (some ⟨g2, 0, none⟩) 1 1, ((yPv (Bq.at wb xb ab)).val Bq.n)] W fun e W' => e = .returned tR.val ∧ ∃ own2, YInv (Bq.at wb xb ab) sR own2 W' ∧ (∀ j, own2 j → own1 j ∨ W.heap.size ≤ j) ∧ KeepOut own1 W W' := by
  have hok : YBok (Bq.at wb xb ab) := ⟨hBb, by show Bq.n ≤ _; omega, by show Bq.room ≤ _; omega, hBt⟩
  have h := step_yard (Bq.at wb xb ab) hok sA own1 tA9 (⟨some ⟨g2, 0, none⟩, 1, 1, fun _ => ⟨21, 1, 8, 2, 5⟩⟩ : Cd) W hI hT hC ⟨Nat.le_refl _, by show 1 ≤ maxLen; unfold maxLen; omega, fun i hi => insA_ok⟩ (fun r => by show 0 ≤ (if r = 2 then (9 : Int) else 0) ∧ (if r = 2 then (9 : Int) else 0) ≤ 4294967295; split <;> omega) ⟨by show 0 + 3 ≤ 10000; omega, by show 0 + 3 ≤ 10000; omega, by show 0 + 3 ≤ 10000; omega, by show 0 + 3 ≤ 10000; omega, fun e he => by cases he⟩
  have e : stepR (yOps (Bq.at wb xb ab)) sA tA9 (⟨some ⟨g2, 0, none⟩, 1, 1, fun _ => ⟨21, 1, 8, 2, 5⟩⟩ : Cd) = (tR, sR) := by
    obtain ⟨yb, wb', xb', ab', bb, mv, n, bl, bcap, cv, tv, room, base⟩ := Bq
    dsimp only at hBn hBr hBb
    subst hBn hBr hBb
    rfl
  rw [e] at h
  exact h.mono fun e W' ⟨h1, own2, h2, h3, h4⟩ => ⟨h1, own2, h2, h3, h4⟩

set_option maxHeartbeats 8000000 in
theorem awake_any (w : World) (hT : Tab w) : Calls Tryd.prog 14 #[] w fun e w' => e = .returned (.bool true) ∧ Below w.heap.size w w' := by
  obtain ⟨M, hM⟩ : ∃ M, madeCells #[.int .u32 0] 6 = M := ⟨_, rfl⟩
  have hmk : ∀ w : World, (Instr.makeSlice 28 (.int .i64 6) (.int .i64 6)).run Tryd.prog w = .ok (.slice (some ⟨w.heap.size, 0, none⟩) 6 6) (w.alloc (.cells M 22)) := fun w => hM ▸ makeW 6 (by omega) w
  have hB2 := ((Below.refl w.heap.size w).alloc (Nat.le_refl _) (.cells #[.slice none 0 0] 26)).alloc (by simp) (.cells M 22)
  have hMb := Blk.new2 w (.cells #[.slice none 0 0] 26) 22 M
  have hm : Sl ((w.alloc (.cells #[.slice none 0 0] 26)).alloc (.cells M 22)) (some ⟨w.heap.size + 1, 0, none⟩) 6 (fun i => .int .u32 ((fun _ => 0) i)) := fun _ => ⟨w.heap.size + 1, 0, rfl, hMb.lt, fun i hi => by
    rw [Nat.zero_add, hMb.cell, ← hM]
    rcases (by omega : i = 0 ∨ i = 1 ∨ i = 2 ∨ i = 3 ∨ i = 4 ∨ i = 5) with rfl | rfl | rfl | rfl | rfl | rfl <;> kernel_rfl⟩
  have cN := refNew_any (some ⟨w.heap.size, 0, none⟩) 1 1 (by omega) (some ⟨w.heap.size + 1, 0, none⟩) 6 6 (by omega) (fun _ => 0) 1 false _ hm
  have HB2 := Lib.hid hB2
  have HT := Lib.hid hT
  clear hm hMb hB2 hM hT
  go_enter Tryd.func14, Tryd.ntmps14
  go_wp2_with fail
  refine cN.mono ?_
  rintro e W4 ⟨tv, fv, mv, rfl, ht, hf, hmv, hB4⟩
  obtain ⟨tg, tc, rfl, htg, htl, htc⟩ := own_some ht (by omega)
  obtain ⟨fg, fc, rfl, hfg, hfl, hfc⟩ := own_some hf (by omega)
  obtain ⟨mvA, mvc, rfl, _, _⟩ := own_sl hmv
  have H4 := Lib.hid (And.intro ht (And.intro hf (And.intro hmv hB4)))
  clear cN ht hf hmv hB4 hmk htg htl htc hfg hfl hfc
  go_upto_region 4 with fail
  have hB2 := HB2.out
  have hT := HT.out
  obtain ⟨ht, hf, hmv, hB4⟩ := H4.out
  have hw2 : w.heap.size ≤ ((w.alloc (.cells #[.slice none 0 0] 26)).alloc (.cells M 22)).heap.size := hB2.size
  have hB4w := step_below hB2 hB4
  have hal := (Below.refl W4.heap.size W4).alloc (Nat.le_refl _) (.cells #[.slice (some ⟨w.heap.size, 0, none⟩) 1 1, .slice (some ⟨tg, 0, none⟩) 1 tc, .slice (some ⟨fg, 0, none⟩) 1 fc, .slice mvA 6 mvc, .int .i64 1, .slice none 0 0, .slice none 0 0, .bool false, .string ⟨#[]⟩] 43)
  have hyb := Blk.new W4 43 #[.slice (some ⟨w.heap.size, 0, none⟩) 1 1, .slice (some ⟨tg, 0, none⟩) 1 tc, .slice (some ⟨fg, 0, none⟩) 1 fc, .slice mvA 6 mvc, .int .i64 1, .slice none 0 0, .slice none 0 0, .bool false, .string ⟨#[]⟩]
  obtain ⟨yb, hybe⟩ : ∃ yb, W4.heap.size = yb := ⟨_, rfl⟩
  have hz5 : (W4.alloc (.cells #[.slice (some ⟨w.heap.size, 0, none⟩) 1 1, .slice (some ⟨tg, 0, none⟩) 1 tc, .slice (some ⟨fg, 0, none⟩) 1 fc, .slice mvA 6 mvc, .int .i64 1, .slice none 0 0, .slice none 0 0, .bool false, .string ⟨#[]⟩] 43)).heap.size = yb + 1 := by rw [← hybe]; simp
  have hyw : w.heap.size ≤ yb := by rw [← hybe]; exact hB4w.size
  rw [hybe] at hyb
  try rw [hybe]
  have hY5 := ypre_make (m := 6) (nb := 0) (ns := 0) (bl := 1) (mem := [0, 0, 0, 0, 0, 0]) (buf := []) (slp := []) (bvs := List.replicate 1 (.slice none 0 0)) (bv := .slice none 0 0) (room := 1) hT.1 hyw hyb (own_base (own_below hf (Nat.le_refl _) hal) hw2) rfl rfl rfl rfl ⟨rfl, .inl ⟨rfl, rfl⟩⟩ (own_base (own_below hmv (Nat.le_refl _) hal) hw2) ⟨rfl, .inl ⟨rfl, rfl⟩⟩
  have hlo5 : ∀ i, (i = yb ∨ i = fg ∨ (Value.slice none 0 0).ownBlock = some i ∨ (Value.slice mvA 6 mvc).ownBlock = some i ∨ (Value.slice none 0 0).ownBlock = some i) → w.heap.size ≤ i := fun i hi => by
    rcases hi with rfl | rfl | hi | hi | hi
    · exact hyw
    · exact Nat.le_trans hw2 (own_ge hf _ rfl)
    · cases hi
    · exact Nat.le_trans hw2 (own_ge hmv _ hi)
    · cases hi
  obtain ⟨Bq, hBq⟩ : ∃ B, ybOf yb fg 6 1 fc 1 (.slice mvA 6 mvc) (.slice (some ⟨w.heap.size, 0, none⟩) 1 1) (.slice (some ⟨tg, 0, none⟩) 1 tc) = B := ⟨_, rfl⟩
  have hBn : Bq.n = 6 := by rw [← hBq]; rfl
  have hBr : Bq.room = 1 := by rw [← hBq]; rfl
  have hBb : Bq.base = 0 := by rw [← hBq]; rfl
  have hBt : ∃ tA tl tcap, Bq.tv = .slice tA tl tcap ∧ 0 < tl ∧ tl ≤ 1000000 := ⟨_, _, _, by rw [← hBq]; rfl, Nat.one_pos, by omega⟩
  have hBy : Bq.yb = yb := by rw [← hBq]; rfl
  have hBm : Bq.mv = .slice mvA 6 mvc := by rw [← hBq]; rfl
  rw [hBq] at hY5
  obtain ⟨own, hown⟩ : ∃ o : Nat → Prop, (fun i => i = yb ∨ i = fg ∨ (Value.slice none 0 0).ownBlock = some i ∨ (Value.slice mvA 6 mvc).ownBlock = some i ∨ (Value.slice none 0 0).ownBlock = some i) = o := ⟨_, rfl⟩
  have hLo : ∀ i, own i → w.heap.size ≤ i := fun i hi => hlo5 i (by rw [← hown] at hi; exact hi)
  rw [hown] at hY5
  have hB5 := step_below hB4w hal
  clear hlo5 hown hBq hyb hybe hal hB4w hw2 ht hf hmv hB4 hB2 HB2 H4
  generalize W4.alloc (.cells #[.slice (some ⟨w.heap.size, 0, none⟩) 1 1, .slice (some ⟨tg, 0, none⟩) 1 tc, .slice (some ⟨fg, 0, none⟩) 1 fc, .slice mvA 6 mvc, .int .i64 1, .slice none 0 0, .slice none 0 0, .bool false, .string ⟨#[]⟩] 43) = W5 at hY5 hB5 hz5 ⊢
  have hnT : ¬ own (yb + 1) := fun h => by have := hY5.lt _ h; omega
  have hal := (Below.refl W5.heap.size W5).alloc (Nat.le_refl _) (.cells #[.int .i64 0, .int .u32 0, .int .u32 0, .int .u32 9, .int .u32 0, .int .u32 0, .int .u32 0, .int .u32 0, .int .u32 0, .int .i64 0] 25)
  have hTb : Blk (W5.alloc (.cells #[.int .i64 0, .int .u32 0, .int .u32 0, .int .u32 9, .int .u32 0, .int .u32 0, .int .u32 0, .int .u32 0, .int .u32 0, .int .i64 0] 25)).drew (yb + 1) 25 (thArr tA9) := by have := Blk.new W5 25 #[.int .i64 0, .int .u32 0, .int .u32 0, .int .u32 9, .int .u32 0, .int .u32 0, .int .u32 0, .int .u32 0, .int .u32 0, .int .i64 0]; rw [hz5] at this; exact this
  have hY : YPre Bq sA own (W5.alloc (.cells #[.int .i64 0, .int .u32 0, .int .u32 0, .int .u32 9, .int .u32 0, .int .u32 0, .int .u32 0, .int .u32 0, .int .u32 0, .int .i64 0] 25)).drew := hY5.keep ((Stay.refl _ _).below hY5.lt hal).drew
  have hB : Below w.heap.size w (W5.alloc (.cells #[.int .i64 0, .int .u32 0, .int .u32 0, .int .u32 9, .int .u32 0, .int .u32 0, .int .u32 0, .int .u32 0, .int .u32 0, .int .i64 0] 25)).drew := (step_below hB5 hal).drew
  have hp : W5.heap.size = yb + 1 := hz5
  try rw [hp]
  clear hY5 hB5 hz5 hal hp
  obtain ⟨tb, htb⟩ : ∃ tb, yb + 1 = tb := ⟨_, rfl⟩
  rw [htb] at hnT hTb
  try rw [htb]
  clear htb
  have HH := Lib.hid (And.intro hY (And.intro hTb (And.intro hB (And.intro hnT hLo))))
  have HBB := Lib.hid (And.intro hBn (And.intro hBr (And.intro hBb (And.intro hBt (And.intro hBm hT)))))
  clear hY hTb hB hnT hLo hBn hBr hBb hBt hBm hT HT
  go_cut [3] (fun s wx => ∃ ub wb xb ab own2, s = .pointer (some ⟨ub, 0, none⟩) ∧ Blk wx ub 25 (thArr tR) ∧ YInv (Bq.at wb xb ab) sR own2 wx ∧ Below w.heap.size w wx)
  case first =>
    subst hBy
    obtain ⟨hY, hTb, hB, hnT, hLo⟩ := HH.out
    clear HH
    refine startG (fun W' => Blk W' tb 25 (thArr tA9)) 7 (by kernel_rfl) ?_
    generalize (W5.alloc (.cells #[.int .i64 0, .int .u32 0, .int .u32 0, .int .u32 9, .int .u32 0, .int .u32 0, .int .u32 0, .int .u32 0, .int .u32 0, .int .i64 0] 25)).drew = W0 at hY hTb hB ⊢
    refine takeG (i := 0) (v := .agg (thArr tA9)) rfl (by kernel_rfl) (by kernel_rfl) (by kernel_rfl) (by kernel_rfl) (fun _ _ _ h => h) (yields_row (by rfl) 25 (.tmp 2) rfl tb rfl (thArr tA9) (fun _ hS => run_row _ _ _ _ _ _ hS Tryd.underlying25 rfl th_info)) hTb ?_
    simp only [Act.put, List.getElem_toArray, List.getElem_cons_zero, List.getElem_cons_succ, List.setIfInBounds_toArray, List.set_cons_zero, List.set_cons_succ]
    refine takeG0 (i := 1) (v := .agg #[.int .i64 21, .int .i64 1, .int .i64 8, .int .i64 2, .int .u32 5]) rfl (by kernel_rfl) (by kernel_rfl) (by kernel_rfl) (by kernel_rfl) (fun _ _ _ h => h) (Or.inl ⟨by rfl, fun W hW => by go_simp⟩) hTb ?_
    simp only [Act.put, List.getElem_toArray, List.getElem_cons_zero, List.getElem_cons_succ, List.setIfInBounds_toArray, List.set_cons_zero, List.set_cons_succ]
    refine takeG0 (i := 3) (v := .pointer (some ⟨Bq.yb, 0, none⟩)) rfl (by kernel_rfl) (by kernel_rfl) (by kernel_rfl) (by kernel_rfl) (fun _ _ _ h => h) (Or.inl ⟨by rfl, fun W hW => by go_simp⟩) hTb ?_
    simp only [Act.put, List.getElem_toArray, List.getElem_cons_zero, List.getElem_cons_succ, List.setIfInBounds_toArray, List.set_cons_zero, List.set_cons_succ]
    refine manyG (rs := [2, 4, 6]) (by kernel_rfl) (by simp) (AllG.cons (i := 2) rfl (fun K hK => ?_) (AllG.cons (i := 4) rfl (fun K hK => ?_) (AllG.cons (i := 6) rfl (fun K hK => ?_) AllG.nil)))
    · go_simp
      obtain ⟨g2, hg2⟩ : ∃ g, W0.heap.size = g := ⟨_, rfl⟩
      have hal := (Below.refl W0.heap.size W0).alloc (Nat.le_refl _) (.cells #[.int .i64 21, .int .i64 1, .int .i64 8, .int .i64 2, .int .u32 5] 54)
      have hC : Cd.At (⟨some ⟨g2, 0, none⟩, 1, 1, fun _ => ⟨21, 1, 8, 2, 5⟩⟩ : Cd) (W0.alloc (.cells #[.int .i64 21, .int .i64 1, .int .i64 8, .int .i64 2, .int .u32 5] 54)) := fun _ => ⟨W0.heap.size, 0, by rw [hg2], (Blk.new W0 54 #[.int .i64 21, .int .i64 1, .int .i64 8, .int .i64 2, .int .u32 5]).lt, fun i hi j u hu => by obtain rfl : i = 0 := (by exact Nat.lt_one_iff.1 hi); rw [(Blk.new W0 54 #[.int .i64 21, .int .i64 1, .int .i64 8, .int .i64 2, .int .u32 5]).cell, show 0 + 0 * 5 + j = j by omega]; simpa [Ins.cells] using hu⟩
      have hB2 := step_below hB hal
      have hTb2 := Blk.below hTb hal hTb.lt
      have hY2 := hY.keep ((Stay.refl _ _).below hY.lt hal)
      refine hK.out _ _ hTb2 (fun _ => ?_)
      clear hK K
      try simp only [Act.put, List.getElem_toArray, List.getElem_cons_zero, List.getElem_cons_succ, List.setIfInBounds_toArray, List.set_cons_zero, List.set_cons_succ]
      try rw [hg2]
      clear hal hg2
      clear hB hTb
      have hB := hB2
      have hTb := hTb2
      clear hB2 hTb2
      clear hY
      have hY := hY2
      clear hY2
      generalize (W0.alloc (.cells #[.int .i64 21, .int .i64 1, .int .i64 8, .int .i64 2, .int .u32 5] 54)) = Wx1 at *
      refine manyG (rs := [4, 6]) (by kernel_rfl) (by simp) (AllG.cons (i := 4) rfl (fun K hK => ?_) (AllG.cons (i := 6) rfl (fun K hK => ?_) AllG.nil))
      · go_simp
        with_reducible refine (yport_any Bq sA own Wx1 hY).mono ?_
        rintro e Wx2 ⟨wb, xb, ab, rfl, hI, ⟨hwb, hxb, hab⟩, hal⟩
        obtain ⟨own1, ho1⟩ : ∃ o, o = (fun i => own i ∨ i = wb ∨ i = xb ∨ i = ab) := ⟨_, rfl⟩
        rw [← ho1] at hI
        have hLo1 : ∀ i, own1 i → w.heap.size ≤ i := fun i h => by rw [ho1] at h; have := hB.size; rcases h with h | h | h | h <;> first | exact hLo i h | omega
        clear hLo
        have hLo := hLo1
        clear hLo1
        have hnT1 : ¬ own1 tb := fun h => by rw [ho1] at h; have := hTb.lt; rcases h with h | h | h | h <;> first | exact hnT h | omega
        have hB2 := step_below hB hal
        have hTb2 := Blk.below hTb hal hTb.lt
        have hC2 := hC.step hal
        refine hK.out _ _ hTb2 (fun _ => ?_)
        clear hK K
        try simp only [Act.put, List.getElem_toArray, List.getElem_cons_zero, List.getElem_cons_succ, List.setIfInBounds_toArray, List.set_cons_zero, List.set_cons_succ]
        clear hal hwb hxb hab ho1 hnT hY hB hTb
        have hB := hB2
        have hTb := hTb2
        have hnT := hnT1
        clear hB2 hTb2 hnT1
        clear hC
        have hC := hC2
        clear hC2
        refine manyG (rs := [5, 6]) (by kernel_rfl) (by simp) (AllG.cons (i := 5) rfl (fun K hK => ?_) (AllG.cons (i := 6) rfl (fun K hK => ?_) AllG.nil))
        · go_simp
          have hS := awake_step Bq wb xb ab own1 Wx2 hI (HBB.out.2.2.2.2.2.step hB) g2 hC HBB.out.1 HBB.out.2.1 HBB.out.2.2.1 HBB.out.2.2.2.1
          with_reducible refine hS.mono ?_
          rintro e Wx3 ⟨rfl, own2, hI2, ho2, hk2⟩
          have hTb2 := hk2.blk hTb hnT
          have hB2 : Below w.heap.size w Wx3 := hk2.belowOf hB hLo
          refine hK.out _ _ hTb2 (fun _ => ?_)
          clear hK K
          try simp only [Act.put, List.getElem_toArray, List.getElem_cons_zero, List.getElem_cons_succ, List.setIfInBounds_toArray, List.set_cons_zero, List.set_cons_succ]
          clear hS hI hB hTb ho2 hk2 hnT hC
          have hI := hI2
          have hB := hB2
          have hTb := hTb2
          clear hI2 hB2 hTb2
          refine onlyG (i := 6) (by kernel_rfl) rfl (fun K hK => ?_)
          go_simp
          obtain ⟨ub, hub⟩ : ∃ g, Wx3.heap.size = g := ⟨_, rfl⟩
          have hal := (Below.refl Wx3.heap.size Wx3).alloc (Nat.le_refl _) (.cells th0 25)
          have hU := Blk.new Wx3 25 th0
          rw [hub] at hU
          have hnU : ¬ own2 ub := fun h => by have := hI.lt _ h; omega
          have hUb : w.heap.size ≤ ub := by have := hB.size; omega
          have hB2 := step_below hB hal
          have hTb2 := Blk.below hTb hal hTb.lt
          have hI2 := YInv.keep _ _ _ _ _ hI ((Stay.refl _ _).below hI.lt hal)
          unfold th0 at hU hB2 hTb2 hI2
          refine hK.out _ _ hTb2 (fun _ => ?_)
          clear hK K
          try simp only [Act.put, List.getElem_toArray, List.getElem_cons_zero, List.getElem_cons_succ, List.setIfInBounds_toArray, List.set_cons_zero, List.set_cons_succ]
          try rw [hub]
          clear hal hub
          clear hB hTb
          have hB := hB2
          have hTb := hTb2
          clear hB2 hTb2
          clear hI
          have hI := hI2
          clear hI2
          generalize Wx3.alloc (.cells #[.int .i64 0, .int .u32 0, .int .u32 0, .int .u32 0, .int .u32 0, .int .u32 0, .int .u32 0, .int .u32 0, .int .u32 0, .int .i64 0] 25) = Wx4 at *
          refine lastG (by kernel_rfl) rfl (by kernel_rfl) (fun K hK => ?_)
          refine step_store_row rfl 25 (.tmp 3) (.tmp 18) rfl _ rfl (thArr tR) rfl 25 _ hU rfl th_info (th_one tR) ?_
          intro W9 hb9 hg9
          refine hK.out _ _ ?_
          clear hK K
          go_wp2_with fail
          go_meet
          case rel => exact ⟨ub, wb, xb, ab, own2, rfl, hb9, YInv.keep _ _ _ _ _ hI ⟨fun i hi => hg9.block i (hI.lt i hi) (fun e => hnU (by rw [← Option.some.inj e]; exact hi)), hg9.size⟩, below_row hB hg9 hB.size hUb⟩
        · go_simp
          obtain ⟨ub, hub⟩ : ∃ g, Wx2.heap.size = g := ⟨_, rfl⟩
          have hal := (Below.refl Wx2.heap.size Wx2).alloc (Nat.le_refl _) (.cells th0 25)
          have hU := Blk.new Wx2 25 th0
          rw [hub] at hU
          have hnU : ¬ own1 ub := fun h => by have := hI.lt _ h; omega
          have hUb : w.heap.size ≤ ub := by have := hB.size; omega
          have hB2 := step_below hB hal
          have hTb2 := Blk.below hTb hal hTb.lt
          have hI2 := YInv.keep _ _ _ _ _ hI ((Stay.refl _ _).below hI.lt hal)
          have hC2 := hC.step hal
          unfold th0 at hU hB2 hTb2 hI2 hC2
          refine hK.out _ _ hTb2 (fun _ => ?_)
          clear hK K
          try simp only [Act.put, List.getElem_toArray, List.getElem_cons_zero, List.getElem_cons_succ, List.setIfInBounds_toArray, List.set_cons_zero, List.set_cons_succ]
          try rw [hub]
          clear hal hub
          clear hB hTb
          have hB := hB2
          have hTb := hTb2
          clear hB2 hTb2
          clear hI
          have hI := hI2
          clear hI2
          clear hC
          have hC := hC2
          clear hC2
          generalize Wx2.alloc (.cells #[.int .i64 0, .int .u32 0, .int .u32 0, .int .u32 0, .int .u32 0, .int .u32 0, .int .u32 0, .int .u32 0, .int .u32 0, .int .i64 0] 25) = Wx5 at *
          refine onlyG (i := 5) (by kernel_rfl) rfl (fun K hK => ?_)
          go_simp
          have hS := awake_step Bq wb xb ab own1 Wx5 hI (HBB.out.2.2.2.2.2.step hB) g2 hC HBB.out.1 HBB.out.2.1 HBB.out.2.2.1 HBB.out.2.2.2.1
          with_reducible refine hS.mono ?_
          rintro e Wx6 ⟨rfl, own2, hI2, ho2, hk2⟩
          have hTb2 := hk2.blk hTb hnT
          have hB2 : Below w.heap.size w Wx6 := hk2.belowOf hB hLo
          have hU2 := hk2.blk hU hnU
          have hnU2 : ¬ own2 ub := fun h => (ho2 ub h).elim hnU (fun q => by have := hU.lt; omega)
          refine hK.out _ _ hTb2 (fun _ => ?_)
          clear hK K
          try simp only [Act.put, List.getElem_toArray, List.getElem_cons_zero, List.getElem_cons_succ, List.setIfInBounds_toArray, List.set_cons_zero, List.set_cons_succ]
          clear hS hI hB hTb ho2 hk2 hnT hC
          have hI := hI2
          have hB := hB2
          have hTb := hTb2
          clear hI2 hB2 hTb2
          clear hU hnU
          have hU := hU2
          have hnU := hnU2
          clear hU2 hnU2
          refine lastG (by kernel_rfl) rfl (by kernel_rfl) (fun K hK => ?_)
          refine step_store_row rfl 25 (.tmp 3) (.tmp 18) rfl _ rfl (thArr tR) rfl 25 _ hU rfl th_info (th_one tR) ?_
          intro W9 hb9 hg9
          refine hK.out _ _ ?_
          clear hK K
          go_wp2_with fail
          go_meet
          case rel => exact ⟨ub, wb, xb, ab, own2, rfl, hb9, YInv.keep _ _ _ _ _ hI ⟨fun i hi => hg9.block i (hI.lt i hi) (fun e => hnU (by rw [← Option.some.inj e]; exact hi)), hg9.size⟩, below_row hB hg9 hB.size hUb⟩
      · go_simp
        obtain ⟨ub, hub⟩ : ∃ g, Wx1.heap.size = g := ⟨_, rfl⟩
        have hal := (Below.refl Wx1.heap.size Wx1).alloc (Nat.le_refl _) (.cells th0 25)
        have hU := Blk.new Wx1 25 th0
        rw [hub] at hU
        have hnU : ¬ own ub := fun h => by have := hY.lt _ h; omega
        have hUb : w.heap.size ≤ ub := by have := hB.size; omega
        have hB2 := step_below hB hal
        have hTb2 := Blk.below hTb hal hTb.lt
        have hY2 := hY.keep ((Stay.refl _ _).below hY.lt hal)
        have hC2 := hC.step hal
        unfold th0 at hU hB2 hTb2 hY2 hC2
        refine hK.out _ _ hTb2 (fun _ => ?_)
        clear hK K
        try simp only [Act.put, List.getElem_toArray, List.getElem_cons_zero, List.getElem_cons_succ, List.setIfInBounds_toArray, List.set_cons_zero, List.set_cons_succ]
        try rw [hub]
        clear hal hub
        clear hB hTb
        have hB := hB2
        have hTb := hTb2
        clear hB2 hTb2
        clear hY
        have hY := hY2
        clear hY2
        clear hC
        have hC := hC2
        clear hC2
        generalize Wx1.alloc (.cells #[.int .i64 0, .int .u32 0, .int .u32 0, .int .u32 0, .int .u32 0, .int .u32 0, .int .u32 0, .int .u32 0, .int .u32 0, .int .i64 0] 25) = Wx7 at *
        refine onlyG (i := 4) (by kernel_rfl) rfl (fun K hK => ?_)
        go_simp
        with_reducible refine (yport_any Bq sA own Wx7 hY).mono ?_
        rintro e Wx8 ⟨wb, xb, ab, rfl, hI, ⟨hwb, hxb, hab⟩, hal⟩
        obtain ⟨own1, ho1⟩ : ∃ o, o = (fun i => own i ∨ i = wb ∨ i = xb ∨ i = ab) := ⟨_, rfl⟩
        rw [← ho1] at hI
        have hLo1 : ∀ i, own1 i → w.heap.size ≤ i := fun i h => by rw [ho1] at h; have := hB.size; rcases h with h | h | h | h <;> first | exact hLo i h | omega
        clear hLo
        have hLo := hLo1
        clear hLo1
        have hnT1 : ¬ own1 tb := fun h => by rw [ho1] at h; have := hTb.lt; rcases h with h | h | h | h <;> first | exact hnT h | omega
        have hnU1 : ¬ own1 ub := fun h => by rw [ho1] at h; have := hU.lt; rcases h with h | h | h | h <;> first | exact hnU h | omega
        have hB2 := step_below hB hal
        have hTb2 := Blk.below hTb hal hTb.lt
        have hC2 := hC.step hal
        have hU2 := Blk.below hU hal hU.lt
        refine hK.out _ _ hTb2 (fun _ => ?_)
        clear hK K
        try simp only [Act.put, List.getElem_toArray, List.getElem_cons_zero, List.getElem_cons_succ, List.setIfInBounds_toArray, List.set_cons_zero, List.set_cons_succ]
        clear hal hwb hxb hab ho1 hnT hY hB hTb
        have hB := hB2
        have hTb := hTb2
        have hnT := hnT1
        clear hB2 hTb2 hnT1
        clear hC
        have hC := hC2
        clear hC2
        clear hU hnU
        have hU := hU2
        have hnU := hnU1
        clear hU2 hnU1
        refine onlyG (i := 5) (by kernel_rfl) rfl (fun K hK => ?_)
        go_simp
        have hS := awake_step Bq wb xb ab own1 Wx8 hI (HBB.out.2.2.2.2.2.step hB) g2 hC HBB.out.1 HBB.out.2.1 HBB.out.2.2.1 HBB.out.2.2.2.1
        with_reducible refine hS.mono ?_
        rintro e Wx9 ⟨rfl, own2, hI2, ho2, hk2⟩
        have hTb2 := hk2.blk hTb hnT
        have hB2 : Below w.heap.size w Wx9 := hk2.belowOf hB hLo
        have hU2 := hk2.blk hU hnU
        have hnU2 : ¬ own2 ub := fun h => (ho2 ub h).elim hnU (fun q => by have := hU.lt; omega)
        refine hK.out _ _ hTb2 (fun _ => ?_)
        clear hK K
        try simp only [Act.put, List.getElem_toArray, List.getElem_cons_zero, List.getElem_cons_succ, List.setIfInBounds_toArray, List.set_cons_zero, List.set_cons_succ]
        clear hS hI hB hTb ho2 hk2 hnT hC
        have hI := hI2
        have hB := hB2
        have hTb := hTb2
        clear hI2 hB2 hTb2
        clear hU hnU
        have hU := hU2
        have hnU := hnU2
        clear hU2 hnU2
        refine lastG (by kernel_rfl) rfl (by kernel_rfl) (fun K hK => ?_)
        refine step_store_row rfl 25 (.tmp 3) (.tmp 18) rfl _ rfl (thArr tR) rfl 25 _ hU rfl th_info (th_one tR) ?_
        intro W9 hb9 hg9
        refine hK.out _ _ ?_
        clear hK K
        go_wp2_with fail
        go_meet
        case rel => exact ⟨ub, wb, xb, ab, own2, rfl, hb9, YInv.keep _ _ _ _ _ hI ⟨fun i hi => hg9.block i (hI.lt i hi) (fun e => hnU (by rw [← Option.some.inj e]; exact hi)), hg9.size⟩, below_row hB hg9 hB.size hUb⟩
    · go_simp
      with_reducible refine (yport_any Bq sA own W0 hY).mono ?_
      rintro e Wx10 ⟨wb, xb, ab, rfl, hI, ⟨hwb, hxb, hab⟩, hal⟩
      obtain ⟨own1, ho1⟩ : ∃ o, o = (fun i => own i ∨ i = wb ∨ i = xb ∨ i = ab) := ⟨_, rfl⟩
      rw [← ho1] at hI
      have hLo1 : ∀ i, own1 i → w.heap.size ≤ i := fun i h => by rw [ho1] at h; have := hB.size; rcases h with h | h | h | h <;> first | exact hLo i h | omega
      clear hLo
      have hLo := hLo1
      clear hLo1
      have hnT1 : ¬ own1 tb := fun h => by rw [ho1] at h; have := hTb.lt; rcases h with h | h | h | h <;> first | exact hnT h | omega
      have hB2 := step_below hB hal
      have hTb2 := Blk.below hTb hal hTb.lt
      refine hK.out _ _ hTb2 (fun _ => ?_)
      clear hK K
      try simp only [Act.put, List.getElem_toArray, List.getElem_cons_zero, List.getElem_cons_succ, List.setIfInBounds_toArray, List.set_cons_zero, List.set_cons_succ]
      clear hal hwb hxb hab ho1 hnT hY hB hTb
      have hB := hB2
      have hTb := hTb2
      have hnT := hnT1
      clear hB2 hTb2 hnT1
      refine manyG (rs := [2, 6]) (by kernel_rfl) (by simp) (AllG.cons (i := 2) rfl (fun K hK => ?_) (AllG.cons (i := 6) rfl (fun K hK => ?_) AllG.nil))
      · go_simp
        obtain ⟨g2, hg2⟩ : ∃ g, Wx10.heap.size = g := ⟨_, rfl⟩
        have hal := (Below.refl Wx10.heap.size Wx10).alloc (Nat.le_refl _) (.cells #[.int .i64 21, .int .i64 1, .int .i64 8, .int .i64 2, .int .u32 5] 54)
        have hC : Cd.At (⟨some ⟨g2, 0, none⟩, 1, 1, fun _ => ⟨21, 1, 8, 2, 5⟩⟩ : Cd) (Wx10.alloc (.cells #[.int .i64 21, .int .i64 1, .int .i64 8, .int .i64 2, .int .u32 5] 54)) := fun _ => ⟨Wx10.heap.size, 0, by rw [hg2], (Blk.new Wx10 54 #[.int .i64 21, .int .i64 1, .int .i64 8, .int .i64 2, .int .u32 5]).lt, fun i hi j u hu => by obtain rfl : i = 0 := (by exact Nat.lt_one_iff.1 hi); rw [(Blk.new Wx10 54 #[.int .i64 21, .int .i64 1, .int .i64 8, .int .i64 2, .int .u32 5]).cell, show 0 + 0 * 5 + j = j by omega]; simpa [Ins.cells] using hu⟩
        have hB2 := step_below hB hal
        have hTb2 := Blk.below hTb hal hTb.lt
        have hI2 := YInv.keep _ _ _ _ _ hI ((Stay.refl _ _).below hI.lt hal)
        refine hK.out _ _ hTb2 (fun _ => ?_)
        clear hK K
        try simp only [Act.put, List.getElem_toArray, List.getElem_cons_zero, List.getElem_cons_succ, List.setIfInBounds_toArray, List.set_cons_zero, List.set_cons_succ]
        try rw [hg2]
        clear hal hg2
        clear hB hTb
        have hB := hB2
        have hTb := hTb2
        clear hB2 hTb2
        clear hI
        have hI := hI2
        clear hI2
        generalize (Wx10.alloc (.cells #[.int .i64 21, .int .i64 1, .int .i64 8, .int .i64 2, .int .u32 5] 54)) = Wx11 at *
        refine manyG (rs := [5, 6]) (by kernel_rfl) (by simp) (AllG.cons (i := 5) rfl (fun K hK => ?_) (AllG.cons (i := 6) rfl (fun K hK => ?_) AllG.nil))
        · go_simp
          have hS := awake_step Bq wb xb ab own1 Wx11 hI (HBB.out.2.2.2.2.2.step hB) g2 hC HBB.out.1 HBB.out.2.1 HBB.out.2.2.1 HBB.out.2.2.2.1
          with_reducible refine hS.mono ?_
          rintro e Wx12 ⟨rfl, own2, hI2, ho2, hk2⟩
          have hTb2 := hk2.blk hTb hnT
          have hB2 : Below w.heap.size w Wx12 := hk2.belowOf hB hLo
          refine hK.out _ _ hTb2 (fun _ => ?_)
          clear hK K
          try simp only [Act.put, List.getElem_toArray, List.getElem_cons_zero, List.getElem_cons_succ, List.setIfInBounds_toArray, List.set_cons_zero, List.set_cons_succ]
          clear hS hI hB hTb ho2 hk2 hnT hC
          have hI := hI2
          have hB := hB2
          have hTb := hTb2
          clear hI2 hB2 hTb2
          refine onlyG (i := 6) (by kernel_rfl) rfl (fun K hK => ?_)
          go_simp
          obtain ⟨ub, hub⟩ : ∃ g, Wx12.heap.size = g := ⟨_, rfl⟩
          have hal := (Below.refl Wx12.heap.size Wx12).alloc (Nat.le_refl _) (.cells th0 25)
          have hU := Blk.new Wx12 25 th0
          rw [hub] at hU
          have hnU : ¬ own2 ub := fun h => by have := hI.lt _ h; omega
          have hUb : w.heap.size ≤ ub := by have := hB.size; omega
          have hB2 := step_below hB hal
          have hTb2 := Blk.below hTb hal hTb.lt
          have hI2 := YInv.keep _ _ _ _ _ hI ((Stay.refl _ _).below hI.lt hal)
          unfold th0 at hU hB2 hTb2 hI2
          refine hK.out _ _ hTb2 (fun _ => ?_)
          clear hK K
          try simp only [Act.put, List.getElem_toArray, List.getElem_cons_zero, List.getElem_cons_succ, List.setIfInBounds_toArray, List.set_cons_zero, List.set_cons_succ]
          try rw [hub]
          clear hal hub
          clear hB hTb
          have hB := hB2
          have hTb := hTb2
          clear hB2 hTb2
          clear hI
          have hI := hI2
          clear hI2
          generalize Wx12.alloc (.cells #[.int .i64 0, .int .u32 0, .int .u32 0, .int .u32 0, .int .u32 0, .int .u32 0, .int .u32 0, .int .u32 0, .int .u32 0, .int .i64 0] 25) = Wx13 at *
          refine lastG (by kernel_rfl) rfl (by kernel_rfl) (fun K hK => ?_)
          refine step_store_row rfl 25 (.tmp 3) (.tmp 18) rfl _ rfl (thArr tR) rfl 25 _ hU rfl th_info (th_one tR) ?_
          intro W9 hb9 hg9
          refine hK.out _ _ ?_
          clear hK K
          go_wp2_with fail
          go_meet
          case rel => exact ⟨ub, wb, xb, ab, own2, rfl, hb9, YInv.keep _ _ _ _ _ hI ⟨fun i hi => hg9.block i (hI.lt i hi) (fun e => hnU (by rw [← Option.some.inj e]; exact hi)), hg9.size⟩, below_row hB hg9 hB.size hUb⟩
        · go_simp
          obtain ⟨ub, hub⟩ : ∃ g, Wx11.heap.size = g := ⟨_, rfl⟩
          have hal := (Below.refl Wx11.heap.size Wx11).alloc (Nat.le_refl _) (.cells th0 25)
          have hU := Blk.new Wx11 25 th0
          rw [hub] at hU
          have hnU : ¬ own1 ub := fun h => by have := hI.lt _ h; omega
          have hUb : w.heap.size ≤ ub := by have := hB.size; omega
          have hB2 := step_below hB hal
          have hTb2 := Blk.below hTb hal hTb.lt
          have hI2 := YInv.keep _ _ _ _ _ hI ((Stay.refl _ _).below hI.lt hal)
          have hC2 := hC.step hal
          unfold th0 at hU hB2 hTb2 hI2 hC2
          refine hK.out _ _ hTb2 (fun _ => ?_)
          clear hK K
          try simp only [Act.put, List.getElem_toArray, List.getElem_cons_zero, List.getElem_cons_succ, List.setIfInBounds_toArray, List.set_cons_zero, List.set_cons_succ]
          try rw [hub]
          clear hal hub
          clear hB hTb
          have hB := hB2
          have hTb := hTb2
          clear hB2 hTb2
          clear hI
          have hI := hI2
          clear hI2
          clear hC
          have hC := hC2
          clear hC2
          generalize Wx11.alloc (.cells #[.int .i64 0, .int .u32 0, .int .u32 0, .int .u32 0, .int .u32 0, .int .u32 0, .int .u32 0, .int .u32 0, .int .u32 0, .int .i64 0] 25) = Wx14 at *
          refine onlyG (i := 5) (by kernel_rfl) rfl (fun K hK => ?_)
          go_simp
          have hS := awake_step Bq wb xb ab own1 Wx14 hI (HBB.out.2.2.2.2.2.step hB) g2 hC HBB.out.1 HBB.out.2.1 HBB.out.2.2.1 HBB.out.2.2.2.1
          with_reducible refine hS.mono ?_
          rintro e Wx15 ⟨rfl, own2, hI2, ho2, hk2⟩
          have hTb2 := hk2.blk hTb hnT
          have hB2 : Below w.heap.size w Wx15 := hk2.belowOf hB hLo
          have hU2 := hk2.blk hU hnU
          have hnU2 : ¬ own2 ub := fun h => (ho2 ub h).elim hnU (fun q => by have := hU.lt; omega)
          refine hK.out _ _ hTb2 (fun _ => ?_)
          clear hK K
          try simp only [Act.put, List.getElem_toArray, List.getElem_cons_zero, List.getElem_cons_succ, List.setIfInBounds_toArray, List.set_cons_zero, List.set_cons_succ]
          clear hS hI hB hTb ho2 hk2 hnT hC
          have hI := hI2
          have hB := hB2
          have hTb := hTb2
          clear hI2 hB2 hTb2
          clear hU hnU
          have hU := hU2
          have hnU := hnU2
          clear hU2 hnU2
          refine lastG (by kernel_rfl) rfl (by kernel_rfl) (fun K hK => ?_)
          refine step_store_row rfl 25 (.tmp 3) (.tmp 18) rfl _ rfl (thArr tR) rfl 25 _ hU rfl th_info (th_one tR) ?_
          intro W9 hb9 hg9
          refine hK.out _ _ ?_
          clear hK K
          go_wp2_with fail
          go_meet
          case rel => exact ⟨ub, wb, xb, ab, own2, rfl, hb9, YInv.keep _ _ _ _ _ hI ⟨fun i hi => hg9.block i (hI.lt i hi) (fun e => hnU (by rw [← Option.some.inj e]; exact hi)), hg9.size⟩, below_row hB hg9 hB.size hUb⟩
      · go_simp
        obtain ⟨ub, hub⟩ : ∃ g, Wx10.heap.size = g := ⟨_, rfl⟩
        have hal := (Below.refl Wx10.heap.size Wx10).alloc (Nat.le_refl _) (.cells th0 25)
        have hU := Blk.new Wx10 25 th0
        rw [hub] at hU
        have hnU : ¬ own1 ub := fun h => by have := hI.lt _ h; omega
        have hUb : w.heap.size ≤ ub := by have := hB.size; omega
        have hB2 := step_below hB hal
        have hTb2 := Blk.below hTb hal hTb.lt
        have hI2 := YInv.keep _ _ _ _ _ hI ((Stay.refl _ _).below hI.lt hal)
        unfold th0 at hU hB2 hTb2 hI2
        refine hK.out _ _ hTb2 (fun _ => ?_)
        clear hK K
        try simp only [Act.put, List.getElem_toArray, List.getElem_cons_zero, List.getElem_cons_succ, List.setIfInBounds_toArray, List.set_cons_zero, List.set_cons_succ]
        try rw [hub]
        clear hal hub
        clear hB hTb
        have hB := hB2
        have hTb := hTb2
        clear hB2 hTb2
        clear hI
        have hI := hI2
        clear hI2
        generalize Wx10.alloc (.cells #[.int .i64 0, .int .u32 0, .int .u32 0, .int .u32 0, .int .u32 0, .int .u32 0, .int .u32 0, .int .u32 0, .int .u32 0, .int .i64 0] 25) = Wx16 at *
        refine onlyG (i := 2) (by kernel_rfl) rfl (fun K hK => ?_)
        go_simp
        obtain ⟨g2, hg2⟩ : ∃ g, Wx16.heap.size = g := ⟨_, rfl⟩
        have hal := (Below.refl Wx16.heap.size Wx16).alloc (Nat.le_refl _) (.cells #[.int .i64 21, .int .i64 1, .int .i64 8, .int .i64 2, .int .u32 5] 54)
        have hC : Cd.At (⟨some ⟨g2, 0, none⟩, 1, 1, fun _ => ⟨21, 1, 8, 2, 5⟩⟩ : Cd) (Wx16.alloc (.cells #[.int .i64 21, .int .i64 1, .int .i64 8, .int .i64 2, .int .u32 5] 54)) := fun _ => ⟨Wx16.heap.size, 0, by rw [hg2], (Blk.new Wx16 54 #[.int .i64 21, .int .i64 1, .int .i64 8, .int .i64 2, .int .u32 5]).lt, fun i hi j u hu => by obtain rfl : i = 0 := (by exact Nat.lt_one_iff.1 hi); rw [(Blk.new Wx16 54 #[.int .i64 21, .int .i64 1, .int .i64 8, .int .i64 2, .int .u32 5]).cell, show 0 + 0 * 5 + j = j by omega]; simpa [Ins.cells] using hu⟩
        have hB2 := step_below hB hal
        have hTb2 := Blk.below hTb hal hTb.lt
        have hI2 := YInv.keep _ _ _ _ _ hI ((Stay.refl _ _).below hI.lt hal)
        have hU2 := Blk.below hU hal hU.lt
        refine hK.out _ _ hTb2 (fun _ => ?_)
        clear hK K
        try simp only [Act.put, List.getElem_toArray, List.getElem_cons_zero, List.getElem_cons_succ, List.setIfInBounds_toArray, List.set_cons_zero, List.set_cons_succ]
        try rw [hg2]
        clear hal hg2
        clear hB hTb
        have hB := hB2
        have hTb := hTb2
        clear hB2 hTb2
        clear hI
        have hI := hI2
        clear hI2
        clear hU
        have hU := hU2
        clear hU2
        generalize (Wx16.alloc (.cells #[.int .i64 21, .int .i64 1, .int .i64 8, .int .i64 2, .int .u32 5] 54)) = Wx17 at *
        refine onlyG (i := 5) (by kernel_rfl) rfl (fun K hK => ?_)
        go_simp
        have hS := awake_step Bq wb xb ab own1 Wx17 hI (HBB.out.2.2.2.2.2.step hB) g2 hC HBB.out.1 HBB.out.2.1 HBB.out.2.2.1 HBB.out.2.2.2.1
        with_reducible refine hS.mono ?_
        rintro e Wx18 ⟨rfl, own2, hI2, ho2, hk2⟩
        have hTb2 := hk2.blk hTb hnT
        have hB2 : Below w.heap.size w Wx18 := hk2.belowOf hB hLo
        have hU2 := hk2.blk hU hnU
        have hnU2 : ¬ own2 ub := fun h => (ho2 ub h).elim hnU (fun q => by have := hU.lt; omega)
        refine hK.out _ _ hTb2 (fun _ => ?_)
        clear hK K
        try simp only [Act.put, List.getElem_toArray, List.getElem_cons_zero, List.getElem_cons_succ, List.setIfInBounds_toArray, List.set_cons_zero, List.set_cons_succ]
        clear hS hI hB hTb ho2 hk2 hnT hC
        have hI := hI2
        have hB := hB2
        have hTb := hTb2
        clear hI2 hB2 hTb2
        clear hU hnU
        have hU := hU2
        have hnU := hnU2
        clear hU2 hnU2
        refine lastG (by kernel_rfl) rfl (by kernel_rfl) (fun K hK => ?_)
        refine step_store_row rfl 25 (.tmp 3) (.tmp 18) rfl _ rfl (thArr tR) rfl 25 _ hU rfl th_info (th_one tR) ?_
        intro W9 hb9 hg9
        refine hK.out _ _ ?_
        clear hK K
        go_wp2_with fail
        go_meet
        case rel => exact ⟨ub, wb, xb, ab, own2, rfl, hb9, YInv.keep _ _ _ _ _ hI ⟨fun i hi => hg9.block i (hI.lt i hi) (fun e => hnU (by rw [← Option.some.inj e]; exact hi)), hg9.size⟩, below_row hB hg9 hB.size hUb⟩
    · go_simp
      obtain ⟨ub, hub⟩ : ∃ g, W0.heap.size = g := ⟨_, rfl⟩
      have hal := (Below.refl W0.heap.size W0).alloc (Nat.le_refl _) (.cells th0 25)
      have hU := Blk.new W0 25 th0
      rw [hub] at hU
      have hnU : ¬ own ub := fun h => by have := hY.lt _ h; omega
      have hUb : w.heap.size ≤ ub := by have := hB.size; omega
      have hB2 := step_below hB hal
      have hTb2 := Blk.below hTb hal hTb.lt
      have hY2 := hY.keep ((Stay.refl _ _).below hY.lt hal)
      unfold th0 at hU hB2 hTb2 hY2
      refine hK.out _ _ hTb2 (fun _ => ?_)
      clear hK K
      try simp only [Act.put, List.getElem_toArray, List.getElem_cons_zero, List.getElem_cons_succ, List.setIfInBounds_toArray, List.set_cons_zero, List.set_cons_succ]
      try rw [hub]
      clear hal hub
      clear hB hTb
      have hB := hB2
      have hTb := hTb2
      clear hB2 hTb2
      clear hY
      have hY := hY2
      clear hY2
      generalize W0.alloc (.cells #[.int .i64 0, .int .u32 0, .int .u32 0, .int .u32 0, .int .u32 0, .int .u32 0, .int .u32 0, .int .u32 0, .int .u32 0, .int .i64 0] 25) = Wx19 at *
      refine manyG (rs := [2, 4]) (by kernel_rfl) (by simp) (AllG.cons (i := 2) rfl (fun K hK => ?_) (AllG.cons (i := 4) rfl (fun K hK => ?_) AllG.nil))
      · go_simp
        obtain ⟨g2, hg2⟩ : ∃ g, Wx19.heap.size = g := ⟨_, rfl⟩
        have hal := (Below.refl Wx19.heap.size Wx19).alloc (Nat.le_refl _) (.cells #[.int .i64 21, .int .i64 1, .int .i64 8, .int .i64 2, .int .u32 5] 54)
        have hC : Cd.At (⟨some ⟨g2, 0, none⟩, 1, 1, fun _ => ⟨21, 1, 8, 2, 5⟩⟩ : Cd) (Wx19.alloc (.cells #[.int .i64 21, .int .i64 1, .int .i64 8, .int .i64 2, .int .u32 5] 54)) := fun _ => ⟨Wx19.heap.size, 0, by rw [hg2], (Blk.new Wx19 54 #[.int .i64 21, .int .i64 1, .int .i64 8, .int .i64 2, .int .u32 5]).lt, fun i hi j u hu => by obtain rfl : i = 0 := (by exact Nat.lt_one_iff.1 hi); rw [(Blk.new Wx19 54 #[.int .i64 21, .int .i64 1, .int .i64 8, .int .i64 2, .int .u32 5]).cell, show 0 + 0 * 5 + j = j by omega]; simpa [Ins.cells] using hu⟩
        have hB2 := step_below hB hal
        have hTb2 := Blk.below hTb hal hTb.lt
        have hY2 := hY.keep ((Stay.refl _ _).below hY.lt hal)
        have hU2 := Blk.below hU hal hU.lt
        refine hK.out _ _ hTb2 (fun _ => ?_)
        clear hK K
        try simp only [Act.put, List.getElem_toArray, List.getElem_cons_zero, List.getElem_cons_succ, List.setIfInBounds_toArray, List.set_cons_zero, List.set_cons_succ]
        try rw [hg2]
        clear hal hg2
        clear hB hTb
        have hB := hB2
        have hTb := hTb2
        clear hB2 hTb2
        clear hY
        have hY := hY2
        clear hY2
        clear hU
        have hU := hU2
        clear hU2
        generalize (Wx19.alloc (.cells #[.int .i64 21, .int .i64 1, .int .i64 8, .int .i64 2, .int .u32 5] 54)) = Wx20 at *
        refine onlyG (i := 4) (by kernel_rfl) rfl (fun K hK => ?_)
        go_simp
        with_reducible refine (yport_any Bq sA own Wx20 hY).mono ?_
        rintro e Wx21 ⟨wb, xb, ab, rfl, hI, ⟨hwb, hxb, hab⟩, hal⟩
        obtain ⟨own1, ho1⟩ : ∃ o, o = (fun i => own i ∨ i = wb ∨ i = xb ∨ i = ab) := ⟨_, rfl⟩
        rw [← ho1] at hI
        have hLo1 : ∀ i, own1 i → w.heap.size ≤ i := fun i h => by rw [ho1] at h; have := hB.size; rcases h with h | h | h | h <;> first | exact hLo i h | omega
        clear hLo
        have hLo := hLo1
        clear hLo1
        have hnT1 : ¬ own1 tb := fun h => by rw [ho1] at h; have := hTb.lt; rcases h with h | h | h | h <;> first | exact hnT h | omega
        have hnU1 : ¬ own1 ub := fun h => by rw [ho1] at h; have := hU.lt; rcases h with h | h | h | h <;> first | exact hnU h | omega
        have hB2 := step_below hB hal
        have hTb2 := Blk.below hTb hal hTb.lt
        have hC2 := hC.step hal
        have hU2 := Blk.below hU hal hU.lt
        refine hK.out _ _ hTb2 (fun _ => ?_)
        clear hK K
        try simp only [Act.put, List.getElem_toArray, List.getElem_cons_zero, List.getElem_cons_succ, List.setIfInBounds_toArray, List.set_cons_zero, List.set_cons_succ]
        clear hal hwb hxb hab ho1 hnT hY hB hTb
        have hB := hB2
        have hTb := hTb2
        have hnT := hnT1
        clear hB2 hTb2 hnT1
        clear hC
        have hC := hC2
        clear hC2
        clear hU hnU
        have hU := hU2
        have hnU := hnU1
        clear hU2 hnU1
        refine onlyG (i := 5) (by kernel_rfl) rfl (fun K hK => ?_)
        go_simp
        have hS := awake_step Bq wb xb ab own1 Wx21 hI (HBB.out.2.2.2.2.2.step hB) g2 hC HBB.out.1 HBB.out.2.1 HBB.out.2.2.1 HBB.out.2.2.2.1
        with_reducible refine hS.mono ?_
        rintro e Wx22 ⟨rfl, own2, hI2, ho2, hk2⟩
        have hTb2 := hk2.blk hTb hnT
        have hB2 : Below w.heap.size w Wx22 := hk2.belowOf hB hLo
        have hU2 := hk2.blk hU hnU
        have hnU2 : ¬ own2 ub := fun h => (ho2 ub h).elim hnU (fun q => by have := hU.lt; omega)
        refine hK.out _ _ hTb2 (fun _ => ?_)
        clear hK K
        try simp only [Act.put, List.getElem_toArray, List.getElem_cons_zero, List.getElem_cons_succ, List.setIfInBounds_toArray, List.set_cons_zero, List.set_cons_succ]
        clear hS hI hB hTb ho2 hk2 hnT hC
        have hI := hI2
        have hB := hB2
        have hTb := hTb2
        clear hI2 hB2 hTb2
        clear hU hnU
        have hU := hU2
        have hnU := hnU2
        clear hU2 hnU2
        refine lastG (by kernel_rfl) rfl (by kernel_rfl) (fun K hK => ?_)
        refine step_store_row rfl 25 (.tmp 3) (.tmp 18) rfl _ rfl (thArr tR) rfl 25 _ hU rfl th_info (th_one tR) ?_
        intro W9 hb9 hg9
        refine hK.out _ _ ?_
        clear hK K
        go_wp2_with fail
        go_meet
        case rel => exact ⟨ub, wb, xb, ab, own2, rfl, hb9, YInv.keep _ _ _ _ _ hI ⟨fun i hi => hg9.block i (hI.lt i hi) (fun e => hnU (by rw [← Option.some.inj e]; exact hi)), hg9.size⟩, below_row hB hg9 hB.size hUb⟩
      · go_simp
        with_reducible refine (yport_any Bq sA own Wx19 hY).mono ?_
        rintro e Wx23 ⟨wb, xb, ab, rfl, hI, ⟨hwb, hxb, hab⟩, hal⟩
        obtain ⟨own1, ho1⟩ : ∃ o, o = (fun i => own i ∨ i = wb ∨ i = xb ∨ i = ab) := ⟨_, rfl⟩
        rw [← ho1] at hI
        have hLo1 : ∀ i, own1 i → w.heap.size ≤ i := fun i h => by rw [ho1] at h; have := hB.size; rcases h with h | h | h | h <;> first | exact hLo i h | omega
        clear hLo
        have hLo := hLo1
        clear hLo1
        have hnT1 : ¬ own1 tb := fun h => by rw [ho1] at h; have := hTb.lt; rcases h with h | h | h | h <;> first | exact hnT h | omega
        have hnU1 : ¬ own1 ub := fun h => by rw [ho1] at h; have := hU.lt; rcases h with h | h | h | h <;> first | exact hnU h | omega
        have hB2 := step_below hB hal
        have hTb2 := Blk.below hTb hal hTb.lt
        have hU2 := Blk.below hU hal hU.lt
        refine hK.out _ _ hTb2 (fun _ => ?_)
        clear hK K
        try simp only [Act.put, List.getElem_toArray, List.getElem_cons_zero, List.getElem_cons_succ, List.setIfInBounds_toArray, List.set_cons_zero, List.set_cons_succ]
        clear hal hwb hxb hab ho1 hnT hY hB hTb
        have hB := hB2
        have hTb := hTb2
        have hnT := hnT1
        clear hB2 hTb2 hnT1
        clear hU hnU
        have hU := hU2
        have hnU := hnU1
        clear hU2 hnU1
        refine onlyG (i := 2) (by kernel_rfl) rfl (fun K hK => ?_)
        go_simp
        obtain ⟨g2, hg2⟩ : ∃ g, Wx23.heap.size = g := ⟨_, rfl⟩
        have hal := (Below.refl Wx23.heap.size Wx23).alloc (Nat.le_refl _) (.cells #[.int .i64 21, .int .i64 1, .int .i64 8, .int .i64 2, .int .u32 5] 54)
        have hC : Cd.At (⟨some ⟨g2, 0, none⟩, 1, 1, fun _ => ⟨21, 1, 8, 2, 5⟩⟩ : Cd) (Wx23.alloc (.cells #[.int .i64 21, .int .i64 1, .int .i64 8, .int .i64 2, .int .u32 5] 54)) := fun _ => ⟨Wx23.heap.size, 0, by rw [hg2], (Blk.new Wx23 54 #[.int .i64 21, .int .i64 1, .int .i64 8, .int .i64 2, .int .u32 5]).lt, fun i hi j u hu => by obtain rfl : i = 0 := (by exact Nat.lt_one_iff.1 hi); rw [(Blk.new Wx23 54 #[.int .i64 21, .int .i64 1, .int .i64 8, .int .i64 2, .int .u32 5]).cell, show 0 + 0 * 5 + j = j by omega]; simpa [Ins.cells] using hu⟩
        have hB2 := step_below hB hal
        have hTb2 := Blk.below hTb hal hTb.lt
        have hI2 := YInv.keep _ _ _ _ _ hI ((Stay.refl _ _).below hI.lt hal)
        have hU2 := Blk.below hU hal hU.lt
        refine hK.out _ _ hTb2 (fun _ => ?_)
        clear hK K
        try simp only [Act.put, List.getElem_toArray, List.getElem_cons_zero, List.getElem_cons_succ, List.setIfInBounds_toArray, List.set_cons_zero, List.set_cons_succ]
        try rw [hg2]
        clear hal hg2
        clear hB hTb
        have hB := hB2
        have hTb := hTb2
        clear hB2 hTb2
        clear hI
        have hI := hI2
        clear hI2
        clear hU
        have hU := hU2
        clear hU2
        generalize (Wx23.alloc (.cells #[.int .i64 21, .int .i64 1, .int .i64 8, .int .i64 2, .int .u32 5] 54)) = Wx24 at *
        refine onlyG (i := 5) (by kernel_rfl) rfl (fun K hK => ?_)
        go_simp
        have hS := awake_step Bq wb xb ab own1 Wx24 hI (HBB.out.2.2.2.2.2.step hB) g2 hC HBB.out.1 HBB.out.2.1 HBB.out.2.2.1 HBB.out.2.2.2.1
        with_reducible refine hS.mono ?_
        rintro e Wx25 ⟨rfl, own2, hI2, ho2, hk2⟩
        have hTb2 := hk2.blk hTb hnT
        have hB2 : Below w.heap.size w Wx25 := hk2.belowOf hB hLo
        have hU2 := hk2.blk hU hnU
        have hnU2 : ¬ own2 ub := fun h => (ho2 ub h).elim hnU (fun q => by have := hU.lt; omega)
        refine hK.out _ _ hTb2 (fun _ => ?_)
        clear hK K
        try simp only [Act.put, List.getElem_toArray, List.getElem_cons_zero, List.getElem_cons_succ, List.setIfInBounds_toArray, List.set_cons_zero, List.set_cons_succ]
        clear hS hI hB hTb ho2 hk2 hnT hC
        have hI := hI2
        have hB := hB2
        have hTb := hTb2
        clear hI2 hB2 hTb2
        clear hU hnU
        have hU := hU2
        have hnU := hnU2
        clear hU2 hnU2
        refine lastG (by kernel_rfl) rfl (by kernel_rfl) (fun K hK => ?_)
        refine step_store_row rfl 25 (.tmp 3) (.tmp 18) rfl _ rfl (thArr tR) rfl 25 _ hU rfl th_info (th_one tR) ?_
        intro W9 hb9 hg9
        refine hK.out _ _ ?_
        clear hK K
        go_wp2_with fail
        go_meet
        case rel => exact ⟨ub, wb, xb, ab, own2, rfl, hb9, YInv.keep _ _ _ _ _ hI ⟨fun i hi => hg9.block i (hI.lt i hi) (fun e => hnU (by rw [← Option.some.inj e]; exact hi)), hg9.size⟩, below_row hB hg9 hB.size hUb⟩
  case rest =>
    obtain ⟨ub, wb, xb, ab, own2, rfl, hU, hI, hB⟩ := hcut
    obtain ⟨bv, sv, ev, cur, h1, ho, h3, h4, h5, h6, b1, b2, b3, b4, b5, c0, hl, hn, hb, hm, hs, he⟩ := hI
    obtain ⟨mA, mcap, em, _, hms⟩ := own_sl hm
    obtain ⟨mg, moff, rfl, _, hmc⟩ := hms (by decide)
    obtain ⟨eA, ecap, rfl, _, hes⟩ := own_sl he
    obtain ⟨eg, eoff, rfl, _, hec⟩ := hes (by decide)
    have y3 : wc.cell? ⟨yb, 3, none⟩ = some (.slice (some ⟨mg, moff, none⟩) 6 mcap) := by
      have := (b1.cell 3).trans rfl
      rw [em] at this
      rw [← hBy]
      exact this
    have y6 : wc.cell? ⟨yb, 6, none⟩ = some (.slice (some ⟨eg, eoff, none⟩) 1 ecap) := by
      have := (b1.cell 6).trans rfl
      rw [← hBy]
      exact this
    have m5 : wc.cell? ⟨mg, moff + 5, none⟩ = some (.int .u32 9) := hmc 5 (by decide)
    have e7 : wc.cell? ⟨eg, eoff + 7, none⟩ = some (.bool true) := hec 7 (by decide)
    have u0 : wc.cell? ⟨ub, 0, none⟩ = some (.int .i64 1) := (hU.cell 0).trans rfl
    have u2 : wc.cell? ⟨ub, 2, none⟩ = some (.int .u32 0) := (hU.cell 2).trans rfl
    have HB := Lib.hid hB
    clear HH HBB hBy h1 ho h3 h4 h5 h6 b1 b2 b3 b4 b5 c0 hl hn hb hm hs he hms hmc hes hec em hU hB
    go_wp2
    go_ret
    exact ⟨rfl, HB.out⟩
end Go.Proofs.YtjmnogpnjombgaaDoor

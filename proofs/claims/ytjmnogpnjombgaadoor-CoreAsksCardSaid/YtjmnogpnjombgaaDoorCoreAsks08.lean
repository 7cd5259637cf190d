/- law08: CoreAsks. -/
import Derived.Test.YtjmnogpnjombgaaDoorLawC
import Derived.Test.YtjmnogpnjombgaaDoorAskLaw
import Derived.Test.YtjmnogpnjombgaaDoorThEq
import Derived.Deep.DeepCutAuto
namespace Go.Proofs.YtjmnogpnjombgaaDoor
open Go.ChangeShapes Go.WideShapes Go.ChangeAt Go.RowKit Go.Deep
set_option linter.unusedVariables false
set_option maxRecDepth 100000
set_option linter.unusedSimpArgs false

theorem step_at (B : YB) (hB : YBok B) (q : InD) (hn : B.n = q.m) (t : Th) (ht : ∀ r, 0 ≤ t.regs r ∧ t.regs r ≤ 4294967295) (c : Cd) (hc : c.Ok) (t2 : Th) (s2 : Yst) (he : stepR (yOps B) q.st t c = (t2, s2)) (hs : longB q.c.len q.bn q.m q.an = false) (wb xb ab : Nat) (own : Nat → Prop) (W : World) (hI : YInv (B.at wb xb ab) q.st own W) (hT : Tab W) (hca : c.At W) :
    Calls Tryd.prog 17 #[.agg t.cells.toArray, .slice c.A c.len c.cap, (yPv (B.at wb xb ab)).val B.n] W fun e W' => e = .returned (.agg (thArr t2)) ∧ ∃ own2, YInv (B.at wb xb ab) s2 own2 W' ∧ (∀ j, own2 j → own j ∨ W.heap.size ≤ j) ∧ KeepOut own W W' := by
  have h := step_q (B.at wb xb ab) ⟨hB.base, hB.n, hB.room, hB.tv⟩ q hn t ht c hc own W hI hT hca hs
  rw [show stepR (yOps (B.at wb xb ab)) q.st t c = (t2, s2) from he] at h
  exact h.mono fun e W' ⟨h1, own2, h2, h3, h4⟩ => ⟨h1, own2, h2, h3, h4⟩

theorem YPre.drew {B : YB} {s : Yst} {own : Nat → Prop} {W : World} (h : YPre B s own W) : YPre B s own W.drew := h.keep (Stay.refl own W).drew
set_option maxHeartbeats 4000000 in
theorem coreAsks_true (q : InD) (ho : q.Ok) (w : World) (hT : Tab w) (ha : q.At w) :
    Calls Tryd.prog 3 #[.agg q.arr] w fun e w' => e = .returned (.bool true) ∧ Below w.heap.size w w' := by
  have hI := Blk.new w 31 q.arr
  have hB := (Below.refl w.heap.size w).alloc (Nat.le_refl _) (.cells q.arr 31)
  obtain ⟨ib, hib⟩ : ∃ ib, w.heap.size = ib := ⟨_, rfl⟩
  rw [hib] at hI
  have cL := fun W => long_any q.t q.c q.bA q.bn q.bcap q.mA q.m q.mcap q.z q.aA q.an q.acap W
  have HH := Lib.hid (And.intro hI (And.intro hB (And.intro hib (And.intro hT (And.intro ha ho)))))
  have cA := awake_any _ (hT.step hB)
  obtain ⟨lb, hlb⟩ : ∃ lb, longB q.c.len q.bn q.m q.an = lb := ⟨_, rfl⟩
  have HL := Lib.hid hlb
  rw [hlb] at cL
  have cL' : ∀ W, Calls Tryd.prog 15 #[.agg q.arr] W fun e w' => e = .returned (.bool lb) ∧ Below W.heap.size W w' := cL
  clear cL hI hB hT ha ho hlb
  go_enter Tryd.func3, Tryd.ntmps3
  go_wp2_with fail
  try rw [hib]
  clear hib
  with_reducible refine cA.mono ?_
  rintro e W2 ⟨rfl, hB2⟩
  have hI2 := HH.out.1.below hB2 HH.out.1.lt
  have hBw2 := step_below HH.out.2.1 hB2
  clear cA hB2
  go_wp2_with (refine wpList_load_rowG (by rfl) 31 (.tmp 1) rfl _ rfl 31 q.arr (0, 0) _ hI2 Tryd.underlying31 rfl in_info ?_)
  have cL := cL' W2
  clear cL'
  with_reducible refine cL.mono ?_
  rintro e W3 ⟨rfl, hB3⟩
  have hI3 := hI2.below hB3 hI2.lt
  have hBw3 := step_below hBw2 hB3
  clear cL hB3 hI2 hBw2
  cases lb
  case true =>
    have cA := awake_any _ (HH.out.2.2.2.1.step hBw3)
    have HB3 := Lib.hid hBw3
    clear hI3 hBw3
    go_wp2_with fail
    with_reducible refine cA.mono ?_
    rintro e W4 ⟨rfl, hB4⟩
    have HB4 := Lib.hid (step_below HB3.out hB4)
    clear cA hB4
    go_wp2
    go_ret
    exact ⟨rfl, HB4.out⟩
  case false =>
    have ha3 := HH.out.2.2.2.2.1.step hBw3
    have ho := HH.out.2.2.2.2.2
    have hT := HH.out.2.2.2.1
    have cW := world_q q ho W3 ha3 HL.out
    have hbs : w.heap.size ≤ W3.heap.size := hBw3.size
    have HB3 := Lib.hid (And.intro hBw3 (And.intro ha3 (And.intro ho (And.intro hT (And.intro hbs hI3.lt)))))
    clear hBw3 ha3 ho hT hbs
    go_wp2_with (refine wpList_load_row rfl 31 (.tmp 1) rfl _ rfl 31 q.arr (0, 0) _ hI3 Tryd.underlying31 rfl in_info ?_)
    with_reducible refine cW.mono ?_
    rintro e W4 ⟨v, rfl, hv⟩
    have HV0 := hv
    obtain ⟨fg, m, bl, fc, room, mv, cv, tv, bv, sv, bvs, rfl, e1, e2, ⟨tA, tl, tcap, rfl, e3, e4⟩, ⟨o1, o2, o3⟩, e5, e6, e7, e8, e9, hB4⟩ := hv
    have hI4 := hI3.below hB4 hI3.lt
    have HV := Lib.hid HV0
    clear HV0 e1 e2 e3 e4 e5 e6 e7 e8 e9
    have hal := (Below.refl W4.heap.size W4).alloc (Nat.le_refl _) (.cells #[cv, .slice tA tl tcap, .slice (some ⟨fg, 0, none⟩) bl fc, mv, .int .i64 (room : Int), sv, .slice none 0 0, .bool false, .string ⟨#[]⟩] 43)
    have hI5 := hI4.below hal hI4.lt
    have hyb := Blk.new W4 43 #[cv, .slice tA tl tcap, .slice (some ⟨fg, 0, none⟩) bl fc, mv, .int .i64 (room : Int), sv, .slice none 0 0, .bool false, .string ⟨#[]⟩]
    obtain ⟨yb, hybe⟩ : ∃ yb, W4.heap.size = yb := ⟨_, rfl⟩
    rw [hybe] at hyb
    have H5 := Lib.hid (And.intro hI5 (And.intro hyb (And.intro hal (And.intro hB4 hybe))))
    clear cW hI3 hI4 hB4 hal hI5 hyb
    go_upto_region 4 with fail
    try rw [hybe]
    clear hybe
    obtain ⟨hI5, hyb, hal, hB4, hybe⟩ := H5.out
    have hs := HL.out
    obtain ⟨hBw3, ha3, ho, hT, hbs, hib3⟩ := HB3.out
    have hyw : W3.heap.size ≤ yb := by rw [← hybe]; exact hB4.size
    have hm3 : q.m ≤ 300 := by
      unfold longB at hs
      simp only [Bool.or_eq_false_iff, decide_eq_false_iff_not] at hs
      omega
    obtain ⟨B, own, hBy, hBn, hBr, hBok, hY, hLo⟩ := HV.out.pre (Nat.le_trans hT.1 hbs) hyw hal hyb hm3
    have hB5 := step_below (step_below hBw3 hB4) hal
    have HXS := True.intro
    clear hyb hal hB4 hybe H5 hyw o1 o2 o3 HV hbs
    subst hBy
    obtain ⟨t2, s2, he⟩ : ∃ t2 s2, stepR (yOps B) q.st q.t q.c = (t2, s2) := ⟨_, _, rfl⟩
    have HA := Lib.hid (show AskOk q.t t2 q.c s2 from by have := ask_step B q.st q.t q.c rfl rfl ho.t.r ho.c; rw [he] at this; exact this)
    have hLo' : ∀ i, own i → w.heap.size ≤ i ∧ ib < i := fun i h => by have := hLo i h; have := hBw3.size; omega
    have HX := Lib.hid (And.intro hBn (And.intro hBok (And.intro he (And.intro hs (And.intro ho hT)))))
    have HY := Lib.hid (And.intro hY.drew (And.intro hI5.drew (And.intro hB5.drew hLo')))
    clear hY hI5 hB5 hLo hLo' hBn hBr hBok he hs ho hT hBw3 ha3 hib3 hm3 HXS
    go_cut [4] (fun s wx => ∃ ub wb xb ab own2, s = .pointer (some ⟨ub, 0, none⟩) ∧ Blk wx ub 25 (thArr t2) ∧ YInv (B.at wb xb ab) s2 own2 wx ∧ Blk wx ib 31 q.arr ∧ Below w.heap.size w wx)
    case first =>
      obtain ⟨hY, hI0, hB, hLo⟩ := HY.out
      refine startG (fun W' => Blk W' ib 31 q.arr) 8 (by kernel_rfl) ?_
      generalize (W4.alloc (.cells #[cv, .slice tA tl tcap, .slice (some ⟨fg, 0, none⟩) bl fc, mv, .int .i64 (room : Int), sv, .slice none 0 0, .bool false, .string ⟨#[]⟩] 43)).drew = W0 at hY hI0 hB ⊢
      refine takeG0 (i := 0) (v := .pointer (some ⟨ib, 0, none⟩)) rfl (by kernel_rfl) (by kernel_rfl) (by kernel_rfl) (by kernel_rfl) (fun _ _ _ h => h) (Or.inl ⟨by rfl, fun W hW => by go_simp⟩) hI0 ?_
      simp only [Act.put, List.getElem_toArray, List.getElem_cons_zero, List.getElem_cons_succ, List.setIfInBounds_toArray, List.set_cons_zero, List.set_cons_succ]
      refine takeG (i := 1) (v := .agg q.t.cells.toArray) rfl (by kernel_rfl) (by kernel_rfl) (by kernel_rfl) (by kernel_rfl) (fun _ _ _ h => h) (yieldsIf_load_mid (by rfl) 25 (.tmp 17) rfl ib 0 rfl q.t.cells _ (fun W hW => InD.range hW) Tryd.underlying25 rfl th_infoL) hI0 ?_
      simp only [Act.put, List.getElem_toArray, List.getElem_cons_zero, List.getElem_cons_succ, List.setIfInBounds_toArray, List.set_cons_zero, List.set_cons_succ]
      refine takeG0 (i := 2) (v := .pointer (some ⟨ib, 10, none⟩)) rfl (by kernel_rfl) (by kernel_rfl) (by kernel_rfl) (by kernel_rfl) (fun _ _ _ h => h) (Or.inl ⟨by rfl, fun W hW => by go_simp⟩) hI0 ?_
      simp only [Act.put, List.getElem_toArray, List.getElem_cons_zero, List.getElem_cons_succ, List.setIfInBounds_toArray, List.set_cons_zero, List.set_cons_succ]
      refine takeG (i := 3) (v := .slice q.c.A q.c.len q.c.cap) rfl (by kernel_rfl) (by kernel_rfl) (by kernel_rfl) (by kernel_rfl) (fun _ _ _ h => h) (Or.inl ⟨by rfl, fun W hW => by have q0 := (hW.cell 10).trans (show q.arr[10]? = some (.slice q.c.A q.c.len q.c.cap) from rfl); go_simp⟩) hI0 ?_
      simp only [Act.put, List.getElem_toArray, List.getElem_cons_zero, List.getElem_cons_succ, List.setIfInBounds_toArray, List.set_cons_zero, List.set_cons_succ]
      refine takeG0 (i := 4) (v := .pointer (some ⟨B.yb, 0, none⟩)) rfl (by kernel_rfl) (by kernel_rfl) (by kernel_rfl) (by kernel_rfl) (fun _ _ _ h => h) (Or.inl ⟨by rfl, fun W hW => by go_simp⟩) hI0 ?_
      simp only [Act.put, List.getElem_toArray, List.getElem_cons_zero, List.getElem_cons_succ, List.setIfInBounds_toArray, List.set_cons_zero, List.set_cons_succ]
      refine manyG (rs := [5, 7]) (by kernel_rfl) (by simp) (AllG.cons (i := 5) rfl (fun K hK => ?_) (AllG.cons (i := 7) rfl (fun K hK => ?_) AllG.nil))
      · go_simp
        with_reducible refine (yport_any B q.st own W0 hY).mono ?_
        rintro e Wx1 ⟨wb, xb, ab, rfl, hI, ⟨hwb, hxb, hab⟩, hal⟩
        obtain ⟨own1, ho1⟩ : ∃ o, o = (fun i => own i ∨ i = wb ∨ i = xb ∨ i = ab) := ⟨_, rfl⟩
        rw [← ho1] at hI
        have hi0 := hI0.lt
        have hws := hB.size
        have hLo1 : ∀ i, own1 i → w.heap.size ≤ i ∧ ib < i := fun i h => by rw [ho1] at h; rcases h with h | h | h | h <;> first | exact hLo i h | omega
        clear hLo
        have hLo := hLo1
        clear hLo1
        have hB2 := step_below hB hal
        have hI02 := Blk.below hI0 hal hI0.lt
        refine hK.out _ _ hI02 (fun _ => ?_)
        clear hK K
        try simp only [Act.put, List.getElem_toArray, List.getElem_cons_zero, List.getElem_cons_succ, List.setIfInBounds_toArray, List.set_cons_zero, List.set_cons_succ]
        clear hal hwb hxb hab ho1 hY hB hI0 hi0 hws
        have hB := hB2
        have hI0 := hI02
        clear hB2 hI02
        refine manyG (rs := [6, 7]) (by kernel_rfl) (by simp) (AllG.cons (i := 6) rfl (fun K hK => ?_) (AllG.cons (i := 7) rfl (fun K hK => ?_) AllG.nil))
        · go_simp
          have hS' := step_at B HX.out.2.1 q HX.out.1 q.t HX.out.2.2.2.2.1.t.r q.c HX.out.2.2.2.2.1.c t2 s2 HX.out.2.2.1 HX.out.2.2.2.1 wb xb ab own1 Wx1 hI (HX.out.2.2.2.2.2.step hB) ((HH.out.2.2.2.2.1.step hB).c)
          with_reducible refine hS'.mono ?_
          rintro e Wx2 ⟨rfl, own2, hI2, ho2, hk2⟩
          have hni : ¬ own1 ib := fun h => by have := hLo ib h; omega
          have hI02 := hk2.blk hI0 hni
          have hB2 : Below w.heap.size w Wx2 := hk2.belowOf hB (fun i h => (hLo i h).1)
          refine hK.out _ _ hI02 (fun _ => ?_)
          clear hK K
          try simp only [Act.put, List.getElem_toArray, List.getElem_cons_zero, List.getElem_cons_succ, List.setIfInBounds_toArray, List.set_cons_zero, List.set_cons_succ]
          clear hS' hI hB hI0 ho2 hk2 hni
          have hI := hI2
          have hB := hB2
          have hI0 := hI02
          clear hI2 hB2 hI02
          refine onlyG (i := 7) (by kernel_rfl) rfl (fun K hK => ?_)
          go_simp
          obtain ⟨ub, hub⟩ : ∃ g, Wx2.heap.size = g := ⟨_, rfl⟩
          have hal := (Below.refl Wx2.heap.size Wx2).alloc (Nat.le_refl _) (.cells th0 25)
          have hU := Blk.new Wx2 25 th0
          rw [hub] at hU
          have hnU : ¬ own2 ub := fun h => by have := hI.lt _ h; omega
          have hUb : w.heap.size ≤ ub ∧ ib < ub := by have := hB.size; have := hI0.lt; omega
          have hB2 := step_below hB hal
          have hI02 := Blk.below hI0 hal hI0.lt
          have hI2 := YInv.keep _ _ _ _ _ hI ((Stay.refl _ _).below hI.lt hal)
          unfold th0 at hU hB2 hI02 hI2
          refine hK.out _ _ hI02 (fun _ => ?_)
          clear hK K
          try simp only [Act.put, List.getElem_toArray, List.getElem_cons_zero, List.getElem_cons_succ, List.setIfInBounds_toArray, List.set_cons_zero, List.set_cons_succ]
          try rw [hub]
          clear hal hub hB hI0
          have hB := hB2
          have hI0 := hI02
          clear hB2 hI02
          clear hI
          have hI := hI2
          clear hI2
          generalize Wx2.alloc (.cells #[.int .i64 0, .int .u32 0, .int .u32 0, .int .u32 0, .int .u32 0, .int .u32 0, .int .u32 0, .int .u32 0, .int .u32 0, .int .i64 0] 25) = Wx3 at *
          refine lastG (by kernel_rfl) rfl (by kernel_rfl) (fun K hK => ?_)
          skip
          refine step_store_row rfl 25 (.tmp 4) (.tmp 23) rfl _ rfl (thArr t2) rfl 25 _ hU rfl th_info (th_one t2) ?_
          intro W9 hb9 hg9
          refine hK.out _ _ ?_
          clear hK K
          go_wp2_with fail
          go_meet
          case rel => exact ⟨ub, wb, xb, ab, own2, rfl, hb9, YInv.keep _ _ _ _ _ hI ⟨fun i hi => hg9.block i (hI.lt i hi) (fun e => hnU (by rw [← Option.some.inj e]; exact hi)), hg9.size⟩, hI0.grown hg9 (fun e => by have := Option.some.inj e; omega), below_row hB hg9 hB.size (by omega)⟩
        · go_simp
          obtain ⟨ub, hub⟩ : ∃ g, Wx1.heap.size = g := ⟨_, rfl⟩
          have hal := (Below.refl Wx1.heap.size Wx1).alloc (Nat.le_refl _) (.cells th0 25)
          have hU := Blk.new Wx1 25 th0
          rw [hub] at hU
          have hnU : ¬ own1 ub := fun h => by have := hI.lt _ h; omega
          have hUb : w.heap.size ≤ ub ∧ ib < ub := by have := hB.size; have := hI0.lt; omega
          have hB2 := step_below hB hal
          have hI02 := Blk.below hI0 hal hI0.lt
          have hI2 := YInv.keep _ _ _ _ _ hI ((Stay.refl _ _).below hI.lt hal)
          unfold th0 at hU hB2 hI02 hI2
          refine hK.out _ _ hI02 (fun _ => ?_)
          clear hK K
          try simp only [Act.put, List.getElem_toArray, List.getElem_cons_zero, List.getElem_cons_succ, List.setIfInBounds_toArray, List.set_cons_zero, List.set_cons_succ]
          try rw [hub]
          clear hal hub hB hI0
          have hB := hB2
          have hI0 := hI02
          clear hB2 hI02
          clear hI
          have hI := hI2
          clear hI2
          generalize Wx1.alloc (.cells #[.int .i64 0, .int .u32 0, .int .u32 0, .int .u32 0, .int .u32 0, .int .u32 0, .int .u32 0, .int .u32 0, .int .u32 0, .int .i64 0] 25) = Wx4 at *
          refine onlyG (i := 6) (by kernel_rfl) rfl (fun K hK => ?_)
          go_simp
          have hS' := step_at B HX.out.2.1 q HX.out.1 q.t HX.out.2.2.2.2.1.t.r q.c HX.out.2.2.2.2.1.c t2 s2 HX.out.2.2.1 HX.out.2.2.2.1 wb xb ab own1 Wx4 hI (HX.out.2.2.2.2.2.step hB) ((HH.out.2.2.2.2.1.step hB).c)
          with_reducible refine hS'.mono ?_
          rintro e Wx5 ⟨rfl, own2, hI2, ho2, hk2⟩
          have hni : ¬ own1 ib := fun h => by have := hLo ib h; omega
          have hI02 := hk2.blk hI0 hni
          have hB2 : Below w.heap.size w Wx5 := hk2.belowOf hB (fun i h => (hLo i h).1)
          have hU2 := hk2.blk hU hnU
          have hnU2 : ¬ own2 ub := fun h => (ho2 ub h).elim hnU (fun q => by have := hU.lt; omega)
          refine hK.out _ _ hI02 (fun _ => ?_)
          clear hK K
          try simp only [Act.put, List.getElem_toArray, List.getElem_cons_zero, List.getElem_cons_succ, List.setIfInBounds_toArray, List.set_cons_zero, List.set_cons_succ]
          clear hS' hI hB hI0 ho2 hk2 hni
          have hI := hI2
          have hB := hB2
          have hI0 := hI02
          clear hI2 hB2 hI02
          clear hU hnU
          have hU := hU2
          have hnU := hnU2
          clear hU2 hnU2
          refine lastG (by kernel_rfl) rfl (by kernel_rfl) (fun K hK => ?_)
          skip
          refine step_store_row rfl 25 (.tmp 4) (.tmp 23) rfl _ rfl (thArr t2) rfl 25 _ hU rfl th_info (th_one t2) ?_
          intro W9 hb9 hg9
          refine hK.out _ _ ?_
          clear hK K
          go_wp2_with fail
          go_meet
          case rel => exact ⟨ub, wb, xb, ab, own2, rfl, hb9, YInv.keep _ _ _ _ _ hI ⟨fun i hi => hg9.block i (hI.lt i hi) (fun e => hnU (by rw [← Option.some.inj e]; exact hi)), hg9.size⟩, hI0.grown hg9 (fun e => by have := Option.some.inj e; omega), below_row hB hg9 hB.size (by omega)⟩
      · go_simp
        obtain ⟨ub, hub⟩ : ∃ g, W0.heap.size = g := ⟨_, rfl⟩
        have hal := (Below.refl W0.heap.size W0).alloc (Nat.le_refl _) (.cells th0 25)
        have hU := Blk.new W0 25 th0
        rw [hub] at hU
        have hnU : ¬ own ub := fun h => by have := hY.lt _ h; omega
        have hUb : w.heap.size ≤ ub ∧ ib < ub := by have := hB.size; have := hI0.lt; omega
        have hB2 := step_below hB hal
        have hI02 := Blk.below hI0 hal hI0.lt
        have hY2 := hY.keep ((Stay.refl _ _).below hY.lt hal)
        unfold th0 at hU hB2 hI02 hY2
        refine hK.out _ _ hI02 (fun _ => ?_)
        clear hK K
        try simp only [Act.put, List.getElem_toArray, List.getElem_cons_zero, List.getElem_cons_succ, List.setIfInBounds_toArray, List.set_cons_zero, List.set_cons_succ]
        try rw [hub]
        clear hal hub hB hI0
        have hB := hB2
        have hI0 := hI02
        clear hB2 hI02
        clear hY
        have hY := hY2
        clear hY2
        generalize W0.alloc (.cells #[.int .i64 0, .int .u32 0, .int .u32 0, .int .u32 0, .int .u32 0, .int .u32 0, .int .u32 0, .int .u32 0, .int .u32 0, .int .i64 0] 25) = Wx6 at *
        refine onlyG (i := 5) (by kernel_rfl) rfl (fun K hK => ?_)
        go_simp
        with_reducible refine (yport_any B q.st own Wx6 hY).mono ?_
        rintro e Wx7 ⟨wb, xb, ab, rfl, hI, ⟨hwb, hxb, hab⟩, hal⟩
        obtain ⟨own1, ho1⟩ : ∃ o, o = (fun i => own i ∨ i = wb ∨ i = xb ∨ i = ab) := ⟨_, rfl⟩
        rw [← ho1] at hI
        have hi0 := hI0.lt
        have hws := hB.size
        have hLo1 : ∀ i, own1 i → w.heap.size ≤ i ∧ ib < i := fun i h => by rw [ho1] at h; rcases h with h | h | h | h <;> first | exact hLo i h | omega
        clear hLo
        have hLo := hLo1
        clear hLo1
        have hnU1 : ¬ own1 ub := fun h => by rw [ho1] at h; have := hU.lt; rcases h with h | h | h | h <;> first | exact hnU h | omega
        have hB2 := step_below hB hal
        have hI02 := Blk.below hI0 hal hI0.lt
        have hU2 := Blk.below hU hal hU.lt
        refine hK.out _ _ hI02 (fun _ => ?_)
        clear hK K
        try simp only [Act.put, List.getElem_toArray, List.getElem_cons_zero, List.getElem_cons_succ, List.setIfInBounds_toArray, List.set_cons_zero, List.set_cons_succ]
        clear hal hwb hxb hab ho1 hY hB hI0 hi0 hws
        have hB := hB2
        have hI0 := hI02
        clear hB2 hI02
        clear hU hnU
        have hU := hU2
        have hnU := hnU1
        clear hU2 hnU1
        refine onlyG (i := 6) (by kernel_rfl) rfl (fun K hK => ?_)
        go_simp
        have hS' := step_at B HX.out.2.1 q HX.out.1 q.t HX.out.2.2.2.2.1.t.r q.c HX.out.2.2.2.2.1.c t2 s2 HX.out.2.2.1 HX.out.2.2.2.1 wb xb ab own1 Wx7 hI (HX.out.2.2.2.2.2.step hB) ((HH.out.2.2.2.2.1.step hB).c)
        with_reducible refine hS'.mono ?_
        rintro e Wx8 ⟨rfl, own2, hI2, ho2, hk2⟩
        have hni : ¬ own1 ib := fun h => by have := hLo ib h; omega
        have hI02 := hk2.blk hI0 hni
        have hB2 : Below w.heap.size w Wx8 := hk2.belowOf hB (fun i h => (hLo i h).1)
        have hU2 := hk2.blk hU hnU
        have hnU2 : ¬ own2 ub := fun h => (ho2 ub h).elim hnU (fun q => by have := hU.lt; omega)
        refine hK.out _ _ hI02 (fun _ => ?_)
        clear hK K
        try simp only [Act.put, List.getElem_toArray, List.getElem_cons_zero, List.getElem_cons_succ, List.setIfInBounds_toArray, List.set_cons_zero, List.set_cons_succ]
        clear hS' hI hB hI0 ho2 hk2 hni
        have hI := hI2
        have hB := hB2
        have hI0 := hI02
        clear hI2 hB2 hI02
        clear hU hnU
        have hU := hU2
        have hnU := hnU2
        clear hU2 hnU2
        refine lastG (by kernel_rfl) rfl (by kernel_rfl) (fun K hK => ?_)
        skip
        refine step_store_row rfl 25 (.tmp 4) (.tmp 23) rfl _ rfl (thArr t2) rfl 25 _ hU rfl th_info (th_one t2) ?_
        intro W9 hb9 hg9
        refine hK.out _ _ ?_
        clear hK K
        go_wp2_with fail
        go_meet
        case rel => exact ⟨ub, wb, xb, ab, own2, rfl, hb9, YInv.keep _ _ _ _ _ hI ⟨fun i hi => hg9.block i (hI.lt i hi) (fun e => hnU (by rw [← Option.some.inj e]; exact hi)), hg9.size⟩, hI0.grown hg9 (fun e => by have := Option.some.inj e; omega), below_row hB hg9 hB.size (by omega)⟩
    case rest =>
      obtain ⟨ub, wb, xb, ab, own2, rfl, hU, hI2, hI7, hB7⟩ := hcut
      obtain ⟨bv', sv', ev', cur, g1, g2, g3, g4, g5, g6, b1, b2, b3, b4, b5, c0, hl, hn, hb, hm, hsl, hev⟩ := hI2
      obtain ⟨eA, ecap, rfl, _, _⟩ := own_cap hev
      have y8 : wc.cell? ⟨B.yb, 8, none⟩ = some (.string s2.asks) := (b1.cell 8).trans rfl
      have y6 : wc.cell? ⟨B.yb, 6, none⟩ = some (.slice eA s2.evs.length ecap) := (b1.cell 6).trans rfl
      clear g1 g2 g3 g4 g5 g6 b1 b2 b3 b4 b5 c0 hl hn hb hm hsl hev
      have u0 : wc.cell? ⟨ub, 0, none⟩ = some (.int .i64 t2.pc) := (hU.cell 0).trans rfl
      have i0 : wc.cell? ⟨ib, 0, none⟩ = some (.int .i64 q.t.pc) := (hI7.cell 0).trans rfl
      have u1 : wc.cell? ⟨ub, 1, none⟩ = some (.int .u32 (t2.regs 0)) := (hU.cell 1).trans rfl
      have i1 : wc.cell? ⟨ib, 1, none⟩ = some (.int .u32 (q.t.regs 0)) := (hI7.cell 1).trans rfl
      have u2 : wc.cell? ⟨ub, 2, none⟩ = some (.int .u32 (t2.regs 1)) := (hU.cell 2).trans rfl
      have i2 : wc.cell? ⟨ib, 2, none⟩ = some (.int .u32 (q.t.regs 1)) := (hI7.cell 2).trans rfl
      have u3 : wc.cell? ⟨ub, 3, none⟩ = some (.int .u32 (t2.regs 2)) := (hU.cell 3).trans rfl
      have i3 : wc.cell? ⟨ib, 3, none⟩ = some (.int .u32 (q.t.regs 2)) := (hI7.cell 3).trans rfl
      have u4 : wc.cell? ⟨ub, 4, none⟩ = some (.int .u32 (t2.regs 3)) := (hU.cell 4).trans rfl
      have i4 : wc.cell? ⟨ib, 4, none⟩ = some (.int .u32 (q.t.regs 3)) := (hI7.cell 4).trans rfl
      have u5 : wc.cell? ⟨ub, 5, none⟩ = some (.int .u32 (t2.regs 4)) := (hU.cell 5).trans rfl
      have i5 : wc.cell? ⟨ib, 5, none⟩ = some (.int .u32 (q.t.regs 4)) := (hI7.cell 5).trans rfl
      have u6 : wc.cell? ⟨ub, 6, none⟩ = some (.int .u32 (t2.regs 5)) := (hU.cell 6).trans rfl
      have i6 : wc.cell? ⟨ib, 6, none⟩ = some (.int .u32 (q.t.regs 5)) := (hI7.cell 6).trans rfl
      have u7 : wc.cell? ⟨ub, 7, none⟩ = some (.int .u32 (t2.regs 6)) := (hU.cell 7).trans rfl
      have i7 : wc.cell? ⟨ib, 7, none⟩ = some (.int .u32 (q.t.regs 6)) := (hI7.cell 7).trans rfl
      have u8 : wc.cell? ⟨ub, 8, none⟩ = some (.int .u32 (t2.regs 7)) := (hU.cell 8).trans rfl
      have i8 : wc.cell? ⟨ib, 8, none⟩ = some (.int .u32 (q.t.regs 7)) := (hI7.cell 8).trans rfl
      have u9 : wc.cell? ⟨ub, 9, none⟩ = some (.int .i64 t2.st) := (hU.cell 9).trans rfl
      have i9 : wc.cell? ⟨ib, 9, none⟩ = some (.int .i64 q.t.st) := (hI7.cell 9).trans rfl
      have i10 : wc.cell? ⟨ib, 10, none⟩ = some (.slice q.c.A q.c.len q.c.cap) := (hI7.cell 10).trans rfl
      have HU := Lib.hid (show ∀ a, a < 8 → wc.cell? ⟨ub, 1 + a, none⟩ = some (.int .u32 (t2.regs a)) ∧ wc.cell? ⟨ib, 1 + a, none⟩ = some (.int .u32 (q.t.regs a)) from fun a ha => by
        rcases (by omega : a = 0 ∨ a = 1 ∨ a = 2 ∨ a = 3 ∨ a = 4 ∨ a = 5 ∨ a = 6 ∨ a = 7) with rfl | rfl | rfl | rfl | rfl | rfl | rfl | rfl
        · exact ⟨u1, i1⟩
        · exact ⟨u2, i2⟩
        · exact ⟨u3, i3⟩
        · exact ⟨u4, i4⟩
        · exact ⟨u5, i5⟩
        · exact ⟨u6, i6⟩
        · exact ⟨u7, i7⟩
        · exact ⟨u8, i8⟩)
      have HC := Lib.hid ((HH.out.2.2.2.2.1.step hB7).c)
      have HB := Lib.hid hB7
      have hcl := HH.out.2.2.2.2.2.c.hl
      have hlen : q.c.len ≤ 300 := by
        have hs := HX.out.2.2.2.1
        unfold longB at hs
        simp only [Bool.or_eq_false_iff, decide_eq_false_iff_not] at hs
        omega
      clear hU hI7 hB7 HX HL hcl
      rcases HA.out with ⟨hst, ht, has, hev0⟩ | ⟨hst, ht, has⟩ | ⟨hst, has, hpc⟩ | ⟨hst, has, hp0, hp1, h3⟩ | ⟨hst, hp0, hp1, h3, hop⟩
      · subst ht
        rw [has] at y8
        rw [hev0] at y6
        have hsb : (q.t.st != 0) = true := by simp [hst]
        have hq : ∀ w, (binOp .eql 25 (.agg #[.int .i64 q.t.pc, .int .u32 (q.t.regs 0), .int .u32 (q.t.regs 1), .int .u32 (q.t.regs 2), .int .u32 (q.t.regs 3), .int .u32 (q.t.regs 4), .int .u32 (q.t.regs 5), .int .u32 (q.t.regs 6), .int .u32 (q.t.regs 7), .int .i64 q.t.st]) (.agg #[.int .i64 q.t.pc, .int .u32 (q.t.regs 0), .int .u32 (q.t.regs 1), .int .u32 (q.t.regs 2), .int .u32 (q.t.regs 3), .int .u32 (q.t.regs 4), .int .u32 (q.t.regs 5), .int .u32 (q.t.regs 6), .int .u32 (q.t.regs 7), .int .i64 q.t.st])).run Tryd.prog w = .ok (.bool true) w := fun w => th_eql q.t w
        clear HA hst has hev0 hlen HC HU
        go_wp2
        go_ret
        exact ⟨rfl, HB.out⟩
      · subst ht
        rw [has] at y8
        rw [hst] at i9 u9
        have hq : ∀ w, (binOp .eql 25 (.agg #[.int .i64 q.t.pc, .int .u32 (q.t.regs 0), .int .u32 (q.t.regs 1), .int .u32 (q.t.regs 2), .int .u32 (q.t.regs 3), .int .u32 (q.t.regs 4), .int .u32 (q.t.regs 5), .int .u32 (q.t.regs 6), .int .u32 (q.t.regs 7), .int .i64 0]) (.agg #[.int .i64 q.t.pc, .int .u32 (q.t.regs 0), .int .u32 (q.t.regs 1), .int .u32 (q.t.regs 2), .int .u32 (q.t.regs 3), .int .u32 (q.t.regs 4), .int .u32 (q.t.regs 5), .int .u32 (q.t.regs 6), .int .u32 (q.t.regs 7), .int .i64 0])).run Tryd.prog w = .ok (.bool true) w := fun w => th_eql ⟨q.t.pc, q.t.regs, 0⟩ w
        clear HA hst has hlen HC HU y6
        go_wp2
        go_ret
        exact ⟨rfl, HB.out⟩
      · rw [has] at y8
        rw [hst] at i9
        clear HA hst has HC HU y6 u1 i1 u2 i2 u3 i3 u4 i4 u5 i5 u6 i6 u7 i7 u8 i8
        rcases hpc with hpc | hpc
        · have hn0 : ¬ 0 ≤ q.t.pc := by omega
          clear hpc
          go_wp2
          go_ret
          exact ⟨rfl, HB.out⟩
        · have hn0 : 0 ≤ q.t.pc := by omega
          have hn1 : ¬ q.t.pc < (q.c.len : Int) := by omega
          clear hpc
          go_wp2
          go_ret
          exact ⟨rfl, HB.out⟩
      · rw [has] at y8
        rw [hst] at i9
        rw [h3] at u9
        clear HA hst has HC HU y6 h3 u1 i1 u2 i2 u3 i3 u4 i4 u5 i5 u6 i6 u7 i7 u8 i8
        go_wp2
        go_ret
        exact ⟨rfl, HB.out⟩
      · rw [hst] at i9
        obtain ⟨p, hp⟩ : ∃ p : Nat, q.t.pc = (p : Int) := ⟨q.t.pc.toNat, by omega⟩
        rw [hp] at hp0 hp1 i0 hop
        rw [Int.toNat_natCast] at hop
        have hpl : p < q.c.len := by omega
        obtain ⟨b, off, hbA, _, hcc⟩ := HC.out (by omega)
        have e0 : wc.cell? ⟨b, off + p * 5, none⟩ = some (.int .i64 (q.c.F p).op) := hcc p hpl 0 _ rfl
        have e1 : wc.cell? ⟨b, off + p * 5 + 1, none⟩ = some (.int .i64 (q.c.F p).a) := hcc p hpl 1 _ rfl
        rw [hbA] at i10
        have h3' : (t2.st != 3) = true := by simp [h3]
        generalize q.c.F p = i at hop e0 e1
        clear HA hst HC y6 hp hcc hbA u1 i1 u2 i2 u3 i3 u4 i4 u5 i5 u6 i6 u7 i7 u8 i8
        obtain ⟨op, ia, ibb, ic, ik⟩ := i
        unfold AskOp at hop
        dsimp only at hop e0 e1
        rcases hop with ⟨rfl, has⟩ | ⟨rfl, has⟩ | ⟨rfl, has⟩ | ⟨rfl, has⟩ | ⟨rfl, ha0, ha8, has⟩ | ⟨rfl, has⟩ | ⟨rfl, has⟩ | ⟨rfl, has⟩ | ⟨n16, n17, n19, n20, n21, n23, n24, n25, has⟩
        · rw [has] at y8
          clear has h3 HU e1
          go_wp2
          go_ret
          exact ⟨rfl, HB.out⟩
        · rw [has] at y8
          clear has h3 HU e1
          go_wp2
          go_ret
          exact ⟨rfl, HB.out⟩
        · rw [has] at y8
          clear has h3 HU e1
          go_wp2
          go_ret
          exact ⟨rfl, HB.out⟩
        · rw [has] at y8
          clear has h3 HU e1
          go_wp2
          go_ret
          exact ⟨rfl, HB.out⟩
        · obtain ⟨a, rfl⟩ : ∃ a : Nat, ia = (a : Int) := ⟨ia.toNat, by omega⟩
          rw [Int.toNat_natCast] at has
          rcases has with has | ⟨has, hne⟩
          · rw [has] at y8
            clear has h3 HU e1
            go_wp2
            go_quiet (fail)
            go_wp2
            go_ret
            exact ⟨rfl, ⟨HB.out.os, HB.out.tape, HB.out.output, HB.out.size, HB.out.block⟩⟩
          · rw [has] at y8
            obtain ⟨ua, ta⟩ := HU.out a (by omega)
            have hne' : (t2.regs a != q.t.regs a) = true := by simp [hne]
            clear has h3 HU hne
            go_wp2
            go_quiet (fail)
            go_wp2
            go_ret
            exact ⟨rfl, ⟨HB.out.os, HB.out.tape, HB.out.output, HB.out.size, HB.out.block⟩⟩
        · rcases has with ⟨has, hs2⟩ | ⟨has, hs2⟩
          · rw [has] at y8
            rw [hs2] at u9
            clear has h3 HU e1 h3' hs2
            go_wp2
            go_ret
            exact ⟨rfl, HB.out⟩
          · rw [has] at y8
            rw [hs2] at u9
            clear has h3 HU e1 h3' hs2
            go_wp2
            go_ret
            exact ⟨rfl, HB.out⟩
        · rw [has] at y8
          clear has h3 HU e1
          go_wp2
          go_ret
          exact ⟨rfl, HB.out⟩
        · rw [has] at y8
          clear has h3 HU e1
          go_wp2
          go_ret
          exact ⟨rfl, HB.out⟩
        · rw [has] at y8
          have m16 : (op == 16) = false := by simp [n16]
          have m17 : (op == 17) = false := by simp [n17]
          have m19 : (op == 19) = false := by simp [n19]
          have m20 : (op == 20) = false := by simp [n20]
          have m21 : (op == 21) = false := by simp [n21]
          have m23 : (op == 23) = false := by simp [n23]
          have m24 : (op == 24) = false := by simp [n24]
          have m25 : (op == 25) = false := by simp [n25]
          clear has h3 HU e1 n16 n17 n19 n20 n21 n23 n24 n25
          go_wp2
          go_ret
          exact ⟨rfl, HB.out⟩
end Go.Proofs.YtjmnogpnjombgaaDoor

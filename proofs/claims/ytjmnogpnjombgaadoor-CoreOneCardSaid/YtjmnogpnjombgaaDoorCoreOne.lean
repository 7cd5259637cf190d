/- law08: CoreOne. -/
import Derived.Test.YtjmnogpnjombgaaDoorLawC
namespace Go.Proofs.YtjmnogpnjombgaaDoor
open Go.ChangeShapes Go.WideShapes Go.ChangeAt Go.RowKit Go.Deep
set_option linter.unusedVariables false
set_option maxRecDepth 100000
set_option linter.unusedSimpArgs false

set_option maxHeartbeats 4000000 in
theorem coreOne_true (q : InD) (ho : q.Ok) (w : World) (hT : Tab w) (ha : q.At w) :
    Calls Tryd.prog 4 #[.agg q.arr] w fun e w' => e = .returned (.bool true) ∧ Below w.heap.size w w' := by
  have hI := Blk.new w 31 q.arr
  have hB := (Below.refl w.heap.size w).alloc (Nat.le_refl _) (.cells q.arr 31)
  obtain ⟨ib, hib⟩ : ∃ ib, w.heap.size = ib := ⟨_, rfl⟩
  rw [hib] at hI
  have cL := fun W => long_any q.t q.c q.bA q.bn q.bcap q.mA q.m q.mcap q.z q.aA q.an q.acap W
  have HH := Lib.hid (And.intro hI (And.intro hB (And.intro hib (And.intro hT (And.intro ha ho)))))
  have cA := awake_any _ (hT.step hB)
  obtain ⟨lb, hlb⟩ : ∃ lb, longB q.c.len q.bn q.m q.an = lb := ⟨_, rfl⟩
  have HL := Lib.hid hlb
  rw [hlb] at cL
  have cL' : ∀ W, Calls Tryd.prog 15 #[.agg q.arr] W fun e w' => e = .returned (.bool lb) ∧ Below W.heap.size W w' := cL
  clear cL hI hB hT ha ho hlb
  go_enter Tryd.func4, Tryd.ntmps4
  go_wp2_with fail
  try rw [hib]
  clear hib
  with_reducible refine cA.mono ?_
  rintro e W2 ⟨rfl, hB2⟩
  have hI2 := HH.out.1.below hB2 HH.out.1.lt
  have hBw2 := step_below HH.out.2.1 hB2
  clear cA hB2
  go_wp2_with (refine wpList_load_rowG (by rfl) 31 (.tmp 1) rfl _ rfl 31 q.arr (0, 0) _ hI2 Tryd.underlying31 rfl in_info ?_)
  have cL := cL' W2
  clear cL'
  with_reducible refine cL.mono ?_
  rintro e W3 ⟨rfl, hB3⟩
  have hI3 := hI2.below hB3 hI2.lt
  have hBw3 := step_below hBw2 hB3
  clear cL hB3 hI2 hBw2
  cases lb
  case true =>
    have cA := awake_any _ (HH.out.2.2.2.1.step hBw3)
    have HB3 := Lib.hid hBw3
    clear hI3 hBw3
    go_wp2_with fail
    with_reducible refine cA.mono ?_
    rintro e W4 ⟨rfl, hB4⟩
    have HB4 := Lib.hid (step_below HB3.out hB4)
    clear cA hB4
    go_wp2
    go_ret
    exact ⟨rfl, HB4.out⟩
  case false =>
    have ha3 := HH.out.2.2.2.2.1.step hBw3
    have ho := HH.out.2.2.2.2.2
    have hT := HH.out.2.2.2.1
    have cW := world_q q ho W3 ha3 HL.out
    have hbs : w.heap.size ≤ W3.heap.size := hBw3.size
    have HB3 := Lib.hid (And.intro hBw3 (And.intro ha3 (And.intro ho (And.intro hT (And.intro hbs hI3.lt)))))
    clear hBw3 ha3 ho hT hbs
    go_wp2_with (refine wpList_load_row rfl 31 (.tmp 1) rfl _ rfl 31 q.arr (0, 0) _ hI3 Tryd.underlying31 rfl in_info ?_)
    with_reducible refine cW.mono ?_
    rintro e W4 ⟨v, rfl, hv⟩
    have HV0 := hv
    obtain ⟨fg, m, bl, fc, room, mv, cv, tv, bv, sv, bvs, rfl, e1, e2, ⟨tA, tl, tcap, rfl, e3, e4⟩, ⟨o1, o2, o3⟩, e5, e6, e7, e8, e9, hB4⟩ := hv
    have hI4 := hI3.below hB4 hI3.lt
    have HV := Lib.hid HV0
    clear HV0 e1 e2 e3 e4 e5 e6 e7 e8 e9
    have hal := (Below.refl W4.heap.size W4).alloc (Nat.le_refl _) (.cells #[cv, .slice tA tl tcap, .slice (some ⟨fg, 0, none⟩) bl fc, mv, .int .i64 (room : Int), sv, .slice none 0 0, .bool false, .string ⟨#[]⟩] 43)
    have hI5 := hI4.below hal hI4.lt
    have hyb := Blk.new W4 43 #[cv, .slice tA tl tcap, .slice (some ⟨fg, 0, none⟩) bl fc, mv, .int .i64 (room : Int), sv, .slice none 0 0, .bool false, .string ⟨#[]⟩]
    obtain ⟨yb, hybe⟩ : ∃ yb, W4.heap.size = yb := ⟨_, rfl⟩
    rw [hybe] at hyb
    have H5 := Lib.hid (And.intro hI5 (And.intro hyb (And.intro hal (And.intro hB4 hybe))))
    clear cW hI3 hI4 hB4 hal hI5 hyb
    go_upto_region 4 with fail
    try rw [hybe]
    clear hybe
    obtain ⟨hI5, hyb, hal, hB4, hybe⟩ := H5.out
    have hs := HL.out
    obtain ⟨hBw3, ha3, ho, hT, hbs, hib3⟩ := HB3.out
    have hyw : W3.heap.size ≤ yb := by rw [← hybe]; exact hB4.size
    have hm3 : q.m ≤ 300 := by
      unfold longB at hs
      simp only [Bool.or_eq_false_iff, decide_eq_false_iff_not] at hs
      omega
    obtain ⟨B, own, hBy, hBn, hBr, hBok, hY, hLo⟩ := HV.out.pre (Nat.le_trans hT.1 hbs) hyw hal hyb hm3
    have hB5 := step_below (step_below hBw3 hB4) hal
    have HXS := Lib.hid (show W3.heap.size ≤ (W4.alloc (.cells #[cv, .slice tA tl tcap, .slice (some ⟨fg, 0, none⟩) bl fc, mv, .int .i64 (room : Int), sv, .slice none 0 0, .bool false, .string ⟨#[]⟩] 43)).drew.heap.size from Nat.le_trans hB4.size hal.size)
    clear hyb hal hB4 hybe H5 hyw o1 o2 o3 HV hbs
    subst hBy
    have hI0 := hI5.drew
    have hY0 := hY.keep (Stay.refl own _).drew
    have hB0 := hB5.drew
    refine startG (fun W' => Blk W' ib 31 q.arr) 6 (by kernel_rfl) ?_
    have HX := Lib.hid (And.intro hBn (And.intro hBr (And.intro hBok (And.intro hs (And.intro hib3 (And.intro hBw3 (And.intro ho hT)))))))
    clear hI5 hY hB5 hBn hBr hBok hs hib3 hBw3 ha3 ho hT hm3
    generalize (W4.alloc (.cells #[cv, .slice tA tl tcap, .slice (some ⟨fg, 0, none⟩) bl fc, mv, .int .i64 (room : Int), sv, .slice none 0 0, .bool false, .string ⟨#[]⟩] 43)).drew = W0 at hI0 hY0 hB0 HXS ⊢
    refine takeG0 (i := 0) (v := .pointer (some ⟨ib, 0, none⟩)) rfl (by kernel_rfl) (by kernel_rfl) (by kernel_rfl) (by kernel_rfl) (fun _ _ _ h => h) (Or.inl ⟨by rfl, fun W hW => by go_simp⟩) hI0 ?_
    simp only [Act.put, List.getElem_toArray, List.getElem_cons_zero, List.getElem_cons_succ, List.setIfInBounds_toArray, List.set_cons_zero, List.set_cons_succ]
    refine takeG (i := 1) (v := .agg q.t.cells.toArray) rfl (by kernel_rfl) (by kernel_rfl) (by kernel_rfl) (by kernel_rfl) (fun _ _ _ h => h) (yieldsIf_load_mid (by rfl) 25 (.tmp 17) rfl ib 0 rfl q.t.cells _ (fun W hW => InD.range hW) Tryd.underlying25 rfl th_infoL) hI0 ?_
    simp only [Act.put, List.getElem_toArray, List.getElem_cons_zero, List.getElem_cons_succ, List.setIfInBounds_toArray, List.set_cons_zero, List.set_cons_succ]
    refine takeG0 (i := 2) (v := .pointer (some ⟨ib, 10, none⟩)) rfl (by kernel_rfl) (by kernel_rfl) (by kernel_rfl) (by kernel_rfl) (fun _ _ _ h => h) (Or.inl ⟨by rfl, fun W hW => by go_simp⟩) hI0 ?_
    simp only [Act.put, List.getElem_toArray, List.getElem_cons_zero, List.getElem_cons_succ, List.setIfInBounds_toArray, List.set_cons_zero, List.set_cons_succ]
    refine takeG (i := 3) (v := .slice q.c.A q.c.len q.c.cap) rfl (by kernel_rfl) (by kernel_rfl) (by kernel_rfl) (by kernel_rfl) (fun _ _ _ h => h) (Or.inl ⟨by rfl, fun W hW => by have q0 := (hW.cell 10).trans (show q.arr[10]? = some (.slice q.c.A q.c.len q.c.cap) from rfl); go_simp⟩) hI0 ?_
    simp only [Act.put, List.getElem_toArray, List.getElem_cons_zero, List.getElem_cons_succ, List.setIfInBounds_toArray, List.set_cons_zero, List.set_cons_succ]
    refine takeG0 (i := 4) (v := .pointer (some ⟨B.yb, 0, none⟩)) rfl (by kernel_rfl) (by kernel_rfl) (by kernel_rfl) (by kernel_rfl) (fun _ _ _ h => h) (Or.inl ⟨by rfl, fun W hW => by go_simp⟩) hI0 ?_
    simp only [Act.put, List.getElem_toArray, List.getElem_cons_zero, List.getElem_cons_succ, List.setIfInBounds_toArray, List.set_cons_zero, List.set_cons_succ]
    refine onlyG (i := 5) (by kernel_rfl) rfl (fun K hK => ?_)
    go_simp
    with_reducible refine (yport_any B q.st own W0 hY0).mono ?_
    rintro e W6 ⟨wb, xb, ab, rfl, hI1, ⟨hwb, hxb, hab⟩, hal⟩
    have hz0 := hB0.size
    have hi0 := hI0.lt
    have hlo0 : W3.heap.size ≤ W0.heap.size := HXS.out
    have hLo1 : ∀ i, (own i ∨ i = wb ∨ i = xb ∨ i = ab) → W3.heap.size ≤ i := fun i h => by rcases h with h | rfl | rfl | rfl <;> first | exact hLo i h | omega
    have hI6 := hI0.below hal hi0
    have hB6 := step_below hB0 hal
    refine hK.out _ _ hI6 (fun _ => ?_)
    clear hK K hY0 hwb hxb hab hal hI0 hB0 hz0 hi0 hlo0 HXS hLo
    try simp only [Act.put, List.getElem_toArray, List.getElem_cons_zero, List.getElem_cons_succ, List.setIfInBounds_toArray, List.set_cons_zero, List.set_cons_succ]
    refine lastG (by kernel_rfl) rfl (by kernel_rfl) (fun K hK => ?_)
    go_simp
    have hS := step_q (B.at wb xb ab) ⟨HX.out.2.2.1.base, HX.out.2.2.1.n, HX.out.2.2.1.room, HX.out.2.2.1.tv⟩ q HX.out.1 q.t HX.out.2.2.2.2.2.2.1.t.r q.c HX.out.2.2.2.2.2.2.1.c _ W6 hI1 (HX.out.2.2.2.2.2.2.2.step hB6) ((HH.out.2.2.2.2.1.step hB6).c) HX.out.2.2.2.1
    have hS' : Calls Tryd.prog 17 #[.agg q.t.cells.toArray, .slice q.c.A q.c.len q.c.cap, (yPv (B.at wb xb ab)).val B.n] W6 _ := hS
    with_reducible refine hS'.mono ?_
    rintro e W7 ⟨rfl, own2, hI2, ho2, hk2⟩
    have hni : ¬ (own ib ∨ ib = wb ∨ ib = xb ∨ ib = ab) := fun h => by have := hLo1 ib h; have := HX.out.2.2.2.2.1; omega
    have hI7 := hk2.blk hI6 hni
    have hB7 : Below w.heap.size w W7 := hk2.belowOf hB6 (fun i h => Nat.le_trans HX.out.2.2.2.2.2.1.size (hLo1 i h))
    have H7 := Lib.hid (And.intro hI7 (And.intro hB7 hI2))
    refine hK.out _ _ ?_
    clear hK K hS hS' hI2 ho2 hk2 hni hI7 hB7 hI6 hB6 hI1 hLo1
    have hm3 : q.m ≤ 300 := by
      have hs := HL.out
      unfold longB at hs
      simp only [Bool.or_eq_false_iff, decide_eq_false_iff_not] at hs
      omega
    obtain ⟨s2, hs2⟩ : ∃ s2, (stepR (yOps (B.at wb xb ab)) q.st q.t q.c).2 = s2 := ⟨_, rfl⟩
    have hone : OneSet q.st.mem s2.mem := by rw [← hs2]; exact oneSet_step _ _ _ _
    obtain ⟨hI7, hB7, hI2⟩ := H7.out
    rw [hs2] at hI2
    obtain ⟨bv', sv', ev', cur, h1, ho', h3, h4, h5, h6, b1, b2, b3, b4, b5, c0, hl, hn, hb, hm, hsl, he⟩ := hI2
    have hnq : (B.at wb xb ab).n = q.m := HX.out.1
    have y3 : W7.cell? ⟨B.yb, 3, none⟩ = some (B.at wb xb ab).mv := (b1.cell 3).trans rfl
    have hms2 : s2.mem.length = q.m := by rw [hn]; exact hnq
    obtain ⟨mA2, mcap2, emv, _, hmc⟩ := own_sl hm
    rw [emv, hms2] at y3
    rw [hms2, Nat.mul_one] at hmc
    have i12 : W7.cell? ⟨ib, 12, none⟩ = some (.slice q.mA q.m q.mcap) := (hI7.cell 12).trans rfl
    have HM := Lib.hid (And.intro hmc ((HH.out.2.2.2.2.1.step hB7).m))
    have HD := Lib.hid (diff_one q.st.mem s2.mem q.Z hone (fun j hj => by
      have hjm : j < q.m := by simpa [InD.st] using hj
      simp [InD.st, List.getD_eq_getElem?_getD, hjm]) q.m (by simp [InD.st]))
    have HB7 := Lib.hid hB7
    have HS2 := Lib.hid hms2
    clear hone hI7 hB7 hs2 h1 ho' h3 h4 h5 h6 b1 b2 b3 b4 b5 c0 hl hn hb hm hsl he hnq hmc emv HL HX H7 hms2
    go_wp2
    go_loopw [4, 5] (fun nv iv wr => ∃ (k d : Nat), k ≤ q.m ∧ d ≤ k ∧ iv = .int .i64 k ∧ nv = .int .i64 d ∧ Hid (diff s2.mem q.Z k = d) ∧ ∃ qq, wr = W7.drewN qq) (fun _ iv _ => q.m - (intOf iv).toNat)
    case atStart => exact ⟨0, 0, Nat.zero_le _, Nat.le_refl _, rfl, rfl, Lib.hid rfl, 0, rfl⟩
    case round =>
      obtain ⟨k, d, hk, hdk, rfl, rfl, HDK, qq, rfl⟩ := hrel
      by_cases hkm : k < q.m
      · have hk0 : (0 : Int) ≤ (k : Int) := by omega
        have hk1 : (k : Int) < (q.m : Int) := by omega
        obtain ⟨g1, f1, ea1, _, hc1⟩ := HM.out.1 (by omega)
        obtain ⟨g2, f2, ea2, _, hc2⟩ := HM.out.2 (by omega)
        have z1 : W7.cell? ⟨g1, f1 + k, none⟩ = some (.int .u32 (s2.mem.getD k 0)) := by
          have := hc1 k hkm
          have hl : k < s2.mem.length := by have := HS2.out; omega
          simp only [List.getD_eq_getElem?_getD, List.getElem?_map, List.getElem?_eq_getElem hl] at this ⊢
          exact this
        have z2 : W7.cell? ⟨g2, f2 + k, none⟩ = some (.int .u32 (q.Z k)) := hc2 k hkm
        rw [ea1] at y3
        rw [ea2] at i12
        have hsucc := diff_succ s2.mem q.Z k
        have HSU := Lib.hid hsucc
        obtain ⟨a1, ha1⟩ : ∃ a, s2.mem.getD k 0 = a := ⟨_, rfl⟩
        obtain ⟨a2, ha2⟩ : ∃ a, q.Z k = a := ⟨_, rfl⟩
        rw [ha1] at z1 HSU
        rw [ha2] at z2 HSU
        rw [HDK.out] at HSU
        clear hsucc ha1 ha2 hc1 hc2 ea1 ea2 HD
        by_cases hz : a1 = a2
        · have hz' : (a1 != a2) = false := by simp [hz]
          have HZ := Lib.hid (HSU.out.trans (by rw [if_neg (not_not_intro hz)]))
          clear hz HSU
          go_wp2
          go_quiet (fail)
          go_wp2
          go_roundw
          case rel => exact ⟨k + 1, d, by omega, by omega, by go_num, rfl, Lib.hid HZ.out, _, rfl⟩
          case measure => simp [intOf]; omega
        · have hz' : (a1 != a2) = true := by simp [hz]
          have HZ := Lib.hid (HSU.out.trans (by rw [if_pos hz]))
          clear hz HSU
          go_wp2
          go_quiet (fail)
          go_wp2
          go_roundw
          case rel => exact ⟨k + 1, d + 1, by omega, by omega, by go_num, by go_num, Lib.hid HZ.out, _, rfl⟩
          case measure => simp [intOf]; omega
      · obtain rfl : k = q.m := by omega
        have hk1 : ¬ (q.m : Int) < (q.m : Int) := by omega
        have hd1 : (d : Int) ≤ 1 := by have h1 := HDK.out; have h2 := HD.out; omega
        have HF := Lib.hid (HB7.out)
        clear y3
        go_wp2
        go_ret
        exact ⟨by simp [hd1], ⟨HF.out.os, HF.out.tape, HF.out.output, HF.out.size, HF.out.block⟩⟩
end Go.Proofs.YtjmnogpnjombgaaDoor

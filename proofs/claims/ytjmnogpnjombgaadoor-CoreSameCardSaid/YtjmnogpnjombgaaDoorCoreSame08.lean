/- law08: CoreSame. -/
import Derived.Test.YtjmnogpnjombgaaDoorLawC
import Derived.Test.YtjmnogpnjombgaaDoorTwoY
import Derived.Test.YtjmnogpnjombgaaDoorCodeRow
import Derived.Test.YtjmnogpnjombgaaDoorSameEq
import Derived.Deep.DeepCutAuto
namespace Go.Proofs.YtjmnogpnjombgaaDoor
open Go.ChangeShapes Go.WideShapes Go.ChangeAt Go.RowKit Go.Deep
set_option linter.unusedVariables false
set_option maxRecDepth 100000
set_option linter.unusedSimpArgs false

theorem upto_succ {p : Nat → Prop} {k : Nat} (h : ∀ j, j < k → p j) (hk : p k) : ∀ j, j < k + 1 → p j := fun j hj => by
  by_cases hjk : j < k
  · exact h j hjk
  · obtain rfl : j = k := by omega
    exact hk
set_option maxHeartbeats 4000000 in
theorem coreSame_true (q : InD) (ho : q.Ok) (n : Nat) (hn : n ≤ 255) (mo : Cd) (hmo : mo.Ok) (w : World) (hT : Tab w) (ha : q.At w) (hma : mo.At w) :
    Calls Tryd.prog 5 #[.agg q.arr, .int .u8 (n : Int), .slice mo.A mo.len mo.cap] w fun e w' => e = .returned (.bool true) ∧ Below w.heap.size w w' := by
  have hI := Blk.new w 31 q.arr
  have hB := (Below.refl w.heap.size w).alloc (Nat.le_refl _) (.cells q.arr 31)
  obtain ⟨ib, hib⟩ : ∃ ib, w.heap.size = ib := ⟨_, rfl⟩
  rw [hib] at hI
  have cL := fun W => long_any q.t q.c q.bA q.bn q.bcap q.mA q.m q.mcap q.z q.aA q.an q.acap W
  have HH := Lib.hid (And.intro hI (And.intro hB (And.intro hib (And.intro hT (And.intro ha (And.intro ho (And.intro hma hmo)))))))
  have cA := awake_any _ (hT.step hB)
  obtain ⟨lb, hlb⟩ : ∃ lb, longB q.c.len q.bn q.m q.an = lb := ⟨_, rfl⟩
  have HL := Lib.hid hlb
  rw [hlb] at cL
  have cL' : ∀ W, Calls Tryd.prog 15 #[.agg q.arr] W fun e w' => e = .returned (.bool lb) ∧ Below W.heap.size W w' := cL
  clear cL hI hB hT ha ho hlb hma hmo
  go_enter Tryd.func5, Tryd.ntmps5
  go_wp2_with fail
  try rw [hib]
  clear hib
  with_reducible refine cA.mono ?_
  rintro e W2 ⟨rfl, hB2⟩
  have hI2 := HH.out.1.below hB2 HH.out.1.lt
  have hBw2 := step_below HH.out.2.1 hB2
  clear cA hB2
  go_wp2_with (refine wpList_load_rowG (by rfl) 31 (.tmp 3) rfl _ rfl 31 q.arr (0, 0) _ hI2 Tryd.underlying31 rfl in_info ?_)
  have cL := cL' W2
  clear cL'
  with_reducible refine cL.mono ?_
  rintro e W3 ⟨rfl, hB3⟩
  have hI3 := hI2.below hB3 hI2.lt
  have hBw3 := step_below hBw2 hB3
  have cA2 := awake_any _ (HH.out.2.2.2.1.step hBw3)
  have HB3 := Lib.hid hBw3
  have i0 : W3.cell? ⟨ib, 0, none⟩ = some (.int .i64 q.t.pc) := (hI3.cell 0).trans rfl
  have i10 : W3.cell? ⟨ib, 10, none⟩ = some (.slice q.c.A q.c.len q.c.cap) := (hI3.cell 10).trans rfl
  have HI3 := Lib.hid hI3
  clear cL hB3 hI2 hBw2 hI3 hBw3
  cases lb
  case true =>
    clear i0 i10
    go_wp2_with fail
    with_reducible refine cA2.mono ?_
    rintro e W4 ⟨rfl, hB4⟩
    have HB4 := Lib.hid (step_below HB3.out hB4)
    clear cA2 hB4
    go_wp2
    go_ret
    exact ⟨rfl, HB4.out⟩
  case false =>
    by_cases h2 : (300 : Int) < (mo.len : Int)
    · clear i0 i10
      go_wp2_with fail
      with_reducible refine cA2.mono ?_
      rintro e W4 ⟨rfl, hB4⟩
      have HB4 := Lib.hid (step_below HB3.out hB4)
      clear cA2 hB4
      go_wp2
      go_ret
      exact ⟨rfl, HB4.out⟩
    by_cases h3 : q.t.pc < 0
    · go_wp2_with fail
      with_reducible refine cA2.mono ?_
      rintro e W4 ⟨rfl, hB4⟩
      have HB4 := Lib.hid (step_below HB3.out hB4)
      clear cA2 hB4
      go_wp2
      go_ret
      exact ⟨rfl, HB4.out⟩
    by_cases h4 : (q.c.len : Int) ≤ q.t.pc
    · go_wp2_with fail
      with_reducible refine cA2.mono ?_
      rintro e W4 ⟨rfl, hB4⟩
      have HB4 := Lib.hid (step_below HB3.out hB4)
      clear cA2 hB4
      go_wp2
      go_ret
      exact ⟨rfl, HB4.out⟩
    have h3' : 0 ≤ q.t.pc := by omega
    have h4' : q.t.pc < (q.c.len : Int) := by omega
    have hlen : q.c.len ≤ 300 := by
      have hs := HL.out
      unfold longB at hs
      simp only [Bool.or_eq_false_iff, decide_eq_false_iff_not] at hs
      omega
    have HC3 := Lib.hid ((HH.out.2.2.2.2.1.step HB3.out).c)
    clear cA2
    go_wp2
    go_loopw [7] (fun i wr => ∃ k : Nat, k ≤ q.c.len ∧ i = .int .i64 k ∧ Hid (∀ j, j < k → ¬ (13 ≤ (q.c.F j).op ∧ (q.c.F j).op ≤ 15)) ∧ ∃ qq, wr = W3.drewN qq) (fun i _ => q.c.len - (intOf i).toNat)
    case atStart => exact ⟨0, Nat.zero_le _, rfl, Lib.hid (fun j hj => absurd hj (Nat.not_lt_zero j)), 0, rfl⟩
    case round =>
      obtain ⟨k, hk, rfl, HK, qq, rfl⟩ := hrel
      by_cases hkl : k < q.c.len
      · have hk0 : (0 : Int) ≤ (k : Int) := by omega
        have hk1 : (k : Int) < (q.c.len : Int) := by omega
        obtain ⟨b, off, hcA, _, hcc⟩ := HC3.out (by omega)
        have e0 : W3.cell? ⟨b, off + k * 5, none⟩ = some (.int .i64 (q.c.F k).op) := hcc k hkl 0 _ rfl
        rw [hcA] at i10
        have HKK := Lib.hid (fun (h : ¬ (13 ≤ (q.c.F k).op ∧ (q.c.F k).op ≤ 15)) => upto_succ (p := fun j => ¬ (13 ≤ (q.c.F j).op ∧ (q.c.F j).op ≤ 15)) HK.out h)
        generalize (q.c.F k).op = op at e0 HKK
        clear hcc hcA
        by_cases o1 : 13 ≤ op
        · by_cases o2 : op ≤ 15
          · go_wp2
            go_ret
            exact ⟨rfl, ⟨HB3.out.os, HB3.out.tape, HB3.out.output, HB3.out.size, HB3.out.block⟩⟩
          · have HN := Lib.hid (HKK.out (fun h => o2 h.2))
            clear HKK
            go_wp2
            go_roundw
            case rel => exact ⟨k + 1, by omega, by go_num, HN, _, rfl⟩
            case measure => simp [intOf]; omega
        · have HN := Lib.hid (HKK.out (fun h => o1 h.1))
          clear HKK
          go_wp2
          go_roundw
          case rel => exact ⟨k + 1, by omega, by go_num, HN, _, rfl⟩
          case measure => simp [intOf]; omega
      · obtain rfl : k = q.c.len := by omega
        have hk1 : ¬ (q.c.len : Int) < (q.c.len : Int) := by omega
        go_upto_region 8 with fail
        have HK2 := HK
        clear i0 i10 HK
        go_cut [8, 9] (fun s t wx => ∃ (B1 B2 : YB) (own1 own2 : Nat → Prop) (lo : Nat), s = .pointer (some ⟨B1.yb, 0, none⟩) ∧ t = .pointer (some ⟨B2.yb, 0, none⟩) ∧ TwoY q lo wx B1 B2 own1 own2 ∧ ib < lo ∧ w.heap.size ≤ lo ∧ Blk wx ib 31 q.arr ∧ Below w.heap.size w wx)
        case first =>
          have hI : Blk (W3.drewN qq).drew ib 31 q.arr := HI3.out
          have hB : Below w.heap.size w (W3.drewN qq).drew := ⟨HB3.out.os, HB3.out.tape, HB3.out.output, HB3.out.size, HB3.out.block⟩
          refine startG (fun W' => Blk W' ib 31 q.arr) 9 (by kernel_rfl) ?_
          generalize (W3.drewN qq).drew = W0 at hI hB ⊢
          have h2W : 2 ≤ W0.heap.size := Nat.le_trans HH.out.2.2.2.1.1 hB.size
          have hibW : ib < W0.heap.size := hI.lt
          have hwW : w.heap.size ≤ W0.heap.size := hB.size
          refine takeG (i := 0) (v := .agg q.arr) rfl (by kernel_rfl) (by kernel_rfl) (by kernel_rfl) (by kernel_rfl) (fun _ _ _ h => h) (yields_row (by rfl) 31 (.tmp 3) rfl ib rfl q.arr (fun _ hS => run_row _ _ _ _ _ _ hS Tryd.underlying31 rfl in_info)) hI ?_
          simp only [Act.put, List.getElem_toArray, List.getElem_cons_zero, List.getElem_cons_succ, List.setIfInBounds_toArray, List.set_cons_zero, List.set_cons_succ]
          refine takeG (i := 4) (v := .agg q.arr) rfl (by kernel_rfl) (by kernel_rfl) (by kernel_rfl) (by kernel_rfl) (fun _ _ _ h => h) (yields_row (by rfl) 31 (.tmp 3) rfl ib rfl q.arr (fun _ hS => run_row _ _ _ _ _ _ hS Tryd.underlying31 rfl in_info)) hI ?_
          simp only [Act.put, List.getElem_toArray, List.getElem_cons_zero, List.getElem_cons_succ, List.setIfInBounds_toArray, List.set_cons_zero, List.set_cons_succ]
          refine onlyG (i := 1) (by kernel_rfl) rfl (fun K hK => ?_)
          go_simp
          have haW := HH.out.2.2.2.2.1.step hB
          with_reducible refine (world_q q HH.out.2.2.2.2.2.1 W0 haW HL.out).mono ?_
          rintro e Wx1 ⟨v, rfl, hv⟩
          have hv0 := hv
          obtain ⟨fg1, m1, bl1, fc1, room1, mv1, cv1, tv1, bv1, sv1, bvs1, rfl, e1, e2, ⟨tA1, tl1, tcap1, rfl, e3, e4⟩, ⟨o11, o21, o31⟩, e5, e6, e7, e8, e9, hal⟩ := hv
          have HV1 := Lib.hid hv0
          clear hv0 e1 e2 e3 e4 e5 e6 e7 e8 e9 haW
          have hI' := hI.below hal hI.lt
          have hB' := step_below hB hal
          refine hK.out _ _ hI' (fun _ => ?_)
          clear hK K
          try simp only [Act.put, List.getElem_toArray, List.getElem_cons_zero, List.getElem_cons_succ, List.setIfInBounds_toArray, List.set_cons_zero, List.set_cons_succ]
          clear hI hB
          have hI := hI'
          have hB := hB'
          clear hI' hB'
          have hal1 := Below.refl Wx1.heap.size Wx1
          clear hal
          refine takeG0 (i := 2) (v := .agg #[cv1, .slice tA1 tl1 tcap1, .slice (some ⟨fg1, 0, none⟩) bl1 fc1, mv1, .int .i64 (room1 : Int), sv1, .slice none 0 0, .bool false, .string ⟨#[]⟩]) rfl (by kernel_rfl) (by kernel_rfl) (by kernel_rfl) (by kernel_rfl) (fun _ _ _ h => h) (Or.inl ⟨by rfl, fun W hW => by go_simp⟩) hI ?_
          simp only [Act.put, List.getElem_toArray, List.getElem_cons_zero, List.getElem_cons_succ, List.setIfInBounds_toArray, List.set_cons_zero, List.set_cons_succ]
          refine manyG (rs := [3, 5]) (by kernel_rfl) (by simp) (AllG.cons (i := 3) rfl (fun K hK => ?_) (AllG.cons (i := 5) rfl (fun K hK => ?_) AllG.nil))
          · go_simp
            obtain ⟨yb1, hy1⟩ : ∃ g, Wx1.heap.size = g := ⟨_, rfl⟩
            have hal := (Below.refl Wx1.heap.size Wx1).alloc (Nat.le_refl _) (.cells #[cv1, .slice tA1 tl1 tcap1, .slice (some ⟨fg1, 0, none⟩) bl1 fc1, mv1, .int .i64 (room1 : Int), sv1, .slice none 0 0, .bool false, .string ⟨#[]⟩] 43)
            have hb1 := Blk.new Wx1 43 #[cv1, .slice tA1 tl1 tcap1, .slice (some ⟨fg1, 0, none⟩) bl1 fc1, mv1, .int .i64 (room1 : Int), sv1, .slice none 0 0, .bool false, .string ⟨#[]⟩]
            rw [hy1] at hb1
            have l1 : Wx1.heap.size ≤ yb1 := by rw [← hy1]; exact hal1.size
            have hI' := hI.below hal hI.lt
            have hB' := step_below hB hal
            have hal1' := step_below hal1 hal
            refine hK.out _ _ hI' (fun _ => ?_)
            clear hK K
            try simp only [Act.put, List.getElem_toArray, List.getElem_cons_zero, List.getElem_cons_succ, List.setIfInBounds_toArray, List.set_cons_zero, List.set_cons_succ]
            try rw [hy1]
            clear hal hy1
            clear hI hB
            have hI := hI'
            have hB := hB'
            clear hI' hB'
            clear hal1
            have hal1 := hal1'
            clear hal1'
            generalize Wx1.alloc (.cells #[cv1, .slice tA1 tl1 tcap1, .slice (some ⟨fg1, 0, none⟩) bl1 fc1, mv1, .int .i64 (room1 : Int), sv1, .slice none 0 0, .bool false, .string ⟨#[]⟩] 43) = Wx2 at *
            refine onlyG (i := 5) (by kernel_rfl) rfl (fun K hK => ?_)
            go_simp
            have haW := HH.out.2.2.2.2.1.step hB
            with_reducible refine (world_q q HH.out.2.2.2.2.2.1 Wx2 haW HL.out).mono ?_
            rintro e Wx3 ⟨v, rfl, hv⟩
            have hv0 := hv
            obtain ⟨fg2, m2, bl2, fc2, room2, mv2, cv2, tv2, bv2, sv2, bvs2, rfl, e1, e2, ⟨tA2, tl2, tcap2, rfl, e3, e4⟩, ⟨o12, o22, o32⟩, e5, e6, e7, e8, e9, hal⟩ := hv
            have HV2 := Lib.hid hv0
            clear hv0 e1 e2 e3 e4 e5 e6 e7 e8 e9 haW
            have hbc := hal1.size
            have l3 := Or.inl (b := Wx3.heap.size ≤ yb1) hb1.lt
            have hI' := hI.below hal hI.lt
            have hB' := step_below hB hal
            have hal1' := step_below hal1 hal
            have hb1' := hb1.below hal hb1.lt
            refine hK.out _ _ hI' (fun _ => ?_)
            clear hK K
            try simp only [Act.put, List.getElem_toArray, List.getElem_cons_zero, List.getElem_cons_succ, List.setIfInBounds_toArray, List.set_cons_zero, List.set_cons_succ]
            clear hI hB
            have hI := hI'
            have hB := hB'
            clear hI' hB'
            clear hal1
            have hal1 := hal1'
            clear hal1'
            clear hb1
            have hb1 := hb1'
            clear hb1'
            have hal2 := Below.refl Wx3.heap.size Wx3
            clear hal
            refine takeG0 (i := 6) (v := .agg #[cv2, .slice tA2 tl2 tcap2, .slice (some ⟨fg2, 0, none⟩) bl2 fc2, mv2, .int .i64 (room2 : Int), sv2, .slice none 0 0, .bool false, .string ⟨#[]⟩]) rfl (by kernel_rfl) (by kernel_rfl) (by kernel_rfl) (by kernel_rfl) (fun _ _ _ h => h) (Or.inl ⟨by rfl, fun W hW => by go_simp⟩) hI ?_
            simp only [Act.put, List.getElem_toArray, List.getElem_cons_zero, List.getElem_cons_succ, List.setIfInBounds_toArray, List.set_cons_zero, List.set_cons_succ]
            refine takeG0 (i := 8) (v := .pointer (some ⟨yb1, 0, none⟩)) rfl (by kernel_rfl) (by kernel_rfl) (by kernel_rfl) (by kernel_rfl) (fun _ _ _ h => h) (Or.inl ⟨by rfl, fun W hW => by go_simp⟩) hI ?_
            simp only [Act.put, List.getElem_toArray, List.getElem_cons_zero, List.getElem_cons_succ, List.setIfInBounds_toArray, List.set_cons_zero, List.set_cons_succ]
            refine onlyG (i := 7) (by kernel_rfl) rfl (fun K hK => ?_)
            go_simp
            obtain ⟨yb2, hy2⟩ : ∃ g, Wx3.heap.size = g := ⟨_, rfl⟩
            have hal := (Below.refl Wx3.heap.size Wx3).alloc (Nat.le_refl _) (.cells #[cv2, .slice tA2 tl2 tcap2, .slice (some ⟨fg2, 0, none⟩) bl2 fc2, mv2, .int .i64 (room2 : Int), sv2, .slice none 0 0, .bool false, .string ⟨#[]⟩] 43)
            have hb2 := Blk.new Wx3 43 #[cv2, .slice tA2 tl2 tcap2, .slice (some ⟨fg2, 0, none⟩) bl2 fc2, mv2, .int .i64 (room2 : Int), sv2, .slice none 0 0, .bool false, .string ⟨#[]⟩]
            rw [hy2] at hb2
            have l2 : Wx3.heap.size ≤ yb2 := by rw [← hy2]; exact hal2.size
            have hne : yb1 ≠ yb2 := fun e => by have := hb1.lt; omega
            have hI' := hI.below hal hI.lt
            have hB' := step_below hB hal
            have hal1' := step_below hal1 hal
            have hb1' := hb1.below hal hb1.lt
            have hal2' := step_below hal2 hal
            refine hK.out _ _ hI' (fun _ => ?_)
            clear hK K
            try simp only [Act.put, List.getElem_toArray, List.getElem_cons_zero, List.getElem_cons_succ, List.setIfInBounds_toArray, List.set_cons_zero, List.set_cons_succ]
            try rw [hy2]
            clear hal hy2
            clear hI hB
            have hI := hI'
            have hB := hB'
            clear hI' hB'
            clear hal1
            have hal1 := hal1'
            clear hal1'
            clear hb1
            have hb1 := hb1'
            clear hb1'
            clear hal2
            have hal2 := hal2'
            clear hal2'
            generalize Wx3.alloc (.cells #[cv2, .slice tA2 tl2 tcap2, .slice (some ⟨fg2, 0, none⟩) bl2 fc2, mv2, .int .i64 (room2 : Int), sv2, .slice none 0 0, .bool false, .string ⟨#[]⟩] 43) = Wx4 at *
            refine lastG (by kernel_rfl) rfl (by kernel_rfl) (fun K hK => ?_)
            go_simp
            refine hK.out _ _ ?_
            clear hK K
            go_wp2_with fail
            go_meet
            case rel =>
              have hm3 : q.m ≤ 300 := by
                have hs := HL.out
                unfold longB at hs
                simp only [Bool.or_eq_false_iff, decide_eq_false_iff_not] at hs
                omega
              obtain ⟨B1, B2, own1, own2, rfl, rfl, hTwo⟩ := two_of hm3 h2W HV1.out HV2.out hbc hal1 hal2 hb1 hb2 l1 l2 l3 hne
              exact ⟨B1, B2, own1, own2, _, rfl, rfl, hTwo, hibW, hwW, hI, hB⟩
          · go_simp
            have haW := HH.out.2.2.2.2.1.step hB
            with_reducible refine (world_q q HH.out.2.2.2.2.2.1 Wx1 haW HL.out).mono ?_
            rintro e Wx5 ⟨v, rfl, hv⟩
            have hv0 := hv
            obtain ⟨fg2, m2, bl2, fc2, room2, mv2, cv2, tv2, bv2, sv2, bvs2, rfl, e1, e2, ⟨tA2, tl2, tcap2, rfl, e3, e4⟩, ⟨o12, o22, o32⟩, e5, e6, e7, e8, e9, hal⟩ := hv
            have HV2 := Lib.hid hv0
            clear hv0 e1 e2 e3 e4 e5 e6 e7 e8 e9 haW
            have hbc := hal1.size
            have hI' := hI.below hal hI.lt
            have hB' := step_below hB hal
            have hal1' := step_below hal1 hal
            refine hK.out _ _ hI' (fun _ => ?_)
            clear hK K
            try simp only [Act.put, List.getElem_toArray, List.getElem_cons_zero, List.getElem_cons_succ, List.setIfInBounds_toArray, List.set_cons_zero, List.set_cons_succ]
            clear hI hB
            have hI := hI'
            have hB := hB'
            clear hI' hB'
            clear hal1
            have hal1 := hal1'
            clear hal1'
            have hal2 := Below.refl Wx5.heap.size Wx5
            clear hal
            refine takeG0 (i := 6) (v := .agg #[cv2, .slice tA2 tl2 tcap2, .slice (some ⟨fg2, 0, none⟩) bl2 fc2, mv2, .int .i64 (room2 : Int), sv2, .slice none 0 0, .bool false, .string ⟨#[]⟩]) rfl (by kernel_rfl) (by kernel_rfl) (by kernel_rfl) (by kernel_rfl) (fun _ _ _ h => h) (Or.inl ⟨by rfl, fun W hW => by go_simp⟩) hI ?_
            simp only [Act.put, List.getElem_toArray, List.getElem_cons_zero, List.getElem_cons_succ, List.setIfInBounds_toArray, List.set_cons_zero, List.set_cons_succ]
            refine manyG (rs := [3, 7]) (by kernel_rfl) (by simp) (AllG.cons (i := 3) rfl (fun K hK => ?_) (AllG.cons (i := 7) rfl (fun K hK => ?_) AllG.nil))
            · go_simp
              obtain ⟨yb1, hy1⟩ : ∃ g, Wx5.heap.size = g := ⟨_, rfl⟩
              have hal := (Below.refl Wx5.heap.size Wx5).alloc (Nat.le_refl _) (.cells #[cv1, .slice tA1 tl1 tcap1, .slice (some ⟨fg1, 0, none⟩) bl1 fc1, mv1, .int .i64 (room1 : Int), sv1, .slice none 0 0, .bool false, .string ⟨#[]⟩] 43)
              have hb1 := Blk.new Wx5 43 #[cv1, .slice tA1 tl1 tcap1, .slice (some ⟨fg1, 0, none⟩) bl1 fc1, mv1, .int .i64 (room1 : Int), sv1, .slice none 0 0, .bool false, .string ⟨#[]⟩]
              rw [hy1] at hb1
              have l1 : Wx1.heap.size ≤ yb1 := by rw [← hy1]; exact hal1.size
              have l3 : yb1 < Wx1.heap.size ∨ Wx5.heap.size ≤ yb1 := .inr (by rw [← hy1]; exact hal2.size)
              have hI' := hI.below hal hI.lt
              have hB' := step_below hB hal
              have hal1' := step_below hal1 hal
              have hal2' := step_below hal2 hal
              refine hK.out _ _ hI' (fun _ => ?_)
              clear hK K
              try simp only [Act.put, List.getElem_toArray, List.getElem_cons_zero, List.getElem_cons_succ, List.setIfInBounds_toArray, List.set_cons_zero, List.set_cons_succ]
              try rw [hy1]
              clear hal hy1
              clear hI hB
              have hI := hI'
              have hB := hB'
              clear hI' hB'
              clear hal1
              have hal1 := hal1'
              clear hal1'
              clear hal2
              have hal2 := hal2'
              clear hal2'
              generalize Wx5.alloc (.cells #[cv1, .slice tA1 tl1 tcap1, .slice (some ⟨fg1, 0, none⟩) bl1 fc1, mv1, .int .i64 (room1 : Int), sv1, .slice none 0 0, .bool false, .string ⟨#[]⟩] 43) = Wx6 at *
              refine takeG0 (i := 8) (v := .pointer (some ⟨yb1, 0, none⟩)) rfl (by kernel_rfl) (by kernel_rfl) (by kernel_rfl) (by kernel_rfl) (fun _ _ _ h => h) (Or.inl ⟨by rfl, fun W hW => by go_simp⟩) hI ?_
              simp only [Act.put, List.getElem_toArray, List.getElem_cons_zero, List.getElem_cons_succ, List.setIfInBounds_toArray, List.set_cons_zero, List.set_cons_succ]
              refine onlyG (i := 7) (by kernel_rfl) rfl (fun K hK => ?_)
              go_simp
              obtain ⟨yb2, hy2⟩ : ∃ g, Wx6.heap.size = g := ⟨_, rfl⟩
              have hal := (Below.refl Wx6.heap.size Wx6).alloc (Nat.le_refl _) (.cells #[cv2, .slice tA2 tl2 tcap2, .slice (some ⟨fg2, 0, none⟩) bl2 fc2, mv2, .int .i64 (room2 : Int), sv2, .slice none 0 0, .bool false, .string ⟨#[]⟩] 43)
              have hb2 := Blk.new Wx6 43 #[cv2, .slice tA2 tl2 tcap2, .slice (some ⟨fg2, 0, none⟩) bl2 fc2, mv2, .int .i64 (room2 : Int), sv2, .slice none 0 0, .bool false, .string ⟨#[]⟩]
              rw [hy2] at hb2
              have l2 : Wx5.heap.size ≤ yb2 := by rw [← hy2]; exact hal2.size
              have hne : yb1 ≠ yb2 := fun e => by have := hb1.lt; omega
              have hI' := hI.below hal hI.lt
              have hB' := step_below hB hal
              have hal1' := step_below hal1 hal
              have hb1' := hb1.below hal hb1.lt
              have hal2' := step_below hal2 hal
              refine hK.out _ _ hI' (fun _ => ?_)
              clear hK K
              try simp only [Act.put, List.getElem_toArray, List.getElem_cons_zero, List.getElem_cons_succ, List.setIfInBounds_toArray, List.set_cons_zero, List.set_cons_succ]
              try rw [hy2]
              clear hal hy2
              clear hI hB
              have hI := hI'
              have hB := hB'
              clear hI' hB'
              clear hal1
              have hal1 := hal1'
              clear hal1'
              clear hb1
              have hb1 := hb1'
              clear hb1'
              clear hal2
              have hal2 := hal2'
              clear hal2'
              generalize Wx6.alloc (.cells #[cv2, .slice tA2 tl2 tcap2, .slice (some ⟨fg2, 0, none⟩) bl2 fc2, mv2, .int .i64 (room2 : Int), sv2, .slice none 0 0, .bool false, .string ⟨#[]⟩] 43) = Wx7 at *
              refine lastG (by kernel_rfl) rfl (by kernel_rfl) (fun K hK => ?_)
              go_simp
              refine hK.out _ _ ?_
              clear hK K
              go_wp2_with fail
              go_meet
              case rel =>
                have hm3 : q.m ≤ 300 := by
                  have hs := HL.out
                  unfold longB at hs
                  simp only [Bool.or_eq_false_iff, decide_eq_false_iff_not] at hs
                  omega
                obtain ⟨B1, B2, own1, own2, rfl, rfl, hTwo⟩ := two_of hm3 h2W HV1.out HV2.out hbc hal1 hal2 hb1 hb2 l1 l2 l3 hne
                exact ⟨B1, B2, own1, own2, _, rfl, rfl, hTwo, hibW, hwW, hI, hB⟩
            · go_simp
              obtain ⟨yb2, hy2⟩ : ∃ g, Wx5.heap.size = g := ⟨_, rfl⟩
              have hal := (Below.refl Wx5.heap.size Wx5).alloc (Nat.le_refl _) (.cells #[cv2, .slice tA2 tl2 tcap2, .slice (some ⟨fg2, 0, none⟩) bl2 fc2, mv2, .int .i64 (room2 : Int), sv2, .slice none 0 0, .bool false, .string ⟨#[]⟩] 43)
              have hb2 := Blk.new Wx5 43 #[cv2, .slice tA2 tl2 tcap2, .slice (some ⟨fg2, 0, none⟩) bl2 fc2, mv2, .int .i64 (room2 : Int), sv2, .slice none 0 0, .bool false, .string ⟨#[]⟩]
              rw [hy2] at hb2
              have l2 : Wx5.heap.size ≤ yb2 := by rw [← hy2]; exact hal2.size
              have hI' := hI.below hal hI.lt
              have hB' := step_below hB hal
              have hal1' := step_below hal1 hal
              have hal2' := step_below hal2 hal
              refine hK.out _ _ hI' (fun _ => ?_)
              clear hK K
              try simp only [Act.put, List.getElem_toArray, List.getElem_cons_zero, List.getElem_cons_succ, List.setIfInBounds_toArray, List.set_cons_zero, List.set_cons_succ]
              try rw [hy2]
              clear hal hy2
              clear hI hB
              have hI := hI'
              have hB := hB'
              clear hI' hB'
              clear hal1
              have hal1 := hal1'
              clear hal1'
              clear hal2
              have hal2 := hal2'
              clear hal2'
              generalize Wx5.alloc (.cells #[cv2, .slice tA2 tl2 tcap2, .slice (some ⟨fg2, 0, none⟩) bl2 fc2, mv2, .int .i64 (room2 : Int), sv2, .slice none 0 0, .bool false, .string ⟨#[]⟩] 43) = Wx8 at *
              refine onlyG (i := 3) (by kernel_rfl) rfl (fun K hK => ?_)
              go_simp
              obtain ⟨yb1, hy1⟩ : ∃ g, Wx8.heap.size = g := ⟨_, rfl⟩
              have hal := (Below.refl Wx8.heap.size Wx8).alloc (Nat.le_refl _) (.cells #[cv1, .slice tA1 tl1 tcap1, .slice (some ⟨fg1, 0, none⟩) bl1 fc1, mv1, .int .i64 (room1 : Int), sv1, .slice none 0 0, .bool false, .string ⟨#[]⟩] 43)
              have hb1 := Blk.new Wx8 43 #[cv1, .slice tA1 tl1 tcap1, .slice (some ⟨fg1, 0, none⟩) bl1 fc1, mv1, .int .i64 (room1 : Int), sv1, .slice none 0 0, .bool false, .string ⟨#[]⟩]
              rw [hy1] at hb1
              have l1 : Wx1.heap.size ≤ yb1 := by rw [← hy1]; exact hal1.size
              have l3 : yb1 < Wx1.heap.size ∨ Wx5.heap.size ≤ yb1 := .inr (by rw [← hy1]; exact hal2.size)
              have hne : yb1 ≠ yb2 := fun e => by have := hb2.lt; omega
              have hI' := hI.below hal hI.lt
              have hB' := step_below hB hal
              have hal1' := step_below hal1 hal
              have hal2' := step_below hal2 hal
              have hb2' := hb2.below hal hb2.lt
              refine hK.out _ _ hI' (fun _ => ?_)
              clear hK K
              try simp only [Act.put, List.getElem_toArray, List.getElem_cons_zero, List.getElem_cons_succ, List.setIfInBounds_toArray, List.set_cons_zero, List.set_cons_succ]
              try rw [hy1]
              clear hal hy1
              clear hI hB
              have hI := hI'
              have hB := hB'
              clear hI' hB'
              clear hal1
              have hal1 := hal1'
              clear hal1'
              clear hal2
              have hal2 := hal2'
              clear hal2'
              clear hb2
              have hb2 := hb2'
              clear hb2'
              generalize Wx8.alloc (.cells #[cv1, .slice tA1 tl1 tcap1, .slice (some ⟨fg1, 0, none⟩) bl1 fc1, mv1, .int .i64 (room1 : Int), sv1, .slice none 0 0, .bool false, .string ⟨#[]⟩] 43) = Wx9 at *
              refine takeG0 (i := 8) (v := .pointer (some ⟨yb1, 0, none⟩)) rfl (by kernel_rfl) (by kernel_rfl) (by kernel_rfl) (by kernel_rfl) (fun _ _ _ h => h) (Or.inl ⟨by rfl, fun W hW => by go_simp⟩) hI ?_
              simp only [Act.put, List.getElem_toArray, List.getElem_cons_zero, List.getElem_cons_succ, List.setIfInBounds_toArray, List.set_cons_zero, List.set_cons_succ]
              refine lastG (by kernel_rfl) rfl (by kernel_rfl) (fun K hK => ?_)
              go_simp
              refine hK.out _ _ ?_
              clear hK K
              go_wp2_with fail
              go_meet
              case rel =>
                have hm3 : q.m ≤ 300 := by
                  have hs := HL.out
                  unfold longB at hs
                  simp only [Bool.or_eq_false_iff, decide_eq_false_iff_not] at hs
                  omega
                obtain ⟨B1, B2, own1, own2, rfl, rfl, hTwo⟩ := two_of hm3 h2W HV1.out HV2.out hbc hal1 hal2 hb1 hb2 l1 l2 l3 hne
                exact ⟨B1, B2, own1, own2, _, rfl, rfl, hTwo, hibW, hwW, hI, hB⟩
        case rest =>
          obtain ⟨B1, B2, own, ownz, lo, rfl, rfl, hTwo, hiblo, hwlo, hI, hB⟩ := hcut
          obtain ⟨t2, s2, he⟩ : ∃ t2 s2, stepR (yOps B1) q.st q.t q.c = (t2, s2) := ⟨_, _, rfl⟩
          have HX := Lib.hid (And.intro he (And.intro hTwo (And.intro hiblo hwlo)))
          have HY := Lib.hid (And.intro hTwo.p1.drew (And.intro hTwo.p2.drew (And.intro hI.drew hB.drew)))
          clear he hTwo hiblo hwlo hI hB
          go_upto_region 9 with fail
          go_cut [10] (fun s wx => ∃ (ub wb xb ab : Nat) (own2 : Nat → Prop), s = .pointer (some ⟨ub, 0, none⟩) ∧ Blk wx ub 25 (thArr t2) ∧ YInv (B1.at wb xb ab) s2 own2 wx ∧ YPre B2 q.st ownz wx ∧ (∀ i, own2 i → ¬ ownz i) ∧ ¬ own2 ub ∧ ¬ ownz ub ∧ (∀ i, own2 i → lo ≤ i) ∧ lo ≤ ub ∧ Blk wx ib 31 q.arr ∧ Below w.heap.size w wx)
          case first =>
            obtain ⟨hY, hZ, hI0, hB⟩ := HY.out
            have hap := HX.out.2.1.apart
            have hLo := HX.out.2.1.lo1
            refine startG (fun W' => Blk W' ib 31 q.arr) 8 (by kernel_rfl) ?_
            generalize wc.drew = W0 at hY hZ hI0 hB ⊢
            have hlo0 : lo ≤ W0.heap.size := by obtain ⟨_, _, _, _, hh, ⟨o1, _⟩, _⟩ := hY; exact Nat.le_of_lt (Nat.lt_of_le_of_lt (hLo _ o1) (hh _ o1).2)
            refine takeG0 (i := 0) (v := .pointer (some ⟨ib, 0, none⟩)) rfl (by kernel_rfl) (by kernel_rfl) (by kernel_rfl) (by kernel_rfl) (fun _ _ _ h => h) (Or.inl ⟨by rfl, fun W hW => by go_simp⟩) hI0 ?_
            simp only [Act.put, List.getElem_toArray, List.getElem_cons_zero, List.getElem_cons_succ, List.setIfInBounds_toArray, List.set_cons_zero, List.set_cons_succ]
            refine takeG (i := 1) (v := .agg q.t.cells.toArray) rfl (by kernel_rfl) (by kernel_rfl) (by kernel_rfl) (by kernel_rfl) (fun _ _ _ h => h) (yieldsIf_load_mid (by rfl) 25 (.tmp 71) rfl ib 0 rfl q.t.cells _ (fun W hW => InD.range hW) Tryd.underlying25 rfl th_infoL) hI0 ?_
            simp only [Act.put, List.getElem_toArray, List.getElem_cons_zero, List.getElem_cons_succ, List.setIfInBounds_toArray, List.set_cons_zero, List.set_cons_succ]
            refine takeG0 (i := 2) (v := .pointer (some ⟨ib, 10, none⟩)) rfl (by kernel_rfl) (by kernel_rfl) (by kernel_rfl) (by kernel_rfl) (fun _ _ _ h => h) (Or.inl ⟨by rfl, fun W hW => by go_simp⟩) hI0 ?_
            simp only [Act.put, List.getElem_toArray, List.getElem_cons_zero, List.getElem_cons_succ, List.setIfInBounds_toArray, List.set_cons_zero, List.set_cons_succ]
            refine takeG (i := 3) (v := .slice q.c.A q.c.len q.c.cap) rfl (by kernel_rfl) (by kernel_rfl) (by kernel_rfl) (by kernel_rfl) (fun _ _ _ h => h) (Or.inl ⟨by rfl, fun W hW => by have q0 := (hW.cell 10).trans (show q.arr[10]? = some (.slice q.c.A q.c.len q.c.cap) from rfl); go_simp⟩) hI0 ?_
            simp only [Act.put, List.getElem_toArray, List.getElem_cons_zero, List.getElem_cons_succ, List.setIfInBounds_toArray, List.set_cons_zero, List.set_cons_succ]
            refine takeG0 (i := 4) (v := .pointer (some ⟨B1.yb, 0, none⟩)) rfl (by kernel_rfl) (by kernel_rfl) (by kernel_rfl) (by kernel_rfl) (fun _ _ _ h => h) (Or.inl ⟨by rfl, fun W hW => by go_simp⟩) hI0 ?_
            simp only [Act.put, List.getElem_toArray, List.getElem_cons_zero, List.getElem_cons_succ, List.setIfInBounds_toArray, List.set_cons_zero, List.set_cons_succ]
            refine manyG (rs := [5, 7]) (by kernel_rfl) (by simp) (AllG.cons (i := 5) rfl (fun K hK => ?_) (AllG.cons (i := 7) rfl (fun K hK => ?_) AllG.nil))
            · go_simp
              with_reducible refine (yport_any B1 q.st own W0 hY).mono ?_
              rintro e Wy1 ⟨wb, xb, ab, rfl, hI, ⟨hwb, hxb, hab⟩, hal⟩
              obtain ⟨own1, ho1⟩ : ∃ o, o = (fun i => own i ∨ i = wb ∨ i = xb ∨ i = ab) := ⟨_, rfl⟩
              rw [← ho1] at hI
              have hLo1 : ∀ i, own1 i → lo ≤ i := fun i h => by rw [ho1] at h; rcases h with h | h | h | h <;> first | exact hLo i h | omega
              have hap1 : ∀ i, own1 i → ¬ ownz i := fun i h hz => by rw [ho1] at h; have := hZ.lt i hz; rcases h with h | h | h | h <;> first | exact hap i h hz | omega
              clear hLo hap
              have hLo := hLo1
              have hap := hap1
              clear hLo1 hap1
              have hB2 := step_below hB hal
              have hI02 := Blk.below hI0 hal hI0.lt
              have hZ2 := hZ.keep ((Stay.refl _ _).below hZ.lt hal)
              have hlo02 := Nat.le_trans hlo0 hal.size
              refine hK.out _ _ hI02 (fun _ => ?_)
              clear hK K
              try simp only [Act.put, List.getElem_toArray, List.getElem_cons_zero, List.getElem_cons_succ, List.setIfInBounds_toArray, List.set_cons_zero, List.set_cons_succ]
              clear hal hwb hxb hab ho1 hY hB hI0 hZ hlo0
              have hB := hB2
              have hI0 := hI02
              have hZ := hZ2
              have hlo0 := hlo02
              clear hB2 hI02 hZ2 hlo02
              refine manyG (rs := [6, 7]) (by kernel_rfl) (by simp) (AllG.cons (i := 6) rfl (fun K hK => ?_) (AllG.cons (i := 7) rfl (fun K hK => ?_) AllG.nil))
              · go_simp
                have hS' := step_at B1 HX.out.2.1.ok1 q HX.out.2.1.n1 q.t HH.out.2.2.2.2.2.1.t.r q.c HH.out.2.2.2.2.2.1.c t2 s2 HX.out.1 HL.out wb xb ab own1 Wy1 hI (HH.out.2.2.2.1.step hB) ((HH.out.2.2.2.2.1.step hB).c)
                with_reducible refine hS'.mono ?_
                rintro e Wy2 ⟨rfl, own2, hI2, ho2, hk2⟩
                have hni : ¬ own1 ib := fun h => by have := hLo ib h; have := HX.out.2.2.1; omega
                have hI02 := hk2.blk hI0 hni
                have hB2 : Below w.heap.size w Wy2 := hk2.belowOf hB (fun i h => Nat.le_trans HX.out.2.2.2 (hLo i h))
                have hZ2 := hZ.keep ⟨fun i hi => hk2.block i (hZ.lt i hi) (fun h => hap i h hi), hk2.size⟩
                have hap2 : ∀ i, own2 i → ¬ ownz i := fun i h hz => (ho2 i h).elim (fun h => hap i h hz) (fun h => by have := hZ.lt i hz; omega)
                have hLo2 : ∀ i, own2 i → lo ≤ i := fun i h => (ho2 i h).elim (hLo i) (fun h => Nat.le_trans hlo0 h)
                have hlo02 := Nat.le_trans hlo0 hk2.size
                refine hK.out _ _ hI02 (fun _ => ?_)
                clear hK K
                try simp only [Act.put, List.getElem_toArray, List.getElem_cons_zero, List.getElem_cons_succ, List.setIfInBounds_toArray, List.set_cons_zero, List.set_cons_succ]
                clear hS' hI hB hI0 ho2 hk2 hni hZ hap hLo hlo0
                have hI := hI2
                have hB := hB2
                have hI0 := hI02
                have hZ := hZ2
                have hap := hap2
                have hLo := hLo2
                have hlo0 := hlo02
                clear hI2 hB2 hI02 hZ2 hap2 hLo2 hlo02
                refine onlyG (i := 7) (by kernel_rfl) rfl (fun K hK => ?_)
                go_simp
                obtain ⟨ub, hub⟩ : ∃ g, Wy2.heap.size = g := ⟨_, rfl⟩
                have hal := (Below.refl Wy2.heap.size Wy2).alloc (Nat.le_refl _) (.cells th0 25)
                have hU := Blk.new Wy2 25 th0
                rw [hub] at hU
                have hnU : ¬ own2 ub := fun h => by have := hI.lt _ h; omega
                have hnZ : ¬ ownz ub := fun h => by have := hZ.lt _ h; omega
                have hUb : lo ≤ ub := by rw [← hub]; exact hlo0
                have hB2 := step_below hB hal
                have hI02 := Blk.below hI0 hal hI0.lt
                have hZ2 := hZ.keep ((Stay.refl _ _).below hZ.lt hal)
                have hlo02 := Nat.le_trans hlo0 hal.size
                have hI2 := YInv.keep _ _ _ _ _ hI ((Stay.refl _ _).below hI.lt hal)
                unfold th0 at hU hB2 hI02 hZ2 hlo02 hI2
                refine hK.out _ _ hI02 (fun _ => ?_)
                clear hK K
                try simp only [Act.put, List.getElem_toArray, List.getElem_cons_zero, List.getElem_cons_succ, List.setIfInBounds_toArray, List.set_cons_zero, List.set_cons_succ]
                try rw [hub]
                clear hal hub hB hI0 hZ hlo0
                have hB := hB2
                have hI0 := hI02
                have hZ := hZ2
                have hlo0 := hlo02
                clear hB2 hI02 hZ2 hlo02
                clear hI
                have hI := hI2
                clear hI2
                generalize Wy2.alloc (.cells #[.int .i64 0, .int .u32 0, .int .u32 0, .int .u32 0, .int .u32 0, .int .u32 0, .int .u32 0, .int .u32 0, .int .u32 0, .int .i64 0] 25) = Wy3 at *
                refine lastG (by kernel_rfl) rfl (by kernel_rfl) (fun K hK => ?_)
                refine step_store_row rfl 25 (.tmp 10) (.tmp 77) rfl _ rfl (thArr t2) rfl 25 _ hU rfl th_info (th_one t2) ?_
                intro W9 hb9 hg9
                refine hK.out _ _ ?_
                clear hK K
                go_wp2_with fail
                go_meet
                case rel => exact ⟨ub, wb, xb, ab, own2, rfl, hb9, YInv.keep _ _ _ _ _ hI ⟨fun i hi => hg9.block i (hI.lt i hi) (fun e => hnU (by rw [← Option.some.inj e]; exact hi)), hg9.size⟩, hZ.keep ⟨fun i hi => hg9.block i (hZ.lt i hi) (fun e => hnZ (by rw [← Option.some.inj e]; exact hi)), hg9.size⟩, hap, hnU, hnZ, hLo, hUb, hI0.grown hg9 (fun e => by have := Option.some.inj e; have := HX.out.2.2.1; omega), below_row hB hg9 hB.size (by have := HX.out.2.2.2; omega)⟩
              · go_simp
                obtain ⟨ub, hub⟩ : ∃ g, Wy1.heap.size = g := ⟨_, rfl⟩
                have hal := (Below.refl Wy1.heap.size Wy1).alloc (Nat.le_refl _) (.cells th0 25)
                have hU := Blk.new Wy1 25 th0
                rw [hub] at hU
                have hnU : ¬ own1 ub := fun h => by have := hI.lt _ h; omega
                have hnZ : ¬ ownz ub := fun h => by have := hZ.lt _ h; omega
                have hUb : lo ≤ ub := by rw [← hub]; exact hlo0
                have hB2 := step_below hB hal
                have hI02 := Blk.below hI0 hal hI0.lt
                have hZ2 := hZ.keep ((Stay.refl _ _).below hZ.lt hal)
                have hlo02 := Nat.le_trans hlo0 hal.size
                have hI2 := YInv.keep _ _ _ _ _ hI ((Stay.refl _ _).below hI.lt hal)
                unfold th0 at hU hB2 hI02 hZ2 hlo02 hI2
                refine hK.out _ _ hI02 (fun _ => ?_)
                clear hK K
                try simp only [Act.put, List.getElem_toArray, List.getElem_cons_zero, List.getElem_cons_succ, List.setIfInBounds_toArray, List.set_cons_zero, List.set_cons_succ]
                try rw [hub]
                clear hal hub hB hI0 hZ hlo0
                have hB := hB2
                have hI0 := hI02
                have hZ := hZ2
                have hlo0 := hlo02
                clear hB2 hI02 hZ2 hlo02
                clear hI
                have hI := hI2
                clear hI2
                generalize Wy1.alloc (.cells #[.int .i64 0, .int .u32 0, .int .u32 0, .int .u32 0, .int .u32 0, .int .u32 0, .int .u32 0, .int .u32 0, .int .u32 0, .int .i64 0] 25) = Wy4 at *
                refine onlyG (i := 6) (by kernel_rfl) rfl (fun K hK => ?_)
                go_simp
                have hS' := step_at B1 HX.out.2.1.ok1 q HX.out.2.1.n1 q.t HH.out.2.2.2.2.2.1.t.r q.c HH.out.2.2.2.2.2.1.c t2 s2 HX.out.1 HL.out wb xb ab own1 Wy4 hI (HH.out.2.2.2.1.step hB) ((HH.out.2.2.2.2.1.step hB).c)
                with_reducible refine hS'.mono ?_
                rintro e Wy5 ⟨rfl, own2, hI2, ho2, hk2⟩
                have hni : ¬ own1 ib := fun h => by have := hLo ib h; have := HX.out.2.2.1; omega
                have hI02 := hk2.blk hI0 hni
                have hB2 : Below w.heap.size w Wy5 := hk2.belowOf hB (fun i h => Nat.le_trans HX.out.2.2.2 (hLo i h))
                have hZ2 := hZ.keep ⟨fun i hi => hk2.block i (hZ.lt i hi) (fun h => hap i h hi), hk2.size⟩
                have hap2 : ∀ i, own2 i → ¬ ownz i := fun i h hz => (ho2 i h).elim (fun h => hap i h hz) (fun h => by have := hZ.lt i hz; omega)
                have hLo2 : ∀ i, own2 i → lo ≤ i := fun i h => (ho2 i h).elim (hLo i) (fun h => Nat.le_trans hlo0 h)
                have hlo02 := Nat.le_trans hlo0 hk2.size
                have hU2 := hk2.blk hU hnU
                have hnU2 : ¬ own2 ub := fun h => (ho2 ub h).elim hnU (fun q => by have := hU.lt; omega)
                refine hK.out _ _ hI02 (fun _ => ?_)
                clear hK K
                try simp only [Act.put, List.getElem_toArray, List.getElem_cons_zero, List.getElem_cons_succ, List.setIfInBounds_toArray, List.set_cons_zero, List.set_cons_succ]
                clear hS' hI hB hI0 ho2 hk2 hni hZ hap hLo hlo0
                have hI := hI2
                have hB := hB2
                have hI0 := hI02
                have hZ := hZ2
                have hap := hap2
                have hLo := hLo2
                have hlo0 := hlo02
                clear hI2 hB2 hI02 hZ2 hap2 hLo2 hlo02
                clear hU hnU
                have hU := hU2
                have hnU := hnU2
                clear hU2 hnU2
                refine lastG (by kernel_rfl) rfl (by kernel_rfl) (fun K hK => ?_)
                refine step_store_row rfl 25 (.tmp 10) (.tmp 77) rfl _ rfl (thArr t2) rfl 25 _ hU rfl th_info (th_one t2) ?_
                intro W9 hb9 hg9
                refine hK.out _ _ ?_
                clear hK K
                go_wp2_with fail
                go_meet
                case rel => exact ⟨ub, wb, xb, ab, own2, rfl, hb9, YInv.keep _ _ _ _ _ hI ⟨fun i hi => hg9.block i (hI.lt i hi) (fun e => hnU (by rw [← Option.some.inj e]; exact hi)), hg9.size⟩, hZ.keep ⟨fun i hi => hg9.block i (hZ.lt i hi) (fun e => hnZ (by rw [← Option.some.inj e]; exact hi)), hg9.size⟩, hap, hnU, hnZ, hLo, hUb, hI0.grown hg9 (fun e => by have := Option.some.inj e; have := HX.out.2.2.1; omega), below_row hB hg9 hB.size (by have := HX.out.2.2.2; omega)⟩
            · go_simp
              obtain ⟨ub, hub⟩ : ∃ g, W0.heap.size = g := ⟨_, rfl⟩
              have hal := (Below.refl W0.heap.size W0).alloc (Nat.le_refl _) (.cells th0 25)
              have hU := Blk.new W0 25 th0
              rw [hub] at hU
              have hnU : ¬ own ub := fun h => by have := hY.lt _ h; omega
              have hnZ : ¬ ownz ub := fun h => by have := hZ.lt _ h; omega
              have hUb : lo ≤ ub := by rw [← hub]; exact hlo0
              have hB2 := step_below hB hal
              have hI02 := Blk.below hI0 hal hI0.lt
              have hZ2 := hZ.keep ((Stay.refl _ _).below hZ.lt hal)
              have hlo02 := Nat.le_trans hlo0 hal.size
              have hY2 := hY.keep ((Stay.refl _ _).below hY.lt hal)
              unfold th0 at hU hB2 hI02 hZ2 hlo02 hY2
              refine hK.out _ _ hI02 (fun _ => ?_)
              clear hK K
              try simp only [Act.put, List.getElem_toArray, List.getElem_cons_zero, List.getElem_cons_succ, List.setIfInBounds_toArray, List.set_cons_zero, List.set_cons_succ]
              try rw [hub]
              clear hal hub hB hI0 hZ hlo0
              have hB := hB2
              have hI0 := hI02
              have hZ := hZ2
              have hlo0 := hlo02
              clear hB2 hI02 hZ2 hlo02
              clear hY
              have hY := hY2
              clear hY2
              generalize W0.alloc (.cells #[.int .i64 0, .int .u32 0, .int .u32 0, .int .u32 0, .int .u32 0, .int .u32 0, .int .u32 0, .int .u32 0, .int .u32 0, .int .i64 0] 25) = Wy6 at *
              refine onlyG (i := 5) (by kernel_rfl) rfl (fun K hK => ?_)
              go_simp
              with_reducible refine (yport_any B1 q.st own Wy6 hY).mono ?_
              rintro e Wy7 ⟨wb, xb, ab, rfl, hI, ⟨hwb, hxb, hab⟩, hal⟩
              obtain ⟨own1, ho1⟩ : ∃ o, o = (fun i => own i ∨ i = wb ∨ i = xb ∨ i = ab) := ⟨_, rfl⟩
              rw [← ho1] at hI
              have hLo1 : ∀ i, own1 i → lo ≤ i := fun i h => by rw [ho1] at h; rcases h with h | h | h | h <;> first | exact hLo i h | omega
              have hap1 : ∀ i, own1 i → ¬ ownz i := fun i h hz => by rw [ho1] at h; have := hZ.lt i hz; rcases h with h | h | h | h <;> first | exact hap i h hz | omega
              clear hLo hap
              have hLo := hLo1
              have hap := hap1
              clear hLo1 hap1
              have hnU1 : ¬ own1 ub := fun h => by rw [ho1] at h; have := hU.lt; rcases h with h | h | h | h <;> first | exact hnU h | omega
              have hB2 := step_below hB hal
              have hI02 := Blk.below hI0 hal hI0.lt
              have hZ2 := hZ.keep ((Stay.refl _ _).below hZ.lt hal)
              have hlo02 := Nat.le_trans hlo0 hal.size
              have hU2 := Blk.below hU hal hU.lt
              refine hK.out _ _ hI02 (fun _ => ?_)
              clear hK K
              try simp only [Act.put, List.getElem_toArray, List.getElem_cons_zero, List.getElem_cons_succ, List.setIfInBounds_toArray, List.set_cons_zero, List.set_cons_succ]
              clear hal hwb hxb hab ho1 hY hB hI0 hZ hlo0
              have hB := hB2
              have hI0 := hI02
              have hZ := hZ2
              have hlo0 := hlo02
              clear hB2 hI02 hZ2 hlo02
              clear hU hnU
              have hU := hU2
              have hnU := hnU1
              clear hU2 hnU1
              refine onlyG (i := 6) (by kernel_rfl) rfl (fun K hK => ?_)
              go_simp
              have hS' := step_at B1 HX.out.2.1.ok1 q HX.out.2.1.n1 q.t HH.out.2.2.2.2.2.1.t.r q.c HH.out.2.2.2.2.2.1.c t2 s2 HX.out.1 HL.out wb xb ab own1 Wy7 hI (HH.out.2.2.2.1.step hB) ((HH.out.2.2.2.2.1.step hB).c)
              with_reducible refine hS'.mono ?_
              rintro e Wy8 ⟨rfl, own2, hI2, ho2, hk2⟩
              have hni : ¬ own1 ib := fun h => by have := hLo ib h; have := HX.out.2.2.1; omega
              have hI02 := hk2.blk hI0 hni
              have hB2 : Below w.heap.size w Wy8 := hk2.belowOf hB (fun i h => Nat.le_trans HX.out.2.2.2 (hLo i h))
              have hZ2 := hZ.keep ⟨fun i hi => hk2.block i (hZ.lt i hi) (fun h => hap i h hi), hk2.size⟩
              have hap2 : ∀ i, own2 i → ¬ ownz i := fun i h hz => (ho2 i h).elim (fun h => hap i h hz) (fun h => by have := hZ.lt i hz; omega)
              have hLo2 : ∀ i, own2 i → lo ≤ i := fun i h => (ho2 i h).elim (hLo i) (fun h => Nat.le_trans hlo0 h)
              have hlo02 := Nat.le_trans hlo0 hk2.size
              have hU2 := hk2.blk hU hnU
              have hnU2 : ¬ own2 ub := fun h => (ho2 ub h).elim hnU (fun q => by have := hU.lt; omega)
              refine hK.out _ _ hI02 (fun _ => ?_)
              clear hK K
              try simp only [Act.put, List.getElem_toArray, List.getElem_cons_zero, List.getElem_cons_succ, List.setIfInBounds_toArray, List.set_cons_zero, List.set_cons_succ]
              clear hS' hI hB hI0 ho2 hk2 hni hZ hap hLo hlo0
              have hI := hI2
              have hB := hB2
              have hI0 := hI02
              have hZ := hZ2
              have hap := hap2
              have hLo := hLo2
              have hlo0 := hlo02
              clear hI2 hB2 hI02 hZ2 hap2 hLo2 hlo02
              clear hU hnU
              have hU := hU2
              have hnU := hnU2
              clear hU2 hnU2
              refine lastG (by kernel_rfl) rfl (by kernel_rfl) (fun K hK => ?_)
              refine step_store_row rfl 25 (.tmp 10) (.tmp 77) rfl _ rfl (thArr t2) rfl 25 _ hU rfl th_info (th_one t2) ?_
              intro W9 hb9 hg9
              refine hK.out _ _ ?_
              clear hK K
              go_wp2_with fail
              go_meet
              case rel => exact ⟨ub, wb, xb, ab, own2, rfl, hb9, YInv.keep _ _ _ _ _ hI ⟨fun i hi => hg9.block i (hI.lt i hi) (fun e => hnU (by rw [← Option.some.inj e]; exact hi)), hg9.size⟩, hZ.keep ⟨fun i hi => hg9.block i (hZ.lt i hi) (fun e => hnZ (by rw [← Option.some.inj e]; exact hi)), hg9.size⟩, hap, hnU, hnZ, hLo, hUb, hI0.grown hg9 (fun e => by have := Option.some.inj e; have := HX.out.2.2.1; omega), below_row hB hg9 hB.size (by have := HX.out.2.2.2; omega)⟩
          case rest =>
            obtain ⟨ub, wb, xb, ab, own2, rfl, hU, hI2, hZ, hap, hnU, hnZ, hLo, hub, hI, hB⟩ := hcut
            have hmvlen : mo.len ≤ 300 := by omega
            have hal := (Below.refl wc.heap.size wc).alloc (Nat.le_refl _) (.cells th0 25)
            have hVb := Blk.new wc 25 th0
            obtain ⟨vb, hvb⟩ : ∃ g, wc.heap.size = g := ⟨_, rfl⟩
            rw [hvb] at hVb
            have hvbw : w.heap.size ≤ vb := by rw [← hvb]; exact hB.size
            have hrg := InD.range hI
            have HP := Lib.hid (And.intro hU (And.intro hI2 (And.intro hZ (And.intro hap (And.intro hnU (And.intro hnZ (And.intro hLo (And.intro hub (And.intro hI (And.intro hB (And.intro hal hvb)))))))))))
            have hw1 : IntKind.i64.wrap (q.t.pc + (n : Int)) = q.t.pc + (n : Int) := IntWalk.i64_in _ (by omega)
            have hw2 : IntKind.i64.wrap (n : Int) = (n : Int) := IntWalk.i64_in _ (by omega)
            clear hU hI2 hZ hap hnU hnZ hLo hub hI hB hal HY
            go_upto_region 12 with (first
              | (refine wpList_load_mid rfl 25 (.tmp 78) rfl ib 0 rfl q.t.cells _ hrg Tryd.underlying25 rfl th_infoL ?_)
              | (refine wpList_store_row rfl 25 (.tmp 11) (.tmp 79) rfl _ rfl (thArr q.t) rfl 25 th0 hVb rfl th_info (th_one _) ?_; intro W2 hb2 hg2; have v0 : W2.cell? ⟨vb, 0, none⟩ = some (.int .i64 q.t.pc) := (hb2.cell 0).trans rfl; have vf := hb2.frozen 0))
            obtain ⟨hU, hI2, hZ, hap, hnU, hnZ, hLo, hub, hI, hB, hal, hvb⟩ := HP.out
            have hr3 := below_row hal hg2 hal.size (by omega)
            have hal3 : Below wc.heap.size wc (W2.setCell ⟨vb, 0, none⟩ (.int .i64 (q.t.pc + (n : Int)))) := hr3.grown (set_only _) hr3.size (fun k e => by have := Option.some.inj e; omega)
            have hb3 : Blk (W2.setCell ⟨vb, 0, none⟩ (.int .i64 (q.t.pc + (n : Int)))) vb 25 (thArr (moveT q.t n)) := hb2.set_ 0 _
            have hvO : ¬ own2 vb := fun h => by have := hI2.lt _ h; omega
            have hvZ : ¬ ownz vb := fun h => by have := hZ.lt _ h; omega
            have huv : ub ≠ vb := by have := hU.lt; omega
            have hU3 := (hU.below hal3 hU.lt).drew
            have hI23 := YInv.keep _ _ _ _ _ hI2 ((Stay.refl _ _).below hI2.lt hal3).drew
            have hZ3 := hZ.keep ((Stay.refl _ _).below hZ.lt hal3).drew
            have hI3 := (hI.below hal3 hI.lt).drew
            have hB3w := (step_below hB hal3).drew
            have hivb : ib ≠ vb := by have := hI.lt; omega
            have HQ := Lib.hid (And.intro hb3.drew (And.intro hU3 (And.intro hI23 (And.intro hZ3 (And.intro hI3 (And.intro hB3w (And.intro hap (And.intro hnU (And.intro hnZ (And.intro hvO (And.intro hvZ (And.intro huv hivb))))))))))))
            have HS4 := Lib.hid (fun W' hW => (Cd.flat (c := q.c) ((HH.out.2.2.2.2.1.step hB3w).c)).below (Nat.le_refl _) (w1 := W') hW)
            have HF1 := Lib.hid (show ∀ k, k < q.c.len * 5 → ((q.c.list.flatMap Ins.cells).getD k undef).oneCell' = true from by have := insflat_one q.c.list; rw [q.c.list_len] at this; exact this)
            have HF2 := Lib.hid (show ∀ k, k < mo.len * 5 → ((mo.list.flatMap Ins.cells).getD k undef).oneCell' = true from by have := insflat_one mo.list; rw [mo.list_len] at this; exact this)
            have hmk := makeI n (by omega)
            obtain ⟨z0, zi, zy0, zy1, zy2⟩ := info_parts insI_info
            clear hr3 hb3 hvO hvZ huv hU3 hI23 hZ3 hI3 hB3w hivb hU hI2 hZ hap hnU hnZ hLo hub hI hB hal HP hal3 hb2 hg2 v0 vf hVb hrg
            refine startG (fun W' => Below (W2.setCell ⟨vb, 0, none⟩ (.int .i64 (q.t.pc + (n : Int)))).drew.heap.size (W2.setCell ⟨vb, 0, none⟩ (.int .i64 (q.t.pc + (n : Int)))).drew W') 6 (by kernel_rfl) ?_
            have hH := Below.refl (W2.setCell ⟨vb, 0, none⟩ (.int .i64 (q.t.pc + (n : Int)))).drew.heap.size (W2.setCell ⟨vb, 0, none⟩ (.int .i64 (q.t.pc + (n : Int)))).drew
            generalize (W2.setCell ⟨vb, 0, none⟩ (.int .i64 (q.t.pc + (n : Int)))).drew = W4 at HQ HS4 hH ⊢
            refine takeG0 (i := 0) (v := .int .u8 (n : Int)) rfl (by kernel_rfl) (by kernel_rfl) (by kernel_rfl) (by kernel_rfl) (fun _ _ _ h => h) (Or.inl ⟨by rfl, fun W hW => by go_simp⟩) hH ?_
            simp only [Act.put, List.getElem_toArray, List.getElem_cons_zero, List.getElem_cons_succ, List.setIfInBounds_toArray, List.set_cons_zero, List.set_cons_succ]
            refine takeG0 (i := 1) (v := .int .i64 (n : Int)) rfl (by kernel_rfl) (by kernel_rfl) (by kernel_rfl) (by kernel_rfl) (fun _ _ _ h => h) (Or.inl ⟨by rfl, fun W hW => by go_simp⟩) hH ?_
            simp only [Act.put, List.getElem_toArray, List.getElem_cons_zero, List.getElem_cons_succ, List.setIfInBounds_toArray, List.set_cons_zero, List.set_cons_succ]
            refine takeG0 (i := 3) (v := .pointer (some ⟨ib, 10, none⟩)) rfl (by kernel_rfl) (by kernel_rfl) (by kernel_rfl) (by kernel_rfl) (fun _ _ _ h => h) (Or.inl ⟨by rfl, fun W hW => by go_simp⟩) hH ?_
            simp only [Act.put, List.getElem_toArray, List.getElem_cons_zero, List.getElem_cons_succ, List.setIfInBounds_toArray, List.set_cons_zero, List.set_cons_succ]
            refine takeG (i := 4) (v := .slice q.c.A q.c.len q.c.cap) rfl (by kernel_rfl) (by kernel_rfl) (by kernel_rfl) (by kernel_rfl) (fun _ _ _ h => h) (Or.inl ⟨by rfl, fun W hW => by have q0 := ((HQ.out.2.2.2.2.1.below hW HQ.out.2.2.2.2.1.lt).cell 10).trans (show q.arr[10]? = some (.slice q.c.A q.c.len q.c.cap) from rfl); go_simp⟩) hH ?_
            simp only [Act.put, List.getElem_toArray, List.getElem_cons_zero, List.getElem_cons_succ, List.setIfInBounds_toArray, List.set_cons_zero, List.set_cons_succ]
            refine onlyG (i := 2) (by kernel_rfl) rfl (fun K hK => ?_)
            go_simp
            have own0 := own_makeI n (by omega) W4
            have hA := hH.alloc hH.size (.cells (insZ n) 54)
            refine hK.out _ _ hA (fun _ => ?_)
            clear hK K hmk
            try simp only [Act.put, List.getElem_toArray, List.getElem_cons_zero, List.getElem_cons_succ, List.setIfInBounds_toArray, List.set_cons_zero, List.set_cons_succ]
            refine onlyG (i := 5) (by kernel_rfl) rfl (fun K hK => ?_)
            rw [if_pos (by rfl)]
            refine wp_append_sl _ (.tmp 88) (.tmp 90) 26 rfl W4.heap.size 54 z0 _ 5 40 Tryd.underlying26 zi zy0 zy1 zy2 rfl (by omega) _ (n) _ rfl own0 q.c.A q.c.len q.c.cap (fun i => (q.c.list.flatMap Ins.cells).getD i undef) rfl (HS4.out _ hA) HF1.out (by unfold maxLen; omega) (by omega) hA.size ?_
            intro v5 W5 own5 hg5 _
            rw [range_getD (q.c.list.flatMap Ins.cells) (q.c.len * 5) (by rw [flat_len Ins.cells 5 ins_len, Cd.list_len]), ← List.flatMap_append] at own5
            have hA5 := below_own hA own0 hg5 (Nat.le_refl _) (Nat.le_refl _)
            obtain ⟨A5, c5, rfl, _, _⟩ := own_sl own5
            refine hK.out _ _ hA5 (fun _ => ?_)
            clear hK K hg5 own0 hA
            try simp only [Act.put, List.getElem_toArray, List.getElem_cons_zero, List.getElem_cons_succ, List.setIfInBounds_toArray, List.set_cons_zero, List.set_cons_succ]
            refine lastG (by kernel_rfl) rfl (by kernel_rfl) (fun K hK => ?_)
            go_simp
            refine hK.out _ _ ?_
            clear hK K
            obtain ⟨t3, s3, he3⟩ : ∃ t3 s3, stepR (yOps B2) q.st (moveT q.t n) ⟨none, n + q.c.len + mo.len, 0, fun i => (List.replicate n ins0 ++ q.c.list ++ mo.list).getD i ins0⟩ = (t3, s3) := ⟨_, _, rfl⟩
            have HE3 := Lib.hid he3
            have HAL := Lib.hid (show t3 = moveT t2 n ∧ AlikeS s2 s3 ∧ (t2.pc = q.t.pc ∨ t2.pc = q.t.pc + 1) from by
              have hjm : jmpB (q.c.F q.t.pc.toNat).op = false := by
                have := HK2.out q.t.pc.toNat (by omega)
                unfold jmpB
                exact decide_eq_false (by omega)
              have h1 := alike_step B1 q.st q.t q.c ⟨none, n + q.c.len + mo.len, 0, fun i => (List.replicate n ins0 ++ q.c.list ++ mo.list).getD i ins0⟩ n h3' h4' (by show q.t.pc + n < ((n + q.c.len + mo.len : Nat) : Int); omega) (list_mid n q.c mo _ (by omega)) hjm
              have h2 := pc_step B1 q.st q.t q.c hjm
              rw [yOps_eq (HX.out.2.1.n2.trans HX.out.2.1.n1.symm) HX.out.2.1.r.symm] at he3
              rw [HX.out.1, he3] at h1
              rw [HX.out.1] at h2
              exact ⟨h1.1, h1.2, h2⟩)
            clear he3
            have own5' : W5.drew.ownsRow W4.heap.size 54 5 (.slice A5 (n + q.c.len) c5) (n + q.c.len) ((List.replicate n ins0 ++ q.c.list).flatMap Ins.cells) := own5
            have hA5' : Below W4.heap.size W4 W5.drew := hA5.drew
            have hS0 := HQ.out.1.below hA5' HQ.out.1.lt
            clear own5 hA5
            go_upto_region 13 with fail
            refine startG (fun W' => Blk W' vb 25 (thArr (moveT q.t n))) 7 (by kernel_rfl) ?_
            generalize W5.drew = W5' at own5' hA5' hS0 ⊢
            refine takeG (i := 0) (v := .agg (thArr (moveT q.t n))) rfl (by kernel_rfl) (by kernel_rfl) (by kernel_rfl) (by kernel_rfl) (fun _ _ _ h => h) (yields_row (by rfl) 25 (.tmp 11) rfl vb rfl (thArr (moveT q.t n)) (fun _ hS => run_row _ _ _ _ _ _ hS Tryd.underlying25 rfl th_info)) hS0 ?_
            simp only [Act.put, List.getElem_toArray, List.getElem_cons_zero, List.getElem_cons_succ, List.setIfInBounds_toArray, List.set_cons_zero, List.set_cons_succ]
            refine takeG0 (i := 1) (v := .slice A5 (n + q.c.len) c5) rfl (by kernel_rfl) (by kernel_rfl) (by kernel_rfl) (by kernel_rfl) (fun _ _ _ h => h) (Or.inl ⟨by rfl, fun W hW => by go_simp⟩) hS0 ?_
            simp only [Act.put, List.getElem_toArray, List.getElem_cons_zero, List.getElem_cons_succ, List.setIfInBounds_toArray, List.set_cons_zero, List.set_cons_succ]
            refine takeG0 (i := 2) (v := .slice mo.A mo.len mo.cap) rfl (by kernel_rfl) (by kernel_rfl) (by kernel_rfl) (by kernel_rfl) (fun _ _ _ h => h) (Or.inl ⟨by rfl, fun W hW => by go_simp⟩) hS0 ?_
            simp only [Act.put, List.getElem_toArray, List.getElem_cons_zero, List.getElem_cons_succ, List.setIfInBounds_toArray, List.set_cons_zero, List.set_cons_succ]
            refine takeG0 (i := 4) (v := .pointer (some ⟨B2.yb, 0, none⟩)) rfl (by kernel_rfl) (by kernel_rfl) (by kernel_rfl) (by kernel_rfl) (fun _ _ _ h => h) (Or.inl ⟨by rfl, fun W hW => by go_simp⟩) hS0 ?_
            simp only [Act.put, List.getElem_toArray, List.getElem_cons_zero, List.getElem_cons_succ, List.setIfInBounds_toArray, List.set_cons_zero, List.set_cons_succ]
            refine onlyG (i := 3) (by kernel_rfl) rfl (fun K hK => ?_)
            have hB5 := HQ.out.2.2.2.2.2.1.trans (hA5'.mono (by have := HQ.out.2.2.2.2.2.1.size; omega))
            have src := Cd.flat (c := mo) (HH.out.2.2.2.2.2.2.1.step hB5)
            rw [if_pos (by rfl)]
            refine wp_append_sl _ (.tmp 93) (.tmp 94) 26 rfl W4.heap.size 54 z0 _ 5 40 Tryd.underlying26 zi zy0 zy1 zy2 rfl (by omega) _ (n + q.c.len) _ rfl own5' mo.A mo.len mo.cap (fun i => (mo.list.flatMap Ins.cells).getD i undef) rfl src HF2.out (by unfold maxLen; omega) (by omega) hA5'.size ?_
            intro v6 W6 own6 hg6 _
            rw [range_getD (mo.list.flatMap Ins.cells) (mo.len * 5) (by rw [flat_len Ins.cells 5 ins_len, Cd.list_len]), ← List.flatMap_append] at own6
            have hA6 := below_own hA5' own5' hg6 (Nat.le_refl _) (Nat.le_refl _)
            obtain ⟨A6, c6, rfl, _, _⟩ := own_sl own6
            have hS6 := HQ.out.1.below hA6 HQ.out.1.lt
            refine hK.out _ _ hS6 (fun _ => ?_)
            clear hK K hg6 own5' hA5' hS0 hB5 src
            try simp only [Act.put, List.getElem_toArray, List.getElem_cons_zero, List.getElem_cons_succ, List.setIfInBounds_toArray, List.set_cons_zero, List.set_cons_succ]
            refine onlyG (i := 5) (by kernel_rfl) rfl (fun K hK => ?_)
            go_simp
            have hZ6 := HQ.out.2.2.2.1.keep ((Stay.refl _ _).below HQ.out.2.2.2.1.lt hA6)
            with_reducible refine (yport_any B2 q.st ownz W6 hZ6).mono ?_
            rintro e W7 ⟨wb2, xb2, ab2, rfl, hI7, ⟨hwb, hxb, hab⟩, hal7⟩
            obtain ⟨own3, ho3⟩ : ∃ o, o = (fun i => ownz i ∨ i = wb2 ∨ i = xb2 ∨ i = ab2) := ⟨_, rfl⟩
            rw [← ho3] at hI7
            have hA7 := step_below hA6 hal7
            have hlen6 : (List.replicate n ins0 ++ q.c.list ++ mo.list).length = n + q.c.len + mo.len := by simp [Cd.list_len]; omega
            obtain ⟨A', c', e', hl', hm', hcd⟩ := cd_of_own (l := List.replicate n ins0 ++ q.c.list ++ mo.list) (by rw [hlen6]; exact own6)
            injection e' with e1 e9 e2
            clear e9
            subst e1 e2
            rw [hlen6] at hcd hl'
            have hcd7 := hcd.step hal7
            have hz6 : W4.heap.size ≤ W6.heap.size := hA6.size
            have hd3 : ∀ i, own2 i → ¬ own3 i := fun i h h3 => by rw [ho3] at h3; have := HQ.out.2.2.1.lt i h; rcases h3 with h3 | h3 | h3 | h3 <;> first | exact HQ.out.2.2.2.2.2.2.1 i h h3 | omega
            have hv3 : ¬ own3 vb := fun h3 => by rw [ho3] at h3; have := HQ.out.1.lt; rcases h3 with h3 | h3 | h3 | h3 <;> first | exact HQ.out.2.2.2.2.2.2.2.2.2.2.1 h3 | omega
            have hu3 : ¬ own3 ub := fun h3 => by rw [ho3] at h3; have := HQ.out.2.1.lt; rcases h3 with h3 | h3 | h3 | h3 <;> first | exact HQ.out.2.2.2.2.2.2.2.2.1 h3 | omega
            have hi3 : ¬ own3 ib := fun h3 => by rw [ho3] at h3; have := HQ.out.2.2.2.2.1.lt; have h5 := HX.out.2.2.1; rcases h3 with h3 | h3 | h3 | h3 <;> first | (have := HX.out.2.1.lo2 ib h3; omega) | omega
            have hw3 : ∀ i, own3 i → w.heap.size ≤ i := fun i h3 => by rw [ho3] at h3; have := HQ.out.2.2.2.2.2.1.size; rcases h3 with h3 | h3 | h3 | h3 <;> first | exact Nat.le_trans HX.out.2.2.2 (HX.out.2.1.lo2 i h3) | omega
            have hS7 := HQ.out.1.below hA7 HQ.out.1.lt
            refine hK.out _ _ hS7 (fun _ => ?_)
            clear hK K hS6 hZ6 hwb hxb hab hal7 ho3 own6 hcd hlen6 hz6 hA6
            try simp only [Act.put, List.getElem_toArray, List.getElem_cons_zero, List.getElem_cons_succ, List.setIfInBounds_toArray, List.set_cons_zero, List.set_cons_succ]
            refine onlyG (i := 6) (by kernel_rfl) rfl (fun K hK => ?_)
            go_simp
            have hBw7 := HQ.out.2.2.2.2.2.1.trans (hA7.mono (by have := HQ.out.2.2.2.2.2.1.size; omega))
            have hok : Cd.Ok ⟨A6, n + q.c.len + mo.len, c6, fun i => (List.replicate n ins0 ++ q.c.list ++ mo.list).getD i ins0⟩ := ⟨hl', hm', fun i hi => ins_all n q.c mo HH.out.2.2.2.2.2.1.c HH.out.2.2.2.2.2.2.2 i⟩
            have hS' := step_at B2 HX.out.2.1.ok2 q HX.out.2.1.n2 (moveT q.t n) HH.out.2.2.2.2.2.1.t.r ⟨A6, n + q.c.len + mo.len, c6, fun i => (List.replicate n ins0 ++ q.c.list ++ mo.list).getD i ins0⟩ hok t3 s3 HE3.out HL.out wb2 xb2 ab2 own3 W7 hI7 (HH.out.2.2.2.1.step hBw7) hcd7
            have hS2 : Calls Tryd.prog 17 #[.agg (thArr (moveT q.t n)), .slice A6 (n + q.c.len + mo.len) c6, (yPv (B2.at wb2 xb2 ab2)).val B2.n] W7 _ := hS'
            with_reducible refine hS2.mono ?_
            rintro e W8 ⟨rfl, own4, hI8, ho4, hk8⟩
            have hv8 := hk8.blk hS7 hv3
            have hU8 := hk8.blk (HQ.out.2.1.below hA7 HQ.out.2.1.lt) hu3
            have hi8 := hk8.blk (HQ.out.2.2.2.2.1.below hA7 HQ.out.2.2.2.2.1.lt) hi3
            have hI27 := YInv.keep _ _ _ _ _ HQ.out.2.2.1 ((Stay.refl _ _).below HQ.out.2.2.1.lt hA7)
            have hI28 := YInv.keep _ _ _ _ _ hI27 ⟨fun i hi => hk8.block i (hI27.lt i hi) (hd3 i hi), hk8.size⟩
            have hB8 := hk8.belowOf hBw7 hw3
            have hv4 : ¬ own4 vb := fun h => (ho4 vb h).elim hv3 (fun h => by have := hS7.lt; omega)
            have HR := Lib.hid (And.intro hU8 (And.intro hi8 (And.intro hI28 (And.intro hI8 (And.intro hB8 (And.intro hv4 (And.intro HQ.out.2.2.2.2.2.2.2.2.2.1 (And.intro HQ.out.2.2.2.2.2.2.2.2.2.2.2.1 HQ.out.2.2.2.2.2.2.2.2.2.2.2.2))))))))
            refine hK.out _ _ hv8 (fun _ => ?_)
            clear hK K hS' hS2 hU8 hi8 hI27 hI28 hI8 hB8 hv4 hv3 hu3 hi3 hd3 hw3 ho4 hk8 hS7 hA7 hBw7 hok hcd7 hI7 hl' hm'
            try simp only [Act.put, List.getElem_toArray, List.getElem_cons_zero, List.getElem_cons_succ, List.setIfInBounds_toArray, List.set_cons_zero, List.set_cons_succ]
            refine lastG (by kernel_rfl) rfl (by kernel_rfl) (fun K hK => ?_)
            refine step_store_row rfl 25 (.tmp 11) (.tmp 98) rfl _ rfl (thArr t3) rfl 25 _ hv8 rfl th_info (th_one t3) ?_
            intro W9 hb9 hg9
            refine hK.out _ _ ?_
            clear hK K hv8
            obtain ⟨hU8, hi8, hI28, hI8, hB8, hv4, hvO, huv, hivb⟩ := HR.out
            have hU9 := hU8.grown hg9 (fun e => huv (Option.some.inj e))
            have hi9 := hi8.grown hg9 (fun e => hivb (Option.some.inj e))
            have hI29 := YInv.keep _ _ _ _ _ hI28 ⟨fun i hi => hg9.block i (hI28.lt i hi) (fun e => hvO (by rw [← Option.some.inj e]; exact hi)), hg9.size⟩
            have hI9 := YInv.keep _ _ _ _ _ hI8 ⟨fun i hi => hg9.block i (hI8.lt i hi) (fun e => hv4 (by rw [← Option.some.inj e]; exact hi)), hg9.size⟩
            have hB9 := below_row hB8 hg9 hB8.size hvbw
            have v0 : W9.cell? ⟨vb, 0, none⟩ = some (.int .i64 t3.pc) := (hb9.cell 0).trans rfl
            have vf := hb9.frozen 0
            have hpc3 : t3.pc = t2.pc + n := by rw [HAL.out.1]; rfl
            have hw3 : IntKind.i64.wrap (t3.pc - (n : Int)) = t3.pc - (n : Int) := IntWalk.i64_in _ (by have := HAL.out.2.2; omega)
            clear hpc3
            go_upto_region 15 with fail
            have hb10 : Blk (W9.setCell ⟨vb, 0, none⟩ (.int .i64 (t3.pc - (n : Int)))) vb 25 (thArr t2) := by
              have h1 := hb9.set_ 0 (.int .i64 (t3.pc - (n : Int)))
              have h2 : (thArr t3).setIfInBounds 0 (.int .i64 (t3.pc - (n : Int))) = thArr t2 := by
                rw [HAL.out.1]
                have : t2.pc + (n : Int) - (n : Int) = t2.pc := by omega
                simp [thArr, moveT, this]
              rw [h2] at h1
              exact h1
            have hU10 := hU9.far (p := ⟨vb, 0, none⟩) huv (.int .i64 (t3.pc - (n : Int)))
            have hg10 := set_only (w := W9) (g := vb) (j := 0) (.int .i64 (t3.pc - (n : Int)))
            have hI210 := YInv.keep _ _ _ _ _ hI29 ⟨fun i hi => hg10.block i (hI29.lt i hi) (fun e => hvO (by rw [← Option.some.inj e]; exact hi)), hg10.size⟩
            have hI10 := YInv.keep _ _ _ _ _ hI9 ⟨fun i hi => hg10.block i (hI9.lt i hi) (fun e => hv4 (by rw [← Option.some.inj e]; exact hi)), hg10.size⟩
            have hB10 := hB9.grown hg10 hB9.size (fun k e => by have := Option.some.inj e; omega)
            clear hb9 hg9 hU9 hi9 hI29 hI9 hB9 hg10 hv4 hvO hivb v0 vf hw3 hU8 hi8 hI28 hI8 hB8 HR
            generalize W9.setCell ⟨vb, 0, none⟩ (.int .i64 (t3.pc - (n : Int))) = W10 at hb10 hU10 hI210 hI10 hB10 ⊢
            obtain ⟨a1, a2, a3, a4, a5⟩ := HAL.out.2.1
            obtain ⟨mA1, mc1, bA1, bc1, sA1, sc1, eA1, ec1, x1, x6, x8, xb0, xm, xbf, xs, xl, xlt, xn⟩ := hI210.drew'.sw
            obtain ⟨mA2, mc2, bA2, bc2, sA2, sc2, eA2, ec2, y1, y6, y8, yb0, ym, ybf, ys, yl, ylt, yn⟩ := hI10.drew'.sw
            rw [a1] at ym y1
            rw [a2] at ybf yb0
            rw [a3] at ys y1
            rw [a4] at y8
            rw [a5] at y1 y6
            have hmlen : s2.mem.length ≤ 300 := by
              have hnn : (B1.at wb xb ab).n = q.m := HX.out.2.1.n1
              have hs := HL.out
              unfold longB at hs
              simp only [Bool.or_eq_false_iff, decide_eq_false_iff_not] at hs
              omega
            have hslen : s2.slp.length ≤ 10000 ∧ s2.buf.length ≤ 10000 := by
              have := step_can B1 q HX.out.2.1.n1 q.t q.c HL.out
              rw [HX.out.1] at this
              exact this
            obtain ⟨m, hm⟩ : ∃ m, s2.mem.length = m := ⟨_, rfl⟩
            obtain ⟨nb, hnb⟩ : ∃ m, s2.buf.length = m := ⟨_, rfl⟩
            obtain ⟨ns, hns⟩ : ∃ m, s2.slp.length = m := ⟨_, rfl⟩
            obtain ⟨ne, hne⟩ : ∃ m, s2.evs.length = m := ⟨_, rfl⟩
            rw [hm] at x1 y1 xm ym hmlen
            rw [hnb] at xb0 yb0 xbf ybf hslen
            rw [hns] at x1 y1 xs ys hslen
            rw [hne] at x1 y1 x6 y6
            have hSW := fun W' (hW : Below W10.drew.heap.size W10.drew W') => sameWorld_any B1.cv B1.tv (.int .i64 (B1.room : Int)) (.slice eA1 ne ec1) (.bool false) B2.cv B2.tv (.int .i64 (B2.room : Int)) (.slice eA2 ne ec2) (.bool false) B1.bb 0 B1.bl B1.bcap B2.bb 0 B2.bl B2.bcap mA1 mA2 m mc1 mc2 sA1 sA2 ns sc1 sc2 bA1 bA2 nb bc1 bc2 (fun i => s2.mem.getD i 0) (fun i => s2.buf.getD i (0, 0)) (fun i => s2.slp.getD i (0, 0)) W' xl yl (by omega) (by omega) (by omega) (keepAt hW (World.block_lt_of_cell? _ _ xb0) xb0) (keepAt hW (World.block_lt_of_cell? _ _ yb0) yb0) (xm.below (Nat.le_refl _) hW) (ym.below (Nat.le_refl _) hW) (xbf.below (Nat.le_refl _) hW) (ybf.below (Nat.le_refl _) hW) (xs.below (Nat.le_refl _) hW) (ys.below (Nat.le_refl _) hW)
            have HSW := Lib.hid hSW
            have HB10 := Lib.hid hB10.drew
            have hq := fun w => th_eql t2 w
            have HC := Lib.hid (And.intro x1 (And.intro y1 (And.intro xlt ylt)))
            have HCC := Lib.hid (And.intro (show W10.drew.cell? ⟨B1.yb, 6, none⟩ = some (.slice eA1 ne ec1) from x6) (And.intro (show W10.drew.cell? ⟨B1.yb, 8, none⟩ = some (.string s2.asks) from x8) (And.intro (show W10.drew.cell? ⟨B2.yb, 6, none⟩ = some (.slice eA2 ne ec2) from y6) (show W10.drew.cell? ⟨B2.yb, 8, none⟩ = some (.string s2.asks) from y8))))
            have HT2 := Lib.hid (And.intro hU10.drew hb10.drew)
            clear hSW hB10 x1 y1 xlt ylt x6 x8 y6 y8 hU10 hb10 hI210 hI10 xb0 yb0 xm ym xbf ybf xs ys xl yl xn yn a1 a2 a3 a4 a5 hmlen hslen hm hnb hns hne HQ HS4 HF1 HF2 HX HE3 HAL
            refine startG (fun W' => Below W10.drew.heap.size W10.drew W') 40 (by kernel_rfl) ?_
            have hH := Below.refl W10.drew.heap.size W10.drew
            generalize W10.drew = W11 at HSW HB10 HC HCC HT2 hH ⊢
            refine takeG (i := 0) (v := .agg (thArr t2)) rfl (by kernel_rfl) (by kernel_rfl) (by kernel_rfl) (by kernel_rfl) (fun _ _ _ h => h) (yields_row (by rfl) 25 (.tmp 10) rfl ub rfl (thArr t2) (fun _ hS => run_row _ _ _ _ _ _ (HT2.out.1.below hS HT2.out.1.lt) Tryd.underlying25 rfl th_info)) hH ?_
            simp only [Act.put, List.getElem_toArray, List.getElem_cons_zero, List.getElem_cons_succ, List.setIfInBounds_toArray, List.set_cons_zero, List.set_cons_succ]
            refine takeG (i := 1) (v := .agg (thArr t2)) rfl (by kernel_rfl) (by kernel_rfl) (by kernel_rfl) (by kernel_rfl) (fun _ _ _ h => h) (yields_row (by rfl) 25 (.tmp 11) rfl vb rfl (thArr t2) (fun _ hS => run_row _ _ _ _ _ _ (HT2.out.2.below hS HT2.out.2.lt) Tryd.underlying25 rfl th_info)) hH ?_
            simp only [Act.put, List.getElem_toArray, List.getElem_cons_zero, List.getElem_cons_succ, List.setIfInBounds_toArray, List.set_cons_zero, List.set_cons_succ]
            refine takeG0 (i := 2) (v := .bool true) rfl (by kernel_rfl) (by kernel_rfl) (by kernel_rfl) (by kernel_rfl) (fun _ _ _ h => h) (Or.inl ⟨by rfl, fun W hW => by go_simp⟩) hH ?_
            simp only [Act.put, List.getElem_toArray, List.getElem_cons_zero, List.getElem_cons_succ, List.setIfInBounds_toArray, List.set_cons_zero, List.set_cons_succ]
            refine takeG0 (i := 3) (v := .bool true) rfl (by kernel_rfl) (by kernel_rfl) (by kernel_rfl) (by kernel_rfl) (fun _ _ _ h => h) (Or.inl ⟨by rfl, fun W hW => by go_simp⟩) hH ?_
            simp only [Act.put, List.getElem_toArray, List.getElem_cons_zero, List.getElem_cons_succ, List.setIfInBounds_toArray, List.set_cons_zero, List.set_cons_succ]
            refine takeG0 (i := 4) (v := .pointer (some ⟨B1.yb, 0, none⟩)) rfl (by kernel_rfl) (by kernel_rfl) (by kernel_rfl) (by kernel_rfl) (fun _ _ _ h => h) (Or.inl ⟨by rfl, fun W hW => by go_simp⟩) hH ?_
            simp only [Act.put, List.getElem_toArray, List.getElem_cons_zero, List.getElem_cons_succ, List.setIfInBounds_toArray, List.set_cons_zero, List.set_cons_succ]
            refine takeG0 (i := 5) (v := .pointer (some ⟨B1.yb, 0, none⟩)) rfl (by kernel_rfl) (by kernel_rfl) (by kernel_rfl) (by kernel_rfl) (fun _ _ _ h => h) (Or.inl ⟨by rfl, fun W hW => by go_simp⟩) hH ?_
            simp only [Act.put, List.getElem_toArray, List.getElem_cons_zero, List.getElem_cons_succ, List.setIfInBounds_toArray, List.set_cons_zero, List.set_cons_succ]
            refine takeG0 (i := 6) (v := .pointer (some ⟨B1.yb, 0, none⟩)) rfl (by kernel_rfl) (by kernel_rfl) (by kernel_rfl) (by kernel_rfl) (fun _ _ _ h => h) (Or.inl ⟨by rfl, fun W hW => by go_simp⟩) hH ?_
            simp only [Act.put, List.getElem_toArray, List.getElem_cons_zero, List.getElem_cons_succ, List.setIfInBounds_toArray, List.set_cons_zero, List.set_cons_succ]
            refine takeG (i := 7) (v := .agg ([B1.cv, B1.tv, .slice (some ⟨B1.bb, 0, none⟩) B1.bl B1.bcap, .slice mA1 m mc1, .int .i64 (B1.room : Int), .slice sA1 ns sc1, .slice eA1 ne ec1, .bool false] : List Value).toArray) rfl (by kernel_rfl) (by kernel_rfl) (by kernel_rfl) (by kernel_rfl) (fun _ _ _ h => h) (yieldsIf_load_mid (by rfl) 40 (.tmp 111) rfl B1.yb 0 rfl [B1.cv, B1.tv, .slice (some ⟨B1.bb, 0, none⟩) B1.bl B1.bcap, .slice mA1 m mc1, .int .i64 (B1.room : Int), .slice sA1 ns sc1, .slice eA1 ne ec1, .bool false] _ (fun W hW => range_below hW HC.out.2.2.1 HC.out.1) Tryd.underlying40 rfl wor_info) hH ?_
            simp only [Act.put, List.getElem_toArray, List.getElem_cons_zero, List.getElem_cons_succ, List.setIfInBounds_toArray, List.set_cons_zero, List.set_cons_succ]
            refine takeG0 (i := 8) (v := .pointer (some ⟨B2.yb, 0, none⟩)) rfl (by kernel_rfl) (by kernel_rfl) (by kernel_rfl) (by kernel_rfl) (fun _ _ _ h => h) (Or.inl ⟨by rfl, fun W hW => by go_simp⟩) hH ?_
            simp only [Act.put, List.getElem_toArray, List.getElem_cons_zero, List.getElem_cons_succ, List.setIfInBounds_toArray, List.set_cons_zero, List.set_cons_succ]
            refine takeG0 (i := 9) (v := .pointer (some ⟨B2.yb, 0, none⟩)) rfl (by kernel_rfl) (by kernel_rfl) (by kernel_rfl) (by kernel_rfl) (fun _ _ _ h => h) (Or.inl ⟨by rfl, fun W hW => by go_simp⟩) hH ?_
            simp only [Act.put, List.getElem_toArray, List.getElem_cons_zero, List.getElem_cons_succ, List.setIfInBounds_toArray, List.set_cons_zero, List.set_cons_succ]
            refine takeG0 (i := 10) (v := .pointer (some ⟨B2.yb, 0, none⟩)) rfl (by kernel_rfl) (by kernel_rfl) (by kernel_rfl) (by kernel_rfl) (fun _ _ _ h => h) (Or.inl ⟨by rfl, fun W hW => by go_simp⟩) hH ?_
            simp only [Act.put, List.getElem_toArray, List.getElem_cons_zero, List.getElem_cons_succ, List.setIfInBounds_toArray, List.set_cons_zero, List.set_cons_succ]
            refine takeG (i := 11) (v := .agg ([B2.cv, B2.tv, .slice (some ⟨B2.bb, 0, none⟩) B2.bl B2.bcap, .slice mA2 m mc2, .int .i64 (B2.room : Int), .slice sA2 ns sc2, .slice eA2 ne ec2, .bool false] : List Value).toArray) rfl (by kernel_rfl) (by kernel_rfl) (by kernel_rfl) (by kernel_rfl) (fun _ _ _ h => h) (yieldsIf_load_mid (by rfl) 40 (.tmp 115) rfl B2.yb 0 rfl [B2.cv, B2.tv, .slice (some ⟨B2.bb, 0, none⟩) B2.bl B2.bcap, .slice mA2 m mc2, .int .i64 (B2.room : Int), .slice sA2 ns sc2, .slice eA2 ne ec2, .bool false] _ (fun W hW => range_below hW HC.out.2.2.2 HC.out.2.1) Tryd.underlying40 rfl wor_info) hH ?_
            simp only [Act.put, List.getElem_toArray, List.getElem_cons_zero, List.getElem_cons_succ, List.setIfInBounds_toArray, List.set_cons_zero, List.set_cons_succ]
            refine onlyG (i := 12) (by kernel_rfl) rfl (fun K hK => ?_)
            go_simp
            refine (HSW.out W11 hH).mono ?_
            rintro e W12 ⟨rfl, hal12⟩
            have hH2 := step_below hH hal12
            refine hK.out _ _ hH2 (fun _ => ?_)
            clear hK K hal12
            try simp only [Act.put, List.getElem_toArray, List.getElem_cons_zero, List.getElem_cons_succ, List.setIfInBounds_toArray, List.set_cons_zero, List.set_cons_succ]
            refine takeG0 (i := 13) (v := .bool true) rfl (by kernel_rfl) (by kernel_rfl) (by kernel_rfl) (by kernel_rfl) (fun _ _ _ h => h) (Or.inl ⟨by rfl, fun W hW => by go_simp⟩) hH2 ?_
            simp only [Act.put, List.getElem_toArray, List.getElem_cons_zero, List.getElem_cons_succ, List.setIfInBounds_toArray, List.set_cons_zero, List.set_cons_succ]
            refine takeG0 (i := 14) (v := .bool true) rfl (by kernel_rfl) (by kernel_rfl) (by kernel_rfl) (by kernel_rfl) (fun _ _ _ h => h) (Or.inl ⟨by rfl, fun W hW => by go_simp⟩) hH2 ?_
            simp only [Act.put, List.getElem_toArray, List.getElem_cons_zero, List.getElem_cons_succ, List.setIfInBounds_toArray, List.set_cons_zero, List.set_cons_succ]
            refine takeG0 (i := 15) (v := .pointer (some ⟨B1.yb, 0, none⟩)) rfl (by kernel_rfl) (by kernel_rfl) (by kernel_rfl) (by kernel_rfl) (fun _ _ _ h => h) (Or.inl ⟨by rfl, fun W hW => by go_simp⟩) hH2 ?_
            simp only [Act.put, List.getElem_toArray, List.getElem_cons_zero, List.getElem_cons_succ, List.setIfInBounds_toArray, List.set_cons_zero, List.set_cons_succ]
            refine takeG0 (i := 16) (v := .pointer (some ⟨B1.yb, 0, none⟩)) rfl (by kernel_rfl) (by kernel_rfl) (by kernel_rfl) (by kernel_rfl) (fun _ _ _ h => h) (Or.inl ⟨by rfl, fun W hW => by go_simp⟩) hH2 ?_
            simp only [Act.put, List.getElem_toArray, List.getElem_cons_zero, List.getElem_cons_succ, List.setIfInBounds_toArray, List.set_cons_zero, List.set_cons_succ]
            refine takeG0 (i := 17) (v := .pointer (some ⟨B1.yb, 0, none⟩)) rfl (by kernel_rfl) (by kernel_rfl) (by kernel_rfl) (by kernel_rfl) (fun _ _ _ h => h) (Or.inl ⟨by rfl, fun W hW => by go_simp⟩) hH2 ?_
            simp only [Act.put, List.getElem_toArray, List.getElem_cons_zero, List.getElem_cons_succ, List.setIfInBounds_toArray, List.set_cons_zero, List.set_cons_succ]
            refine takeG0 (i := 18) (v := .pointer (some ⟨B1.yb, 6, none⟩)) rfl (by kernel_rfl) (by kernel_rfl) (by kernel_rfl) (by kernel_rfl) (fun _ _ _ h => h) (Or.inl ⟨by rfl, fun W hW => by go_simp⟩) hH2 ?_
            simp only [Act.put, List.getElem_toArray, List.getElem_cons_zero, List.getElem_cons_succ, List.setIfInBounds_toArray, List.set_cons_zero, List.set_cons_succ]
            refine takeG (i := 19) (v := .slice eA1 ne ec1) rfl (by kernel_rfl) (by kernel_rfl) (by kernel_rfl) (by kernel_rfl) (fun _ _ _ h => h) (Or.inl ⟨by rfl, fun W hW => by have q0 := keepAt hW (World.block_lt_of_cell? _ _ HCC.out.1) HCC.out.1; go_simp⟩) hH2 ?_
            simp only [Act.put, List.getElem_toArray, List.getElem_cons_zero, List.getElem_cons_succ, List.setIfInBounds_toArray, List.set_cons_zero, List.set_cons_succ]
            refine takeG0 (i := 20) (v := .int .i64 (ne : Int)) rfl (by kernel_rfl) (by kernel_rfl) (by kernel_rfl) (by kernel_rfl) (fun _ _ _ h => h) (Or.inl ⟨by rfl, fun W hW => by go_simp⟩) hH2 ?_
            simp only [Act.put, List.getElem_toArray, List.getElem_cons_zero, List.getElem_cons_succ, List.setIfInBounds_toArray, List.set_cons_zero, List.set_cons_succ]
            refine takeG0 (i := 21) (v := .pointer (some ⟨B2.yb, 0, none⟩)) rfl (by kernel_rfl) (by kernel_rfl) (by kernel_rfl) (by kernel_rfl) (fun _ _ _ h => h) (Or.inl ⟨by rfl, fun W hW => by go_simp⟩) hH2 ?_
            simp only [Act.put, List.getElem_toArray, List.getElem_cons_zero, List.getElem_cons_succ, List.setIfInBounds_toArray, List.set_cons_zero, List.set_cons_succ]
            refine takeG0 (i := 22) (v := .pointer (some ⟨B2.yb, 0, none⟩)) rfl (by kernel_rfl) (by kernel_rfl) (by kernel_rfl) (by kernel_rfl) (fun _ _ _ h => h) (Or.inl ⟨by rfl, fun W hW => by go_simp⟩) hH2 ?_
            simp only [Act.put, List.getElem_toArray, List.getElem_cons_zero, List.getElem_cons_succ, List.setIfInBounds_toArray, List.set_cons_zero, List.set_cons_succ]
            refine takeG0 (i := 23) (v := .pointer (some ⟨B2.yb, 0, none⟩)) rfl (by kernel_rfl) (by kernel_rfl) (by kernel_rfl) (by kernel_rfl) (fun _ _ _ h => h) (Or.inl ⟨by rfl, fun W hW => by go_simp⟩) hH2 ?_
            simp only [Act.put, List.getElem_toArray, List.getElem_cons_zero, List.getElem_cons_succ, List.setIfInBounds_toArray, List.set_cons_zero, List.set_cons_succ]
            refine takeG0 (i := 24) (v := .pointer (some ⟨B2.yb, 6, none⟩)) rfl (by kernel_rfl) (by kernel_rfl) (by kernel_rfl) (by kernel_rfl) (fun _ _ _ h => h) (Or.inl ⟨by rfl, fun W hW => by go_simp⟩) hH2 ?_
            simp only [Act.put, List.getElem_toArray, List.getElem_cons_zero, List.getElem_cons_succ, List.setIfInBounds_toArray, List.set_cons_zero, List.set_cons_succ]
            refine takeG (i := 25) (v := .slice eA2 ne ec2) rfl (by kernel_rfl) (by kernel_rfl) (by kernel_rfl) (by kernel_rfl) (fun _ _ _ h => h) (Or.inl ⟨by rfl, fun W hW => by have q0 := keepAt hW (World.block_lt_of_cell? _ _ HCC.out.2.2.1) HCC.out.2.2.1; go_simp⟩) hH2 ?_
            simp only [Act.put, List.getElem_toArray, List.getElem_cons_zero, List.getElem_cons_succ, List.setIfInBounds_toArray, List.set_cons_zero, List.set_cons_succ]
            refine takeG0 (i := 26) (v := .int .i64 (ne : Int)) rfl (by kernel_rfl) (by kernel_rfl) (by kernel_rfl) (by kernel_rfl) (fun _ _ _ h => h) (Or.inl ⟨by rfl, fun W hW => by go_simp⟩) hH2 ?_
            simp only [Act.put, List.getElem_toArray, List.getElem_cons_zero, List.getElem_cons_succ, List.setIfInBounds_toArray, List.set_cons_zero, List.set_cons_succ]
            refine takeG0 (i := 27) (v := .bool true) rfl (by kernel_rfl) (by kernel_rfl) (by kernel_rfl) (by kernel_rfl) (fun _ _ _ h => h) (Or.inl ⟨by rfl, fun W hW => by go_simp⟩) hH2 ?_
            simp only [Act.put, List.getElem_toArray, List.getElem_cons_zero, List.getElem_cons_succ, List.setIfInBounds_toArray, List.set_cons_zero, List.set_cons_succ]
            refine takeG0 (i := 28) (v := .bool true) rfl (by kernel_rfl) (by kernel_rfl) (by kernel_rfl) (by kernel_rfl) (fun _ _ _ h => h) (Or.inl ⟨by rfl, fun W hW => by go_simp⟩) hH2 ?_
            simp only [Act.put, List.getElem_toArray, List.getElem_cons_zero, List.getElem_cons_succ, List.setIfInBounds_toArray, List.set_cons_zero, List.set_cons_succ]
            refine takeG0 (i := 29) (v := .bool true) rfl (by kernel_rfl) (by kernel_rfl) (by kernel_rfl) (by kernel_rfl) (fun _ _ _ h => h) (Or.inl ⟨by rfl, fun W hW => by go_simp⟩) hH2 ?_
            simp only [Act.put, List.getElem_toArray, List.getElem_cons_zero, List.getElem_cons_succ, List.setIfInBounds_toArray, List.set_cons_zero, List.set_cons_succ]
            refine takeG0 (i := 30) (v := .pointer (some ⟨B1.yb, 0, none⟩)) rfl (by kernel_rfl) (by kernel_rfl) (by kernel_rfl) (by kernel_rfl) (fun _ _ _ h => h) (Or.inl ⟨by rfl, fun W hW => by go_simp⟩) hH2 ?_
            simp only [Act.put, List.getElem_toArray, List.getElem_cons_zero, List.getElem_cons_succ, List.setIfInBounds_toArray, List.set_cons_zero, List.set_cons_succ]
            refine takeG0 (i := 31) (v := .pointer (some ⟨B1.yb, 0, none⟩)) rfl (by kernel_rfl) (by kernel_rfl) (by kernel_rfl) (by kernel_rfl) (fun _ _ _ h => h) (Or.inl ⟨by rfl, fun W hW => by go_simp⟩) hH2 ?_
            simp only [Act.put, List.getElem_toArray, List.getElem_cons_zero, List.getElem_cons_succ, List.setIfInBounds_toArray, List.set_cons_zero, List.set_cons_succ]
            refine takeG0 (i := 32) (v := .pointer (some ⟨B1.yb, 8, none⟩)) rfl (by kernel_rfl) (by kernel_rfl) (by kernel_rfl) (by kernel_rfl) (fun _ _ _ h => h) (Or.inl ⟨by rfl, fun W hW => by go_simp⟩) hH2 ?_
            simp only [Act.put, List.getElem_toArray, List.getElem_cons_zero, List.getElem_cons_succ, List.setIfInBounds_toArray, List.set_cons_zero, List.set_cons_succ]
            refine takeG (i := 33) (v := .string s2.asks) rfl (by kernel_rfl) (by kernel_rfl) (by kernel_rfl) (by kernel_rfl) (fun _ _ _ h => h) (Or.inl ⟨by rfl, fun W hW => by have q0 := keepAt hW (World.block_lt_of_cell? _ _ HCC.out.2.1) HCC.out.2.1; go_simp⟩) hH2 ?_
            simp only [Act.put, List.getElem_toArray, List.getElem_cons_zero, List.getElem_cons_succ, List.setIfInBounds_toArray, List.set_cons_zero, List.set_cons_succ]
            refine takeG0 (i := 34) (v := .pointer (some ⟨B2.yb, 0, none⟩)) rfl (by kernel_rfl) (by kernel_rfl) (by kernel_rfl) (by kernel_rfl) (fun _ _ _ h => h) (Or.inl ⟨by rfl, fun W hW => by go_simp⟩) hH2 ?_
            simp only [Act.put, List.getElem_toArray, List.getElem_cons_zero, List.getElem_cons_succ, List.setIfInBounds_toArray, List.set_cons_zero, List.set_cons_succ]
            refine takeG0 (i := 35) (v := .pointer (some ⟨B2.yb, 0, none⟩)) rfl (by kernel_rfl) (by kernel_rfl) (by kernel_rfl) (by kernel_rfl) (fun _ _ _ h => h) (Or.inl ⟨by rfl, fun W hW => by go_simp⟩) hH2 ?_
            simp only [Act.put, List.getElem_toArray, List.getElem_cons_zero, List.getElem_cons_succ, List.setIfInBounds_toArray, List.set_cons_zero, List.set_cons_succ]
            refine takeG0 (i := 36) (v := .pointer (some ⟨B2.yb, 8, none⟩)) rfl (by kernel_rfl) (by kernel_rfl) (by kernel_rfl) (by kernel_rfl) (fun _ _ _ h => h) (Or.inl ⟨by rfl, fun W hW => by go_simp⟩) hH2 ?_
            simp only [Act.put, List.getElem_toArray, List.getElem_cons_zero, List.getElem_cons_succ, List.setIfInBounds_toArray, List.set_cons_zero, List.set_cons_succ]
            refine takeG (i := 37) (v := .string s2.asks) rfl (by kernel_rfl) (by kernel_rfl) (by kernel_rfl) (by kernel_rfl) (fun _ _ _ h => h) (Or.inl ⟨by rfl, fun W hW => by have q0 := keepAt hW (World.block_lt_of_cell? _ _ HCC.out.2.2.2) HCC.out.2.2.2; go_simp⟩) hH2 ?_
            simp only [Act.put, List.getElem_toArray, List.getElem_cons_zero, List.getElem_cons_succ, List.setIfInBounds_toArray, List.set_cons_zero, List.set_cons_succ]
            refine takeG0 (i := 38) (v := .bool true) rfl (by kernel_rfl) (by kernel_rfl) (by kernel_rfl) (by kernel_rfl) (fun _ _ _ h => h) (Or.inl ⟨by rfl, fun W hW => by go_simp⟩) hH2 ?_
            simp only [Act.put, List.getElem_toArray, List.getElem_cons_zero, List.getElem_cons_succ, List.setIfInBounds_toArray, List.set_cons_zero, List.set_cons_succ]
            refine takeG0 (i := 39) (v := .bool true) rfl (by kernel_rfl) (by kernel_rfl) (by kernel_rfl) (by kernel_rfl) (fun _ _ _ h => h) (Or.inl ⟨by rfl, fun W hW => by go_simp⟩) hH2 ?_
            simp only [Act.put, List.getElem_toArray, List.getElem_cons_zero, List.getElem_cons_succ, List.setIfInBounds_toArray, List.set_cons_zero, List.set_cons_succ]
            refine lastG (by kernel_rfl) rfl (by kernel_rfl) (fun K hK => ?_)
            go_simp
            refine hK.out _ _ ?_
            clear hK K
            have HF := Lib.hid (HB10.out.trans (hH2.mono HB10.out.size))
            clear hH hH2 hq
            go_wp2
            go_ret
            exact ⟨rfl, HF.out⟩
end Go.Proofs.YtjmnogpnjombgaaDoor

/- ref09.Sees. -/
import Derived.Test.YtjmnogpnjombgaaDoorTsOwn
namespace Go.Proofs.YtjmnogpnjombgaaDoor
open Go.ChangeShapes Go.WideShapes Go.ChangeAt Go.RowKit Go.Deep
set_option linter.unusedVariables false
set_option maxRecDepth 100000
set_option linter.unusedSimpArgs false

set_option maxHeartbeats 4000000 in
theorem sees9_any (eA : Option Addr) (ecap : Nat) (l : List Evt) (n : Nat) (hl : l.length = n) (hn : n ≤ 1000000000) (hcap : n ≤ ecap) (mA : Option Addr) (m mcap : Nat) (hm : m ≤ 1024) (Z : Nat → Int) (hZ : ∀ i, i < m → RV (Z i)) (W : World)
    (he : SlE W eA n 8 (fun i => (l.getD i evz).cells)) (hmem : Sl W mA m (fun i => .int .u32 (Z i))) (h : ∀ i, i < n → EvX ((List.range m).map Z) (l.take i) (l.getD i evz)) :
    Calls Tryd.prog 32 #[.slice eA n ecap, .slice mA m mcap] W fun e W' => e = .returned (.int .i64 1) ∧ Below W.heap.size W W' := by
  have hal := (Below.refl W.heap.size W).alloc (Nat.le_refl _) (.cells #[] 22)
  have hown := own_zero W 22 1
  have hs2 : Sl (W.alloc (.cells #[] 22)) mA (m * 1) (fun i => .int .u32 (Z i)) := by rw [Nat.mul_one]; exact hmem.step hal
  obtain ⟨i0, hi, hy0, hy1, hy2⟩ := info_parts words_info5
  have HH := Lib.hid (And.intro he (And.intro hl (And.intro h hZ)))
  have HAL := Lib.hid hal
  clear he hl h hmem hal hZ
  go_enter Tryd.func32, Tryd.ntmps32
  go_upto_region 2 with (at_builtin; refine wpList_append_sl _ rfl (.tmp 10) (.tmp 11) 28 rfl W.heap.size 22 i0 _ 1 4 Tryd.underlying28 hi hy0 hy1 hy2 rfl (by omega) _ 0 _ rfl hown _ m _ _ rfl hs2 (fun k hk => rfl) (by unfold maxLen; omega) (by omega) HAL.out.size ?_; intro v5 w5 hown5 hg5 _)
  have hB5 := below_own HAL.out hown hg5 (Nat.le_refl _) (Nat.le_refl _)
  rw [Nat.zero_add, List.nil_append, Nat.mul_one] at hown5
  have H0 := Lib.hid (And.intro hown5 hB5)
  clear hs2 hown hown5 hg5 hB5
  go_wp2
  go_loopw [6] (fun i wr => ∃ (k : Nat), k ≤ n ∧ i = .int .i64 (k : Int) ∧ wr.ownsRow W.heap.size 22 1 v5 m ((memL (l.take k) ((List.range m).map Z)).map fun z => .int .u32 z) ∧ Below W.heap.size W wr) (fun i _ => n - (intOf i).toNat)
  case atStart => exact ⟨0, Nat.zero_le _, rfl, by rw [List.take_zero]; show World.ownsRow _ _ _ _ _ _ (((List.range m).map Z).map _); rw [List.map_map]; exact H0.out.1, H0.out.2⟩
  case round =>
    obtain ⟨k, hk, rfl, hR, hB⟩ := hrel
    by_cases hkn : k < n
    · have hk0 : (0 : Int) ≤ (k : Int) := by omega
      have hk1 : (k : Int) < (n : Int) := by omega
      obtain ⟨b, off, rfl, hlt, hcc⟩ := HH.out.1 (by omega)
      obtain ⟨x, hx⟩ : ∃ x, l.getD k evz = x := ⟨_, rfl⟩
      have hSX := HH.out.2.2.1 k hkn
      rw [hx] at hSX
      have hra : wr.rangeAt b (off + k * 8) x.cells := fun j v hv => by rw [← hx] at hv; exact keepAt hB hlt (hcc k hkn j v hv)
      have hsl : SlE wr (some ⟨b, off, none⟩) k 8 (fun i => ((l.take k).getD i evz).cells) := (sle_take HH.out.1 (Nat.le_of_lt hkn)).step hB
      have hlk : (l.take k).length = k := by rw [List.length_take, HH.out.2.1]; omega
      have hsn : memL (l.take (k + 1)) ((List.range m).map Z) = mstepE (memL (l.take k) ((List.range m).map Z)) x := by rw [take_snoc l k evz (by rw [HH.out.2.1]; exact hkn), memL_snoc, hx]
      obtain ⟨kd, wh, pc, ad, vl, ol, kk, ok⟩ := x
      have hal := (Below.refl wr.heap.size wr).alloc (Nat.le_refl _) (.cells #[.int .i64 kd, .int .i64 wh, .int .i64 pc, .int .i64 ad, .int .u32 vl, .int .u32 ol, .int .u32 kk, .bool ok] 86)
      have hX := Blk.new wr 86 #[.int .i64 kd, .int .i64 wh, .int .i64 pc, .int .i64 ad, .int .u32 vl, .int .u32 ol, .int .u32 kk, .bool ok]
      have hR2 := own_below hR (Nat.le_refl _) hal
      have hB2 := step_below hB hal
      obtain ⟨xb, hxb⟩ : ∃ xb, wr.heap.size = xb := ⟨_, rfl⟩
      rw [hxb] at hX
      obtain ⟨mem, hmem⟩ : ∃ q, memL (l.take k) ((List.range m).map Z) = q := ⟨_, rfl⟩
      rw [hmem] at hR2 hsn
      have hml : mem.length = m := by rw [← hmem, memL_len, List.length_map, List.length_range]
      have HM := Lib.hid (And.intro hsn (And.intro hmem hml))
      have HS := Lib.hid (And.intro hSX (And.intro hlk (hsl.step hal)))
      clear hcc hx hsl hal hB hSX hlt hlk hsn hR hmem hml
      go_upto_region 6 with (refine wpList_load_mid rfl 86 (.tmp 21) rfl b (off + k * 8) rfl [.int .i64 kd, .int .i64 wh, .int .i64 pc, .int .i64 ad, .int .u32 vl, .int .u32 ol, .int .u32 kk, .bool ok] _ hra Tryd.underlying86 rfl evt_infoL ?_)
      try rw [hxb]
      clear hxb hra
      generalize wr.alloc (.cells #[.int .i64 kd, .int .i64 wh, .int .i64 pc, .int .i64 ad, .int .u32 vl, .int .u32 ol, .int .u32 kk, .bool ok] 86) = w2 at hX hR2 hB2 HS ⊢
      have x0 := hX.cell 0
      have x1 := hX.cell 1
      have x3 := hX.cell 3
      have x4 := hX.cell 4
      have x5 := hX.cell 5
      simp only [List.getElem?_toArray, List.getElem?_cons_zero, List.getElem?_cons_succ] at x0 x1 x3 x4 x5
      have HR := Lib.hid (And.intro hR2 (And.intro hB2 hX))
      clear hR2 hB2 hX
      by_cases h3 : kd = 3
      · subst h3
        obtain ⟨_, ha0, ha1⟩ := HS.out.1.flush rfl
        dsimp only at ha0 ha1
        obtain ⟨a, rfl⟩ : ∃ a : Nat, ad = (a : Int) := ⟨ad.toNat, by omega⟩
        have ham' : a < m := by rw [List.length_map, List.length_range] at ha1; omega
        have hR9 := HR.out.1
        rw [← HM.out.2.2] at hR9
        have hal' : a < mem.length := by rw [HM.out.2.2]; exact ham'
        obtain ⟨g, cap5, e5, hc5, hcm5, ⟨cs, hBg⟩, hcell, hrow, hgr⟩ := row_set hR9 hal' (.int .u32 vl)
        have z5 := hcell (.int .u32 (mem.getD a 0)) (by simp [List.getElem?_eq_getElem hal', List.getD_eq_getElem?_getD])
        have f5 := hBg.frozen a
        rw [HM.out.2.2] at e5 hrow
        have a2 : (0 : Int) ≤ (a : Int) := by omega
        have a3 : (a : Int) < (m : Int) := by omega
        have HV := Lib.hid (And.intro hrow (And.intro hgr hBg))
        clear hR9 hcell hc5 hcm5 ha0 ha1 hrow hgr hBg hal'
        subst e5
        go_wp2
        go_roundw
        case rel =>
          have hgN : W.heap.size ≤ g := own_ge HR.out.1 g rfl
          refine ⟨k + 1, by omega, by go_num, ?_, HR.out.2.1.setCell (p := ⟨g, a, none⟩) hgN _⟩
          rw [HM.out.1]
          unfold mstepE
          rw [if_pos (.inl rfl)]
          show World.ownsRow _ _ _ _ _ _ ((mem.set (a : Int).toNat vl).map _)
          rw [Int.toNat_natCast, List.map_set]
          exact HV.out.1
        case measure => simp [intOf]; omega
      by_cases h4 : kd = 4
      · subst h4
        obtain ⟨⟨ha0, ha1⟩, hv⟩ := HS.out.1.swap rfl
        dsimp only at ha0 ha1 hv
        obtain ⟨a, rfl⟩ : ∃ a : Nat, ad = (a : Int) := ⟨ad.toNat, by omega⟩
        rw [HM.out.2.1, Int.toNat_natCast] at hv
        have ham' : a < m := by rw [List.length_map, List.length_range] at ha1; omega
        have hR9 := HR.out.1
        rw [← HM.out.2.2] at hR9
        have hal' : a < mem.length := by rw [HM.out.2.2]; exact ham'
        obtain ⟨g, cap5, e5, hc5, hcm5, ⟨cs, hBg⟩, hcell, _, _⟩ := row_set hR9 hal' (.int .u32 vl)
        have z5 := hcell (.int .u32 ol) (by rw [← hv]; simp [List.getElem?_eq_getElem hal', List.getD_eq_getElem?_getD])
        have f5 := hBg.frozen a
        rw [HM.out.2.2] at e5
        have a0 : ¬ (a : Int) < 0 := by omega
        have a1 : ¬ (m : Int) ≤ (a : Int) := by omega
        have a2 : (0 : Int) ≤ (a : Int) := by omega
        have a3 : (a : Int) < (m : Int) := by omega
        have HV := Lib.hid hal'
        clear hR9 hcell hc5 hcm5 hv ha0 ha1 hBg hal'
        subst e5
        go_upto_region 11 with fail
        go_quiet (fail)
        go_wp2
        go_roundw
        case rel =>
          have hgN : W.heap.size ≤ g := own_ge HR.out.1 g rfl
          refine ⟨k + 1, by omega, by go_num, ?_, (HR.out.2.1.trans ⟨rfl, rfl, rfl, Nat.le_refl _, fun _ _ => rfl⟩ : Below W.heap.size W (w2.drewN _)).setCell (p := ⟨g, a, none⟩) hgN _⟩
          rw [HM.out.1]
          unfold mstepE
          rw [if_pos (.inr rfl)]
          show World.ownsRow _ _ _ _ _ _ ((mem.set (a : Int).toNat vl).map _)
          rw [Int.toNat_natCast, List.map_set]
          have hR10 := own_below HR.out.1 (Nat.le_refl _) (⟨rfl, rfl, rfl, Nat.le_refl _, fun _ _ => rfl⟩ : Below w2.heap.size w2 (w2.drewN nq))
          rw [← HM.out.2.2] at hR10 ⊢
          obtain ⟨g', cap', e', _, _, _, _, hrow, _⟩ := row_set hR10 HV.out (.int .u32 vl)
          injection e' with e1 _ _
          injection e1 with e1
          injection e1 with e1 _ _
          subst e1
          exact hrow
        case measure => simp [intOf]; omega
      by_cases h8 : kd = 8
      · subst h8
        obtain ⟨⟨ha0, ha1⟩, hv⟩ := HS.out.1.wait rfl
        dsimp only at ha0 ha1 hv
        obtain ⟨a, rfl⟩ : ∃ a : Nat, ad = (a : Int) := ⟨ad.toNat, by omega⟩
        rw [HM.out.2.1, Int.toNat_natCast] at hv
        have ham' : a < m := by rw [List.length_map, List.length_range] at ha1; omega
        have hR9 := HR.out.1
        rw [← HM.out.2.2] at hR9
        obtain ⟨g, cap5, e5, hc5, hcm5, _, hcell, _, _⟩ := row_set hR9 (show a < mem.length by rw [HM.out.2.2]; exact ham') (.int .u32 0)
        have z5 := hcell (.int .u32 vl) (by rw [← hv]; simp [List.getElem?_eq_getElem (show a < mem.length by rw [HM.out.2.2]; exact ham'), List.getD_eq_getElem?_getD])
        rw [HM.out.2.2] at e5
        have a0 : ¬ (a : Int) < 0 := by omega
        have a1 : ¬ (m : Int) ≤ (a : Int) := by omega
        have a2 : (0 : Int) ≤ (a : Int) := by omega
        have a3 : (a : Int) < (m : Int) := by omega
        have HV := Lib.hid hv
        clear hR9 hcell hc5 hcm5 hv ha0 ha1
        subst e5
        go_upto_region 15 with fail
        go_quiet (fail)
        go_wp2
        go_roundw
        case rel =>
          refine ⟨k + 1, by omega, by go_num, ?_, HR.out.2.1.trans ⟨rfl, rfl, rfl, Nat.le_refl _, fun _ _ => rfl⟩⟩
          rw [HM.out.1]
          unfold mstepE
          rw [if_neg (by intro q; have q' : (8 : Int) = 3 ∨ (8 : Int) = 4 := q; omega)]
          exact own_below HR.out.1 (Nat.le_refl _) ⟨rfl, rfl, rfl, Nat.le_refl _, fun _ _ => rfl⟩
        case measure => simp [intOf]; omega
      by_cases h1 : kd = 1
      · subst h1
        obtain ⟨⟨ha0, ha1⟩, hv⟩ := HS.out.1.load rfl
        dsimp only at ha0 ha1 hv
        obtain ⟨a, rfl⟩ : ∃ a : Nat, ad = (a : Int) := ⟨ad.toNat, by omega⟩
        have ham' : a < m := by rw [List.length_map, List.length_range] at ha1; omega
        have HV := Lib.hid hv
        clear ha0 ha1 hv
        go_upto_region 18 with fail
        have hsx := slice_hi b off n k ecap (Nat.le_of_lt hkn) hcap (by omega)
        have cW' := own_any (some ⟨b, off, none⟩) ecap (l.take k) k HS.out.2.1 (by omega) wh (a : Int) w2.drew (HS.out.2.2.step (below_drew _))
        have HX' := Lib.hid (And.intro HR.out.2.2.drew (And.intro (show xb < w2.drew.heap.size from HR.out.2.2.lt) (below_drew w2)))
        refine startG (fun W' => Below w2.drew.heap.size w2.drew W') 12 (by kernel_rfl) ?_
        have hsz0 : w2.heap.size ≤ w2.drew.heap.size := Nat.le_refl _
        generalize w2.drew = W0 at HX' cW' hsz0 ⊢
        have hH : Below W0.heap.size W0 W0 := Below.refl _ _
        refine takeG0 (i := 0) (v := .slice (some ⟨b, off, none⟩) n ecap) rfl (by kernel_rfl) (by kernel_rfl) (by kernel_rfl) (by kernel_rfl) (fun _ _ _ h => h) (Or.inl ⟨by rfl, fun W hW => by go_simp⟩) hH ?_
        simp only [Act.put, List.getElem_toArray, List.getElem_cons_zero, List.getElem_cons_succ, List.setIfInBounds_toArray, List.set_cons_zero, List.set_cons_succ]
        refine takeG0 (i := 1) (v := .int .i64 (k : Int)) rfl (by kernel_rfl) (by kernel_rfl) (by kernel_rfl) (by kernel_rfl) (fun _ _ _ h => h) (Or.inl ⟨by rfl, fun W hW => by go_simp⟩) hH ?_
        simp only [Act.put, List.getElem_toArray, List.getElem_cons_zero, List.getElem_cons_succ, List.setIfInBounds_toArray, List.set_cons_zero, List.set_cons_succ]
        refine takeG0 (i := 2) (v := .slice (some ⟨b, off, none⟩) k ecap) rfl (by kernel_rfl) (by kernel_rfl) (by kernel_rfl) (by kernel_rfl) (fun _ _ _ h => h) (Or.inl ⟨by rfl, fun W hW => by go_simp⟩) hH ?_
        simp only [Act.put, List.getElem_toArray, List.getElem_cons_zero, List.getElem_cons_succ, List.setIfInBounds_toArray, List.set_cons_zero, List.set_cons_succ]
        refine takeG0 (i := 3) (v := .pointer (some ⟨xb, 1, none⟩)) rfl (by kernel_rfl) (by kernel_rfl) (by kernel_rfl) (by kernel_rfl) (fun _ _ _ h => h) (Or.inl ⟨by rfl, fun W hW => by go_simp⟩) hH ?_
        simp only [Act.put, List.getElem_toArray, List.getElem_cons_zero, List.getElem_cons_succ, List.setIfInBounds_toArray, List.set_cons_zero, List.set_cons_succ]
        refine takeG (i := 4) (v := .int .i64 wh) rfl (by kernel_rfl) (by kernel_rfl) (by kernel_rfl) (by kernel_rfl) (fun _ _ _ h => h) (Or.inl ⟨by rfl, fun W hW => by have q0 := (HX'.out.1.below hW HX'.out.2.1).cell 1; go_simp⟩) hH ?_
        simp only [Act.put, List.getElem_toArray, List.getElem_cons_zero, List.getElem_cons_succ, List.setIfInBounds_toArray, List.set_cons_zero, List.set_cons_succ]
        refine takeG0 (i := 5) (v := .pointer (some ⟨xb, 3, none⟩)) rfl (by kernel_rfl) (by kernel_rfl) (by kernel_rfl) (by kernel_rfl) (fun _ _ _ h => h) (Or.inl ⟨by rfl, fun W hW => by go_simp⟩) hH ?_
        simp only [Act.put, List.getElem_toArray, List.getElem_cons_zero, List.getElem_cons_succ, List.setIfInBounds_toArray, List.set_cons_zero, List.set_cons_succ]
        refine takeG (i := 6) (v := .int .i64 (a : Int)) rfl (by kernel_rfl) (by kernel_rfl) (by kernel_rfl) (by kernel_rfl) (fun _ _ _ h => h) (Or.inl ⟨by rfl, fun W hW => by have q0 := (HX'.out.1.below hW HX'.out.2.1).cell 3; go_simp⟩) hH ?_
        simp only [Act.put, List.getElem_toArray, List.getElem_cons_zero, List.getElem_cons_succ, List.setIfInBounds_toArray, List.set_cons_zero, List.set_cons_succ]
        obtain ⟨r1, hr1⟩ : ∃ r, (fnB (waitL (l.take k) wh) (a : Int)).1 = r := ⟨_, rfl⟩
        obtain ⟨r2, hr2⟩ : ∃ r, (if (fnB (waitL (l.take k) wh) (a : Int)).2 = true then (1 : Int) else 0) = r := ⟨_, rfl⟩
        rw [hr1, hr2] at cW'
        have HRR := Lib.hid (And.intro hr1 hr2)
        clear hr1 hr2
        refine onlyG (i := 7) (by kernel_rfl) rfl (fun K hK => ?_)
        go_simp
        with_reducible refine cW'.mono ?_
        rintro e W6 ⟨rfl, hb6⟩
        have HQ := Lib.hid (And.intro hb6 (HX'.out.1.below hb6 HX'.out.2.1))
        have hb6' := hb6
        refine hK.out _ _ hb6 (fun _ => ?_)
        clear hK K cW' hb6 hH hsx
        try simp only [Act.put, List.getElem_toArray, List.getElem_cons_zero, List.getElem_cons_succ, List.setIfInBounds_toArray, List.set_cons_zero, List.set_cons_succ]
        refine takeG0 (i := 8) (v := .tuple #[.int .u32 r1, .int .i64 r2]) rfl (by kernel_rfl) (by kernel_rfl) (by kernel_rfl) (by kernel_rfl) (fun _ _ _ h => h) (Or.inl ⟨by rfl, fun W hW => by go_simp⟩) hb6' ?_
        simp only [Act.put, List.getElem_toArray, List.getElem_cons_zero, List.getElem_cons_succ, List.setIfInBounds_toArray, List.set_cons_zero, List.set_cons_succ]
        refine takeG0 (i := 9) (v := .int .u32 r1) rfl (by kernel_rfl) (by kernel_rfl) (by kernel_rfl) (by kernel_rfl) (fun _ _ _ h => h) (Or.inl ⟨by rfl, fun W hW => by go_simp⟩) hb6' ?_
        simp only [Act.put, List.getElem_toArray, List.getElem_cons_zero, List.getElem_cons_succ, List.setIfInBounds_toArray, List.set_cons_zero, List.set_cons_succ]
        refine takeG0 (i := 10) (v := .int .i64 r2) rfl (by kernel_rfl) (by kernel_rfl) (by kernel_rfl) (by kernel_rfl) (fun _ _ _ h => h) (Or.inl ⟨by rfl, fun W hW => by go_simp⟩) hb6' ?_
        simp only [Act.put, List.getElem_toArray, List.getElem_cons_zero, List.getElem_cons_succ, List.setIfInBounds_toArray, List.set_cons_zero, List.set_cons_succ]
        refine takeG0 (i := 11) (v := .int .u32 r1) rfl (by kernel_rfl) (by kernel_rfl) (by kernel_rfl) (by kernel_rfl) (fun _ _ _ h => h) (Or.inl ⟨by rfl, fun W hW => by go_simp⟩) hb6' ?_
        simp only [Act.put, List.getElem_toArray, List.getElem_cons_zero, List.getElem_cons_succ, List.setIfInBounds_toArray, List.set_cons_zero, List.set_cons_succ]
        refine lastG (by kernel_rfl) rfl (by kernel_rfl) (fun K hK => ?_)
        go_simp
        refine hK.out _ _ ?_
        clear hK K
        have hb26 : Below w2.heap.size w2 W6 := step_belowN HX'.out.2.2 HQ.out.1 hsz0
        have hR6 := own_below HR.out.1 (Nat.le_refl _) hb26
        have hB6 := step_belowN HR.out.2.1 hb26 HR.out.2.1.size
        have x3 := HQ.out.2.cell 3
        have x4 := HQ.out.2.cell 4
        simp only [List.getElem?_toArray, List.getElem?_cons_zero, List.getElem?_cons_succ] at x3 x4
        have hv := HV.out
        unfold seeL at hv
        rw [HM.out.2.1, Int.toNat_natCast] at hv
        have e1 := HRR.out.1
        have e2 := HRR.out.2
        have H6 := Lib.hid (And.intro hR6 hB6)
        by_cases hf : (fnB (waitL (l.take k) wh) (a : Int)).2 = true
        · rw [if_pos hf] at hv e2
          obtain rfl : r1 = vl := e1.symm.trans hv
          obtain rfl : r2 = 1 := e2.symm
          clear hv e1 e2 hf hR6 hB6 hb26
          go_wp2
          go_roundw
          case rel =>
            refine ⟨k + 1, by omega, by go_num, ?_, H6.out.2⟩
            rw [HM.out.1]
            unfold mstepE
            rw [if_neg (by intro q; have q' : (1 : Int) = 3 ∨ (1 : Int) = 4 := q; omega)]
            exact H6.out.1
          case measure => simp [intOf]; omega
        · rw [if_neg hf] at hv e2
          obtain rfl : r2 = 0 := e2.symm
          have hR9 := hR6
          rw [← HM.out.2.2] at hR9
          obtain ⟨g, cap5, e5, hc5, hcm5, _, hcell, _, _⟩ := row_set hR9 (show a < mem.length by rw [HM.out.2.2]; exact ham') (.int .u32 0)
          have z5 := hcell (.int .u32 vl) (by rw [← hv]; simp [List.getElem?_eq_getElem (show a < mem.length by rw [HM.out.2.2]; exact ham'), List.getD_eq_getElem?_getD])
          rw [HM.out.2.2] at e5
          have a0 : ¬ (a : Int) < 0 := by omega
          have a1 : ¬ (m : Int) ≤ (a : Int) := by omega
          have a2 : (0 : Int) ≤ (a : Int) := by omega
          have a3 : (a : Int) < (m : Int) := by omega
          clear hR9 hcell hc5 hcm5 hv e1 e2 hf hR6 hB6 hb26
          subst e5
          go_wp2
          go_roundw
          case rel =>
            refine ⟨k + 1, by omega, by go_num, ?_, H6.out.2⟩
            rw [HM.out.1]
            unfold mstepE
            rw [if_neg (by intro q; have q' : (1 : Int) = 3 ∨ (1 : Int) = 4 := q; omega)]
            exact H6.out.1
          case measure => simp [intOf]; omega
      · have n3 : (kd == 3) = false := by simpa using h3
        have n4 : (kd == 4) = false := by simpa using h4
        have n8 : (kd == 8) = false := by simpa using h8
        have n1 : (kd == 1) = false := by simpa using h1
        go_wp2
        go_roundw
        case rel =>
          refine ⟨k + 1, by omega, by go_num, ?_, HR.out.2.1⟩
          rw [HM.out.1]
          unfold mstepE
          rw [if_neg (by intro q; exact q.elim h3 h4)]
          exact HR.out.1
        case measure => simp [intOf]; omega
    · obtain rfl : n = k := by omega
      have hk1 : ¬ (n : Int) < (n : Int) := by omega
      have HF := Lib.hid hB
      clear hB hR
      go_wp2
      go_ret
      exact ⟨rfl, HF.out⟩
end Go.Proofs.YtjmnogpnjombgaaDoor

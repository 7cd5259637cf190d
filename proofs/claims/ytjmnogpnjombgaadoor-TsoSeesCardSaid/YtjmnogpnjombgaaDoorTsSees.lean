/- TsoSees. -/
import Derived.Test.YtjmnogpnjombgaaDoorTsSees9
import Derived.Test.YtjmnogpnjombgaaDoorTsB3
namespace Go.Proofs.YtjmnogpnjombgaaDoor
open Go.ChangeShapes Go.WideShapes Go.ChangeAt Go.RowKit Go.Deep
set_option linter.unusedVariables false
set_option maxRecDepth 100000
set_option linter.unusedSimpArgs false

set_option maxHeartbeats 8000000 in
theorem tsoSees_true (p : Pg) (ho : p.Ok) (A : Option Addr) (n cap : Nat) (F : Nat → Int × Int) (w : World) (hT : Tab w) (ha : p.At w) (hs : SlE w A n 2 (fun i => pkc (F i))) (hnm : n ≤ 9223372036854775807) :
    Calls Tryd.prog 8 #[p.val, .slice A n cap] w fun e w' => e = .returned (.bool true) ∧ Below w.heap.size w w' := by
  have hN := hT.1
  have hal := (Below.refl w.heap.size w).alloc (Nat.le_refl _) (.cells #[.slice p.A p.n p.cap, .slice p.mA p.m p.mcap, .int .i64 p.room] 63)
  have hq := Blk.new w 63 #[.slice p.A p.n p.cap, .slice p.mA p.m p.mcap, .int .i64 p.room]
  have cA := awake_any _ (hT.step hal)
  obtain ⟨pb, hpb⟩ : ∃ pb, w.heap.size = pb := ⟨_, rfl⟩
  rw [hpb] at hq
  have HPB := Lib.hid hpb
  have HH := Lib.hid (And.intro hal (And.intro hq (And.intro hT (And.intro ha (And.intro hs ho)))))
  unfold Pg.val
  clear hal hq hT ha hs ho
  go_enter Tryd.func8, Tryd.ntmps8
  go_wp2_with fail
  try rw [hpb]
  clear hpb
  with_reducible refine cA.mono ?_
  rintro e W1 ⟨rfl, hB1⟩
  have hq1 := HH.out.2.1.below hB1 HH.out.2.1.lt
  have hBw1 := step_below HH.out.1 hB1
  have cF := few_any 400 (by decide) p HH.out.2.2.2.2.2 W1 (HH.out.2.2.2.1.step hBw1)
  unfold Pg.val at cF
  rw [show ((400 : Nat) : Int) = 400 from rfl] at cF
  have HB1 := Lib.hid hBw1
  clear cA hB1 hBw1
  go_wp2_with (refine wpList_load_rowG (by rfl) 63 (.tmp 2) rfl _ rfl 63 #[.slice p.A p.n p.cap, .slice p.mA p.m p.mcap, .int .i64 p.room] (0, 0) _ hq1 Tryd.underlying63 rfl pgz_info ?_)
  with_reducible refine cF.mono ?_
  rintro e W2 ⟨⟨r, rfl⟩, hB2⟩
  have hq2 := hq1.below hB2 hq1.lt
  have HB2 := Lib.hid (step_below HB1.out hB2)
  clear cF hB2 hq1
  by_cases hsm : r = true ∧ n ≤ 600
  case neg =>
    have cA := awake_any W2 (HH.out.2.2.1.step HB2.out)
    rcases Decidable.em (r = true) with hr | hr
    case' inl =>
      subst hr
      have hn6 : (600 : Int) < (n : Int) := by
        have : ¬ n ≤ 600 := fun h => hsm ⟨rfl, h⟩
        omega
    case' inr =>
      obtain rfl : r = false := by simpa using hr
    all_goals
      clear hsm hq2
      try clear hr
      go_wp2_with fail
      with_reducible refine cA.mono ?_
      rintro e W3 ⟨rfl, hB3⟩
      have HB3 := Lib.hid (step_below HB2.out hB3)
      clear cA hB3
      go_wp2
      go_ret
      exact ⟨rfl, HB3.out⟩
  case pos =>
    obtain ⟨rfl, hn6⟩ := hsm
    have hn6' : ¬ (600 : Int) < (n : Int) := by omega
    obtain ⟨tt, jj, ee, hchk⟩ := chk_some p
    by_cases hee : ee = 0
    case neg =>
      have cN := tsoNew_bad p HH.out.2.2.2.2.2 tt jj ee hchk hee W2 (HH.out.2.2.1.step HB2.out) (HH.out.2.2.2.1.step HB2.out)
      unfold Pg.val at cN
      have hee' : (ee != 0) = true := by simpa using hee
      clear hchk hee
      go_wp2_with (refine wpList_load_row rfl 63 (.tmp 2) rfl _ rfl 63 #[.slice p.A p.n p.cap, .slice p.mA p.m p.mcap, .int .i64 p.room] (0, 0) _ hq2 Tryd.underlying63 rfl pgz_info ?_)
      with_reducible refine cN.mono ?_
      rintro e W3 ⟨rfl, hB3⟩
      have HB3 := Lib.hid (step_below HB2.out hB3)
      clear cN hB3 hq2
      go_wp2
      go_ret
      exact ⟨rfl, HB3.out⟩
    case pos =>
      subst hee
      have hsmall := hchk.small
      have cN := tsoNew_ok p HH.out.2.2.2.2.2 tt jj hchk W2 (HH.out.2.2.1.step HB2.out) (HH.out.2.2.2.1.step HB2.out)
      unfold Pg.val at cN
      clear hchk
      go_wp2_with (refine wpList_load_row rfl 63 (.tmp 2) rfl _ rfl 63 #[.slice p.A p.n p.cap, .slice p.mA p.m p.mcap, .int .i64 p.room] (0, 0) _ hq2 Tryd.underlying63 rfl pgz_info ?_)
      with_reducible refine cN.mono ?_
      rintro e W3 ⟨B, rfl, hNM, hro, hI, hB3⟩
      have hq3 := hq2.below hB3 hq2.lt
      have hBw3 := step_below HB2.out hB3
      have hsz : w.heap.size ≤ W2.heap.size := HB2.out.size
      have hsl3 := SlE.step HH.out.2.2.2.2.1 hBw3
      have hold := sle_old HH.out.2.2.2.2.1
      have hMB := newM_ok hNM hsmall.2.1 hsmall.2.2.1
      have hsok := t0_ok HH.out.2.2.2.2.2 hNM
      have hr16 : B.room ≤ 16 := by rw [hro]; exact hsmall.2.2.2.2.1
      have hscan : mCan B (3 + 3 * n) (t0 p) := t0_can hsmall.2.1 _ (by omega)
      have cR := trun_any B hMB (t0 p) hr16 hsok A n cap F hscan _ W3 hI (HH.out.2.2.1.step hBw3) hsl3 (fun hn b o e hb => by have h1 := hold hn b o e; have h2 := hb.1; omega) (by omega)
      have HR := Lib.hid (And.intro hNM (And.intro hMB (And.intro hsok (And.intro hBw3 (And.intro hq3 hsmall)))))
      have HS3 := Lib.hid (And.intro hsz (And.intro hB3.size hq2.lt))
      have HR16 := Lib.hid hr16
      clear cN hNM hI hr16 hro hB3 hq2 hq3 hBw3 hsz hsl3 hold hMB hsok hscan hsmall
      go_wp2_with fail
      with_reducible refine cR.mono ?_
      rintro e W4 ⟨⟨u, rfl⟩, hM4⟩
      have hev := tinv_run HR.out.2.1 (M0 := (List.range p.m).map p.Z) (by rw [HR.out.1.m]; simp) ((List.range n).map F) (t0 p) (tinv_start p) HR.out.2.2.1
      have hcan4 := tRun_can HR.out.2.1 HR16.out ((List.range n).map F) (t0 p) 0 HR.out.2.2.1 (t0_can HR.out.2.2.2.2.2.2.1 _ (by rw [List.length_map, List.length_range]; omega) : mCan B (0 + 3 * ((List.range n).map F).length) (t0 p))
      obtain ⟨s4, hs4⟩ : ∃ s4, tRun B (t0 p) ((List.range n).map F) = s4 := ⟨_, rfl⟩
      rw [hs4] at hM4 hev hcan4
      have hKM := hM4.keep
      have hBw4 : Below w.heap.size w W4 := KeepOut.belowM hKM HR.out.2.2.2.1 (by have h1 := HS3.out.1; have h2 := HS3.out.2.1; omega) (fun i hi => by have h1 := hi.1; have h2 := HS3.out.1; omega)
      have hq4 : Blk W4 pb 63 #[.slice p.A p.n p.cap, .slice p.mA p.m p.mcap, .int .i64 p.room] := hKM.blk HR.out.2.2.2.2.1 (fun hb => by have h1 := hb.1; have h2 := HS3.out.2.2; omega)
      obtain ⟨own4, hI4⟩ := hM4.inv
      have hm4 := (HH.out.2.2.2.1.step hBw4).mem
      have hI5 := hI4.below (below_drew W4)
      have hq5 := hq4.drew
      have hB5 : Below w.heap.size w W4.drew := hBw4.drew
      have hm5 : Sl W4.drew p.mA p.m (fun i => .int .u32 (p.Z i)) := hm4
      have H5 := Lib.hid (And.intro hI5 (And.intro hev (And.intro hcan4 (And.intro hB5 (And.intro hq5 (And.intro hq5.lt hm5))))))
      clear cR hM4 hs4 hKM hBw4 hq4 hI4 hm4 hI5 hq5 hB5 hm5 hev hcan4
      go_wp2
      refine startG (fun W' => Below W4.drew.heap.size W4.drew W') 6 (by kernel_rfl) ?_
      generalize W4.drew = W0 at H5 ⊢
      have hH : Below W0.heap.size W0 W0 := Below.refl _ _
      refine takeG0 (i := 0) (v := .pointer (some ⟨B.mb, 0, none⟩)) rfl (by kernel_rfl) (by kernel_rfl) (by kernel_rfl) (by kernel_rfl) (fun _ _ _ h => h) (Or.inl ⟨by rfl, fun W hW => by go_simp⟩) hH ?_
      simp only [Act.put, List.getElem_toArray, List.getElem_cons_zero, List.getElem_cons_succ, List.setIfInBounds_toArray, List.set_cons_zero, List.set_cons_succ]
      refine takeG0 (i := 2) (v := .pointer (some ⟨pb, 1, none⟩)) rfl (by kernel_rfl) (by kernel_rfl) (by kernel_rfl) (by kernel_rfl) (fun _ _ _ h => h) (Or.inl ⟨by rfl, fun W hW => by go_simp⟩) hH ?_
      simp only [Act.put, List.getElem_toArray, List.getElem_cons_zero, List.getElem_cons_succ, List.setIfInBounds_toArray, List.set_cons_zero, List.set_cons_succ]
      refine takeT (i := 3) (v := .slice p.mA p.m p.mcap) rfl (by kernel_rfl) (by kernel_rfl) (by kernel_rfl) (by kernel_rfl) (fun _ _ _ h => h) (Or.inl ⟨by rfl, fun W hW => by have q0 := (H5.out.2.2.2.2.1.below hW H5.out.2.2.2.2.2.1).cell 1; go_simp⟩) hH ?_
      simp only [Act.put, List.getElem_toArray, List.getElem_cons_zero, List.getElem_cons_succ, List.setIfInBounds_toArray, List.set_cons_zero, List.set_cons_succ]
      refine onlyG (i := 1) (by kernel_rfl) rfl (fun K hK => ?_)
      go_simp
      have cE := tevents_any B s4 own4 W0 H5.out.1 (by have := H5.out.2.2.1.evs; omega)
      with_reducible refine cE.mono ?_
      rintro e W6 ⟨ev, rfl, hev6, hb6⟩
      have hb6' : Below W0.heap.size W0 W6 := hb6
      obtain ⟨eA, ecap, rfl, hec, hsl6⟩ := own_sle Evt.cells (fun _ => rfl) evz s4.evs hev6
      have HE := Lib.hid (And.intro hsl6 hb6)
      refine hK.out _ _ hb6' (fun _ => ?_)
      clear hK K cE hb6 hev6 hsl6 hH
      try simp only [Act.put, List.getElem_toArray, List.getElem_cons_zero, List.getElem_cons_succ, List.setIfInBounds_toArray, List.set_cons_zero, List.set_cons_succ]
      refine onlyG (i := 4) (by kernel_rfl) rfl (fun K hK => ?_)
      go_simp
      have cS := sees9_any eA ecap s4.evs s4.evs.length rfl (by have := H5.out.2.2.1.evs; omega) hec p.mA p.m p.mcap HR.out.2.2.2.2.2.2.2.1 p.Z (fun i hi => HH.out.2.2.2.2.2.z0 i hi) W6 HE.out.1 (H5.out.2.2.2.2.2.2.below (Nat.le_refl _) HE.out.2) H5.out.2.1.ev
      with_reducible refine cS.mono ?_
      rintro e W7 ⟨rfl, hb7⟩
      have hb7' : Below W0.heap.size W0 W7 := step_below hb6' hb7
      have HF := Lib.hid (step_belowN H5.out.2.2.2.1 hb7' H5.out.2.2.2.1.size)
      refine hK.out _ _ hb7' (fun _ => ?_)
      clear hK K cS hb7 hb6'
      try simp only [Act.put, List.getElem_toArray, List.getElem_cons_zero, List.getElem_cons_succ, List.setIfInBounds_toArray, List.set_cons_zero, List.set_cons_succ]
      refine takeG0 (i := 5) (v := .bool true) rfl (by kernel_rfl) (by kernel_rfl) (by kernel_rfl) (by kernel_rfl) (fun _ _ _ h => h) (Or.inl ⟨by rfl, fun W hW => by go_simp⟩) hb7' ?_
      simp only [Act.put, List.getElem_toArray, List.getElem_cons_zero, List.getElem_cons_succ, List.setIfInBounds_toArray, List.set_cons_zero, List.set_cons_succ]
      refine lastG (by kernel_rfl) rfl (by kernel_rfl) (fun K hK => ?_)
      go_simp
      refine hK.out _ _ ?_
      clear hK K hb7'
      go_wp2
      go_ret
      exact ⟨rfl, HF.out⟩
end Go.Proofs.YtjmnogpnjombgaaDoor

/- SeqOne: the law. Structs of bytes, opened at once. A law over the two tables of package isa and the names of package obj (XCard, with a table more): what the row's list gives, a world for the witness, the row's step, the card. SeqOne: one writes at a time; nothing that was written is lost: the card. -/
import Derived.Test.YtmhfpjnkjlhbpaaGreatDoorQb38
import Derived.Test.YtmhfpjnkjlhbpaaGreatDoorQb39
import Derived.Deep.DeepMust
import Derived.Test.YtmhfpjnkjlhbpaaGreatDoorQb02
import Derived.Lib.SmallJoins
import Derived.Test.YtmhfpjnkjlhbpaaGreatDoorQb03
import Derived.Test.YtmhfpjnkjlhbpaaGreatDoorQb35
import Derived.Test.YtmhfpjnkjlhbpaaGreatDoorCards
import Derived.Test.YtmhfpjnkjlhbpaaGreatDoorTie
namespace Go.Proofs.YtmhfpjnkjlhbpaaGreatDoor
open Go.ChangeShapes Go.WideShapes Go.ChangeAt Go.RowKit Go.Deep
set_option linter.unusedVariables false
set_option maxRecDepth 100000
set_option linter.unusedSimpArgs false

theorem case_info : (Tryz.prog.info? 23).map (·.size) = some 5 := by kernel_rfl
set_option maxHeartbeats 40000000 in
theorem seqOne_true (a b c d e : Nat) (h255 : a ≤ 255 ∧ b ≤ 255 ∧ c ≤ 255 ∧ d ≤ 255 ∧ e ≤ 255) (sA : Option Addr) (sn scap : Nat) (Y : Nat → Int) (hsn : sn ≤ scap) (hsm : scap ≤ maxLen) (hy : ∀ i, i < sn → 0 ≤ Y i ∧ Y i ≤ 255) 
    (w : World) (hT : Tab w) (hss : Sl w sA sn (fun i => .int .u8 (Y i))) :
    Calls Tryz.prog 3 #[.agg #[.int .u8 (a : Int), .int .u8 (b : Int), .int .u8 (c : Int), .int .u8 (d : Int), .int .u8 (e : Int)], .slice sA sn scap] w fun ed w' => ed = .returned (.bool true) ∧ Below w.heap.size w w' := by
  have hal := (Below.refl w.heap.size w).alloc (Nat.le_refl _) (.cells #[.int .u8 (a : Int), .int .u8 (b : Int), .int .u8 (c : Int), .int .u8 (d : Int), .int .u8 (e : Int)] 23)
  have cA := awake19 _ (hT.step hal)
  have hX := Blk.new w 23 #[.int .u8 (a : Int), .int .u8 (b : Int), .int .u8 (c : Int), .int .u8 (d : Int), .int .u8 (e : Int)]
  have HI := Lib.hid (And.intro hT (And.intro hss (And.intro hy (And.intro hsn (And.intro hsm h255)))))
  have HW := Lib.hid (And.intro hX (And.intro hal (And.intro (hss.step hal) (hT.step hal))))
  clear hX hal hT hss hy hsn hsm h255
  obtain ⟨xb, hxb⟩ : ∃ xb, w.heap.size = xb := ⟨_, rfl⟩
  have HX0 := Lib.hid hxb.symm
  generalize hW1 : w.alloc (.cells #[.int .u8 (a : Int), .int .u8 (b : Int), .int .u8 (c : Int), .int .u8 (d : Int), .int .u8 (e : Int)] 23) = W1 at cA HW
  rw [hxb] at HW
  go_enter Tryz.func3, Tryz.ntmps3
  go_wp2_with fail
  try rw [hW1]
  try rw [hxb]
  by_cases h3000 : sn ≤ 3000
  case neg =>
    have h3 : ((3000 : Int) < (sn : Int)) := by omega
    with_reducible refine cA.mono ?_
    rintro ed Wa ⟨rfl, hB⟩
    have cA2 := awake19 Wa (HW.out.2.2.2.step hB)
    have HB := Lib.hid hB
    clear cA hB
    go_wp2_with fail
    with_reducible refine cA2.mono ?_
    rintro ed Wb ⟨rfl, hB2⟩
    clear cA2
    go_wp2
    go_ret
    rw [hxb]
    exact ⟨rfl, (HW.out.2.1.trans (HB.out.mono (by have := HW.out.2.1.size; omega))).trans (hB2.mono (by have := HW.out.2.1.size; have := HB.out.size; omega))⟩
  case pos =>
    have h3 : ¬ ((3000 : Int) < (sn : Int)) := by omega
    with_reducible refine cA.mono ?_
    rintro ed Wa ⟨rfl, hB⟩
    clear cA hW1
    have hX := HW.out.1.below hB HW.out.1.lt
    have hBa : Below xb w Wa := HW.out.2.1.trans (hB.mono (by have := HW.out.2.1.size; omega))
    have cM := seqMk_any a b c d e HI.out.2.2.2.2.2 Wa (HW.out.2.2.2.step hB)
    obtain ⟨N, hN⟩ : ∃ N, 1 + a % 3 = N := ⟨_, rfl⟩
    obtain ⟨Wn, hWn⟩ : ∃ N, 1 + b % 2 = N := ⟨_, rfl⟩
    obtain ⟨R, hRn⟩ : ∃ N, 1 + c % 2 = N := ⟨_, rfl⟩
    obtain ⟨rd, hrd⟩ : ∃ N, 1 + d % 3 = N := ⟨_, rfl⟩
    obtain ⟨rm, hrm⟩ : ∃ N, 1 + e % 5 = N := ⟨_, rfl⟩
    rw [hN, hWn, hRn, hrd, hrm] at cM
    have hd255 : d ≤ 255 := HI.out.2.2.2.2.2.2.2.2.1
    have bN : 1 ≤ N ∧ N ≤ 3 := by omega
    have bW : 1 ≤ Wn ∧ Wn ≤ 2 := by omega
    have bR : 1 ≤ R ∧ R ≤ 2 := by omega
    have brd : 1 ≤ rd ∧ rd ≤ 3 := by omega
    have brm : 1 ≤ rm ∧ rm ≤ 5 := by omega
    have HN := Lib.hid (And.intro hN (And.intro hWn (And.intro hRn (And.intro hrd hrm))))
    clear hN hWn hRn hrd hrm
    have hxl := hX.lt
    have HXa := Lib.hid (And.intro hX hBa)
    clear hX hBa hB
    go_wp2_with (refine wpList_load_row rfl 23 (.tmp 2) rfl xb rfl 23 #[.int .u8 (a : Int), .int .u8 (b : Int), .int .u8 (c : Int), .int .u8 (d : Int), .int .u8 (e : Int)] _ _ HXa.out.1 Tryz.underlying23 rfl case_info ?_)
    with_reducible refine cM.mono ?_
    rintro ed Wb ⟨v, mb, base, rfl, hBb, hCk, hSl⟩
    clear cM
    obtain ⟨vA, vc, hve⟩ := hCk.cap
    rw [List.length_map, List.length_range] at hve
    subst hve
    obtain ⟨th, hth⟩ : ∃ th, Wn + R = th := ⟨_, rfl⟩
    obtain ⟨m, hm⟩ : ∃ m, 18 + N = m := ⟨_, rfl⟩
    rw [hth] at hCk
    rw [hm] at hSl
    try rw [hth]
    try rw [hm]
    have bth : 2 ≤ th ∧ th ≤ 4 := by omega
    have bm : m ≤ 21 := by omega
    have halb := (Below.refl Wb.heap.size Wb).alloc (Nat.le_refl _) (.cells #[.slice vA th vc, .slice (some ⟨mb, 0, none⟩) m m, .int .i64 (rm : Int)] 29)
    have hPb := Blk.new Wb 29 #[.slice vA th vc, .slice (some ⟨mb, 0, none⟩) m m, .int .i64 (rm : Int)]
    have hCp := hCk.below halb
    have hSp := hSl.step halb
    have hXp := (HXa.out.1.below hBb HXa.out.1.lt).below halb (by have := (HXa.out.1.below hBb HXa.out.1.lt).lt; exact this)
    have hBp : Below xb w (Wb.alloc (.cells #[.slice vA th vc, .slice (some ⟨mb, 0, none⟩) m m, .int .i64 (rm : Int)] 29)) := (HXa.out.2.trans (hBb.mono (by have := HXa.out.2.size; have := HX0.out; omega))).trans (halb.mono (by have := HXa.out.2.size; have := HX0.out; have := hBb.size; omega))
    obtain ⟨pb, hpb⟩ : ∃ pb, Wb.heap.size = pb := ⟨_, rfl⟩
    rw [hpb] at hPb
    have hpx : pb ≠ xb := by have := (HXa.out.1.below hBb HXa.out.1.lt).lt; omega
    clear hCk hSl halb hBb
    generalize hWp : Wb.alloc (.cells #[.slice vA th vc, .slice (some ⟨mb, 0, none⟩) m m, .int .i64 (rm : Int)] 29) = Wp at hPb hCp hSp hXp hBp
    have hL : ∀ l ∈ (List.range th).map (fun t => sqT N rd t (decide (t < Wn))), ∃ t, t < th ∧ l = sqT N rd t (decide (t < Wn)) := fun l hl => by
      obtain ⟨t, h1, h2⟩ := List.mem_map.1 hl
      exact ⟨t, List.mem_range.1 h1, h2.symm⟩
    have hgd := fun t (ht : t < th) => sqT_good (N := N) (rd := rd) (t := t) (decide (t < Wn)) (by omega) bN.1 bN.2 brd.1 brd.2
    obtain ⟨vA', vc', cds, hv', pO, pC, pA, pcd⟩ := hCp.prog (fun l hl x hx => by obtain ⟨t, h1, rfl⟩ := hL l hl; exact (hgd t h1).1 x hx) (fun l hl x hx => by obtain ⟨t, h1, rfl⟩ := hL l hl; exact (hgd t h1).2.1 x hx)
      (fun l hl => by obtain ⟨t, h1, rfl⟩ := hL l hl; rw [(hgd t h1).2.2]; have h5 := bsQ_le (if decide (t < Wn) = true then sgW N else sgR N) (sqSn N rd (decide (t < Wn))); have h6 := sqSn_le (N := N) bN.2 brd.2 (decide (t < Wn)); omega) (by rw [List.length_map, List.length_range]; omega) (room := (rm : Int)) (by omega) (mA := some ⟨mb, 0, none⟩) (m := m) (mcap := m) (by omega) ⟨Nat.le_refl _, by unfold maxLen; omega⟩ hSp
    rw [List.length_map, List.length_range] at hv' pO pC pA pcd
    injection hv' with e1 _ e2
    subst e1 e2
    obtain ⟨pg, hpg⟩ : ∃ pg, lPg vA th vc cds (some ⟨mb, 0, none⟩) m m (rm : Int) = pg := ⟨_, rfl⟩
    have cN := tsoNew_ok pg (hpg ▸ pO) 0 0 (hpg ▸ pC) Wp (HI.out.1.step (HX0.out ▸ hBp)) (hpg ▸ pA)
    have hpv : pg.val = .agg #[.slice vA th vc, .slice (some ⟨mb, 0, none⟩) m m, .int .i64 (rm : Int)] := by rw [← hpg]; rfl
    rw [hpv] at cN
    have pcd' : ∀ t, t < th → (pg.cd t).len = (sqT N rd t (decide (t < Wn))).length ∧ (pg.cd t).F = fun i => (sqT N rd t (decide (t < Wn))).getD i default := fun t ht => by
      have h := pcd t ht
      have e : ((List.range th).map fun t => sqT N rd t (decide (t < Wn))).getD t [] = sqT N rd t (decide (t < Wn)) := by simp [List.getD_eq_getElem?_getD, List.getElem?_map, List.getElem?_range ht]
      rw [e] at h
      rw [← hpg]
      exact h
    have HPG := Lib.hid (And.intro (hpg ▸ pO) (And.intro (show 1 ≤ pg.room ∧ pg.room ≤ 16 by rw [← hpg]; show 1 ≤ (rm : Int) ∧ (rm : Int) ≤ 16; omega) (And.intro (show pg.m = 18 + N by rw [← hpg]; exact hm.symm) (And.intro (show ∀ i, pg.Z i = 0 by rw [← hpg]; exact fun _ => rfl) (And.intro (show pg.n = Wn + R by rw [← hpg]; exact hth.symm) (fun t (ht : t < pg.n) => pcd' t (by rw [← hpg] at ht; exact ht)))))))
    have HP := Lib.hid (And.intro hPb (And.intro hXp (And.intro hBp (And.intro hpx (And.intro hth hm)))))
    clear hL hgd pO pC pA pcd pcd' hpv hpg hPb hCp hSp hXp hBp hpx hth hm
    have p0 := (HP.out.1.cell 0).trans rfl
    have p1 := (HP.out.1.cell 1).trans rfl
    have p2 := (HP.out.1.cell 2).trans rfl
    go_wp2_with fail
    try rw [hWp]
    try rw [hpb]
    with_reducible refine cN.mono ?_
    rintro ed W6 ⟨B, rfl, hNew, hroom, hI, hB6⟩
    clear cN hWp hpb p0 p1 p2
    have hBok := newM_ok hNew (by rw [HPG.out.2.2.2.2.1]; omega) (by rw [HPG.out.2.2.1]; omega)
    have hOk0 := t0_ok HPG.out.1 hNew
    have hb6 : Below w.heap.size w W6 := step_below (HX0.out ▸ HP.out.2.2.1) hB6
    have hss6 := HI.out.2.1.step hb6
    have hP6 := HP.out.1.below hB6 HP.out.1.lt
    have hX6 := HP.out.2.1.below hB6 HP.out.2.1.lt
    have cR := pickRead_any sA sn scap Y W6 (by omega) hss6 HI.out.2.2.1
    have HM := Lib.hid (And.intro hNew (And.intro hroom (And.intro hI (And.intro hb6 (And.intro hBok (And.intro hOk0 (And.intro hB6 hX6)))))))
    clear hNew hroom hI hB6 hBok hOk0 hb6 hss6 hP6 hX6
    go_wp2_with fail
    with_reducible refine cR.mono ?_
    rintro ed W7 ⟨cs7, rfl, hb7, hs7, hc7, hB7⟩
    clear cR
    obtain ⟨F, hF⟩ : ∃ F : Nat → Int × Int, (fun i => (Y i / 8 % 3, Y i % 8)) = F := ⟨_, rfl⟩
    have hsl : SlE W7 (some ⟨W6.heap.size, 0, none⟩) sn 2 (fun i => pkc (F i)) := fun _ => ⟨_, 0, rfl, hb7.lt, fun i hi j u hu => by
      rw [← hF] at hu
      have hq := hc7 i hi
      have hj : j = 0 ∨ j = 1 := by
        have := (List.getElem?_eq_some_iff.1 hu).1
        have h2 : j < 2 := this
        omega
      rcases hj with rfl | rfl
      · rw [Nat.zero_add, Nat.add_zero, hb7.cell, hq.1]; exact hu
      · rw [Nat.zero_add, hb7.cell, hq.2]; exact hu⟩
    obtain ⟨hNew, hroom, hI6, hb6, hBok, hOk0, hB6, hX6⟩ := HM.out
    have hI7 := hI6.below hB7
    have cQ := trun2_any B hBok (t0 pg) (by rw [hroom]; exact HPG.out.2.1.2) hOk0 (some ⟨W6.heap.size, 0, none⟩) sn sn F (by
      unfold EvC
      show 0 + tot (List.replicate pg.n []) + _ ≤ _
      rw [tot_nil]; omega) _ W7 hI7 (HI.out.1.step (step_below hb6 hB7)) hsl (fun _ b o e q => by injection e with e; injection e with e1 _ _; have := q.2; omega) (by omega)
    have HS := seq_ends HPG.out.1 hNew hroom HPG.out.2.1 bN.1 bN.2 brd.1 brd.2 bW.2 bR.2 HPG.out.2.2.1 HPG.out.2.2.2.1 HPG.out.2.2.2.2.1 HPG.out.2.2.2.2.2 ((List.range sn).map F) (by simp; omega)
    obtain ⟨S, hS⟩ : ∃ S, tRun B (t0 pg) ((List.range sn).map F) = S := ⟨_, rfl⟩
    have hOkS := tRun_ok hBok ((List.range sn).map F) (t0 pg) hOk0
    rw [hS] at cQ HS hOkS
    dsimp only at HS
    have hmS : S.mem.length = 18 + N := by
      rw [← hS, tRun_mem]
      show ((List.range pg.m).map pg.Z).length = _
      rw [List.length_map, List.length_range, HPG.out.2.2.1]
    have HSS := Lib.hid (And.intro HS (And.intro hOkS hmS))
    have hX7 := hX6.below hB7 hX6.lt
    have HB7 := Lib.hid (And.intro hb6 (And.intro (step_below hb6 hB7) (And.intro (show w.heap.size ≤ W6.heap.size from hb6.size) (And.intro hX7 (And.intro hBok (And.intro hNew (show xb < Wp.heap.size from HP.out.2.1.lt)))))))
    clear hb7 hs7 hc7 hsl hNew hroom hI6 hb6 hBok hOk0 hI7 HS hS hF hB7 hOkS hmS hX6 hX7 hB6
    obtain ⟨g6, hg6⟩ : ∃ g6, W6.heap.size = g6 := ⟨_, rfl⟩
    rw [hg6] at cQ HB7
    try rw [hg6]
    clear hg6
    go_wp2_with fail
    with_reducible refine cQ.mono ?_
    rintro ed W8 ⟨⟨u, rfl⟩, hM8⟩
    clear cQ
    obtain ⟨own8, hI8, ho8, hk8⟩ := hM8
    have hb8 : Below w.heap.size w W8 := HB7.out.2.1.trans ⟨hk8.os, hk8.tape, hk8.output, by have h1 := HB7.out.2.1.size; have h2 := hk8.size; exact h2, fun i hi => hk8.block i (Nat.lt_of_lt_of_le hi HB7.out.2.1.size) (fun ho => by have h1 := ho.1; have h2 := HP.out.2.2.1.size; have h3 := HX0.out; omega)⟩
    have hX8 : Blk W8 xb 23 #[.int .u8 (a : Int), .int .u8 (b : Int), .int .u8 (c : Int), .int .u8 (d : Int), .int .u8 (e : Int)] := (hk8.block xb HB7.out.2.2.2.1.lt (fun ho => by have h1 := ho.1; have h2 := HB7.out.2.2.2.2.2.2; omega)).trans HB7.out.2.2.2.1
    have cV := tevents_any B S own8 W8 hI8 (by have := HSS.out.1.2.1; omega)
    have HB8 := Lib.hid (And.intro hb8 (And.intro hI8 hX8))
    have x3 := (hX8.cell 3).trans rfl
    have td : Int.tmod (d : Int) 3 = ((rd : Int) - 1) := by have := HN.out.2.2.2.1; rw [Int.tmod_eq_emod_of_nonneg (by omega)]; omega
    have ur : (1 : Int) + ((rd : Int) - 1) = (rd : Int) := by omega
    clear hI8 ho8 hk8 hb8 hX8
    go_wp2_with fail
    with_reducible refine cV.mono ?_
    rintro ed W9 ⟨ve, rfl, hr9, hB9⟩
    clear cV x3
    obtain ⟨AE, cE, rfl, _, hslE⟩ := own_sle Evt.cells (fun _ => rfl) ev0 S.evs hr9
    have hone : oneF S.evs ≠ none := by
      obtain ⟨g, H⟩ := HSS.out.1.2.2.1
      have e : oneF S.evs = some (curW g.iw) := H.one
      rw [e]; simp
    have cO := One_any AE S.evs.length cE S.evs rfl (by have := HSS.out.1.2.1; omega) W9 hslE hone
    have HB9 := Lib.hid (And.intro (step_below HB8.out.1 hB9) (HB8.out.2.1.below hB9))
    clear hr9 hslE hB9 hone
    go_wp2_with fail
    with_reducible refine cO.mono ?_
    rintro ed Wa1 ⟨rfl, hBa1⟩
    clear cO
    have hIa := HB9.out.2.below hBa1
    have hths : S.ths.length = th := by have h1 := HSS.out.2.1.ok.nt; have h2 := HB7.out.2.2.2.2.2.1.n; have h3 := HPG.out.2.2.2.2.1; have h4 := HP.out.2.2.2.2.1; omega
    have hbl : S.bufs.length = S.ths.length := by rw [HSS.out.2.1.bl, HSS.out.2.1.ok.nt]
    have cD := tdone_any B S own8 Wa1 hIa (by omega) (by omega) hbl
    have HBa := Lib.hid (And.intro (step_below HB9.out.1 hBa1) (And.intro hIa (And.intro hths hbl)))
    clear hBa1 hIa hths hbl
    go_wp2_with fail
    with_reducible refine cD.mono ?_
    rintro ed Wd ⟨rfl, hBd⟩
    clear cD
    cases hdn : doneM S with
    | false =>
      have HBd := Lib.hid (step_below HBa.out.1 hBd)
      clear hBd
      go_wp2
      go_ret
      exact ⟨rfl, by have K := HBd.out; first | exact K | (rw [hxb] at K; exact K)⟩
    | true =>
      have hall : ∀ t, t < pg.n → (thM S t).st = 2 ∧ bufM S t = [] := fun t ht => by
        have ht' : t < Wn + R := by rw [← HPG.out.2.2.2.2.1]; exact ht
        have h1 : doneT S t = true := doneM_at hdn (by rw [HBa.out.2.2.1, ← HP.out.2.2.2.2.1]; exact ht')
        obtain ⟨g, H⟩ := HSS.out.1.2.2.1
        exact doneT_two h1 (by obtain ⟨n, o, _, q | q⟩ := H.loc t ht'; exact q.2.1.elim .inl (fun z => .inr (.inl z)); exact q.2.2.1.elim .inl (fun z => .inr (.inr z)))
      obtain ⟨m18, m16, m17⟩ := HSS.out.1.2.2.2 hall
      have hml : S.mem.length = m := HSS.out.2.2.trans HP.out.2.2.2.2.2
      obtain ⟨q, hq⟩ : ∃ q, Wn * rd = q := ⟨_, rfl⟩
      have hq6 : q ≤ 6 := by rw [← hq]; exact Nat.mul_le_mul bW.2 brd.2
      rw [hq] at m18 m16
      have uq : (Wn : Int) * (rd : Int) = (q : Int) := by rw [← hq]; exact (Int.natCast_mul _ _).symm
      have hmN : 18 < m := by have := HP.out.2.2.2.2.2; omega
      have hm18 : (18 : Int) < (m : Int) := by omega
      have HID := Lib.hid (HBa.out.2.1.below hBd)
      have HBd := Lib.hid (step_below HBa.out.1 hBd)
      have HMM := Lib.hid (And.intro m18 (And.intro m16 (And.intro m17 (And.intro hml (And.intro hq hm18)))))
      have cM1 := tmem_any B S own8 Wd HID.out (by rw [hml]; omega)
      clear m18 m16 m17 hml hq hBd hall
      go_wp2_with fail
      with_reducible refine cM1.mono ?_
      rintro ed Wm1 ⟨v1, rfl, hr1, hB1⟩
      obtain ⟨b1, o1, c1, rfl, hl1, hx1⟩ := mem_cells hr1 HMM.out.2.2.2.1 (by omega)
      have y1 := hx1 18 (by omega)
      rw [HMM.out.1] at y1
      have HB1 := Lib.hid (step_below HBd.out hB1)
      have cM2 := tmem_any B S own8 Wm1 (HID.out.below hB1) (by rw [HMM.out.2.2.2.1]; omega)
      have HI1 := Lib.hid (HID.out.below hB1)
      clear cM1 hr1 hx1 hB1 hl1
      go_wp2_with fail
      with_reducible refine cM2.mono ?_
      rintro ed Wm2 ⟨v2, rfl, hr2, hB2⟩
      obtain ⟨b2, o2, c2, rfl, hl2, hx2⟩ := mem_cells hr2 HMM.out.2.2.2.1 (by omega)
      have y2 := hx2 16 (by omega)
      rw [HMM.out.2.1] at y2
      have HB2 := Lib.hid (step_below HB1.out hB2)
      have cM3 := tmem_any B S own8 Wm2 (HI1.out.below hB2) (by rw [HMM.out.2.2.2.1]; omega)
      clear cM2 hr2 hx2 hB2 hl2 y1
      go_wp2_with fail
      with_reducible refine cM3.mono ?_
      rintro ed Wm3 ⟨v3, rfl, hr3, hB3⟩
      obtain ⟨b3, o3, c3, rfl, hl3, hx3⟩ := mem_cells hr3 HMM.out.2.2.2.1 (by omega)
      have y3 := hx3 17 (by omega)
      rw [HMM.out.2.2.1] at y3
      have HB3 := Lib.hid (step_below HB2.out hB3)
      clear cM3 hr3 hx3 hB3 hl3 y2
      go_wp2
      go_ret
      exact ⟨rfl, by have K := HB3.out; first | exact K | (rw [hxb] at K; exact K)⟩
end Go.Proofs.YtmhfpjnkjlhbpaaGreatDoor
namespace Go.Proofs.YtmhfpjnkjlhbpaaGreatDoor
open Go.Joins Go.ChangeShapes Go.WideShapes Go.ChangeAt Go.RowKit Go.Deep
set_option linter.unusedVariables false
set_option maxRecDepth 100000
set_option linter.unusedSimpArgs false

section
variable {H : Type} {enc : TypeId × Value → H} {P : Program} {w : World} {base : Nat} {spare : Nat → Bool} {held : Bool}
theorem agg_u8 {r : Reach} {b0 : Nat} {t : TypeId} {fs : Array Field} {v : Value} {d : DataW H} {p : List MemPlace} (hs : P.underlying t = some (.struct fs)) (hone : oneCellFields P fs = true) (hC : P.cellsOf t = fs.size)
    (hk : ∀ (i : Nat) (f : Field), fs[i]? = some f → P.underlying f.type = some (.int .u8))
    (hv : Value.okWide P w r b0 t v) (h : DataW.Trod enc P w base spare held t v d p) :
    ∃ l : List Nat, l.length = fs.size ∧ v = .agg (l.map fun n : Nat => Value.int .u8 (n : Int)).toArray ∧ ∀ n ∈ l, n ≤ 255 := by
  obtain ⟨cs, rfl, hsz⟩ := okWide_struct hs hv
  obtain ⟨l⟩ := cs
  obtain ⟨fuel, hf⟩ := h
  obtain ⟨xs, n, _, _, _, hxl, hg⟩ := DataW.trod_struct hs hf
  have hl : l.length = fs.size := hsz.trans hC
  have hall : ∀ i, i < fs.size → ∃ k : Nat, k ≤ 255 ∧ l.getD i undef = .int .u8 (k : Int) := fun i hi => by
    have hfi : fs[i]? = some fs[i] := Array.getElem?_eq_getElem hi
    obtain ⟨ho, hc1⟩ := hone_of hone i _ hfi
    have hg' : DataW.trod enc P w base spare held n fs[i].type ((l.drop fs[i].offset).take (P.cellsOf fs[i].type)) = xs[i]? := hg i _ hfi
    rw [ho, hc1, take1_drop l i undef (by omega)] at hg'
    obtain ⟨y, hy⟩ : ∃ y, xs[i]? = some y := ⟨xs[i]'(by omega), List.getElem?_eq_getElem (by omega)⟩
    obtain ⟨k, e, _, hw⟩ := DataW.trod_int (hk i _ hfi) (hg'.trans hy)
    have e' : l.getD i undef = .int .u8 k := by simpa using e
    have hb := bounds_u8 hw
    exact ⟨k.toNat, by omega, by rw [e', Int.toNat_of_nonneg hb.1]⟩
  refine ⟨l.map fun v => (match v with | .int _ k => k.toNat | _ => 0), by rw [List.length_map]; exact hl, ?_, fun n hn => ?_⟩
  · congr 1
    congr 1
    refine List.ext_getElem (by rw [List.length_map, List.length_map]) fun i h1 h2 => ?_
    obtain ⟨k, hk1, hk2⟩ := hall i (by omega)
    rw [List.getD_eq_getElem?_getD, List.getElem?_eq_getElem h1] at hk2
    have e : l[i] = Value.int .u8 (k : Int) := hk2
    rw [List.getElem_map, List.getElem_map, e]
    show Value.int .u8 (k : Int) = Value.int .u8 (((k : Int).toNat : Nat) : Int)
    rw [Int.toNat_natCast]
  · obtain ⟨x, hx, rfl⟩ := List.mem_map.1 hn
    obtain ⟨i, hi, rfl⟩ := List.getElem_of_mem hx
    obtain ⟨k, hk1, hk2⟩ := hall i (by omega)
    rw [List.getD_eq_getElem?_getD, List.getElem?_eq_getElem hi] at hk2
    have e : l[i] = Value.int .u8 (k : Int) := hk2
    rw [e]
    show (k : Int).toNat ≤ 255
    rw [Int.toNat_natCast]; exact hk1
end
end Go.Proofs.YtmhfpjnkjlhbpaaGreatDoor
namespace Go.Proofs.YtmhfpjnkjlhbpaaGreatDoor
open Go.ChangeShapes Go.WideShapes Go.ChangeAt Go.RowKit
set_option linter.unusedVariables false
set_option maxRecDepth 100000

section
variable {H : Type} {enc : TypeId × Value → H} {P : Program} {w : World} {base : Nat} {sp : Nat → Bool} {held : Bool} {fuel : Nat} {t e : TypeId} {n : Nat} {cs : List Value} {p : List MemPlace}
theorem arr_at (ht : P.underlying t = some (.array n e)) (hce : P.cellsOf e = 1) (hct : P.cellsOf t = n) {ds : List (DataW H)}
    (h : DataW.trod enc P w base sp held fuel t cs = some (.agg ds, p)) (i : Nat) (hi : i < n) : cs.length = n ∧ ∃ c d q m, cs[i]? = some c ∧ ds[i]? = some d ∧ DataW.trod enc P w base sp held m e [c] = some (d, q) := by
  obtain ⟨xs, m, _, hx, hl, hxl, hg⟩ := DataW.trod_array ht h
  have g := hg i hi
  rw [hce, Nat.mul_one] at g
  rw [hct] at hl
  refine ⟨hl, cs[i]'(by omega), (xs[i]'(by omega)).1, (xs[i]'(by omega)).2, m, List.getElem?_eq_getElem (by omega), ?_, ?_⟩
  · have hd : ds = xs.map (·.1) := by
      have := congrArg Prod.fst hx
      simpa using this
    rw [hd, List.getElem?_map, List.getElem?_eq_getElem (by omega)]
    rfl
  · rw [List.drop_eq_getElem_cons (by omega)] at g
    rw [List.getElem?_eq_getElem (by omega)] at g
    exact g

theorem ints_of_arr {k : IntKind} {zs : List Int} (ht : P.underlying t = some (.array n e)) (he : P.underlying e = some (.int k)) (hce : P.cellsOf e = 1) (hct : P.cellsOf t = n)
    (h : DataW.trod enc P w base sp held fuel t cs = some (.agg (zs.map fun z => .lit (.int k z)), p)) (i : Nat) (hi : i < n) : cs[i]? = some (.int k (zs.getD i 0)) := by
  obtain ⟨_, c, d, q, m, h1, h2, h3⟩ := arr_at ht hce hct h i hi
  obtain ⟨z, e1, e2, _⟩ := DataW.trod_int he h3
  simp only [List.cons.injEq, and_true] at e1
  simp only [Prod.mk.injEq] at e2
  rw [List.getElem?_map, e2.1] at h2
  obtain ⟨z', h4, h5⟩ := Option.map_eq_some_iff.1 h2
  injection h5 with h5
  injection h5 with _ h5
  rw [h1, e1, List.getD_eq_getElem?_getD, h4, ← h5]
  rfl

theorem strs_of_arr {ss : List ByteArray} (ht : P.underlying t = some (.array n e)) (he : P.underlying e = some .string) (hce : P.cellsOf e = 1) (hct : P.cellsOf t = n)
    (h : DataW.trod enc P w base sp held fuel t cs = some (.agg (ss.map fun s => .lit (.string s.data.toList)), p)) (i : Nat) (hi : i < n) : cs[i]? = some (.string (ss.getD i ⟨#[]⟩)) := by
  obtain ⟨_, c, d, q, m, h1, h2, h3⟩ := arr_at ht hce hct h i hi
  obtain ⟨s, e1, e2, _⟩ := DataW.trod_string he h3
  simp only [List.cons.injEq, and_true] at e1
  simp only [Prod.mk.injEq] at e2
  rw [List.getElem?_map, e2.1] at h2
  obtain ⟨s', h4, h5⟩ := Option.map_eq_some_iff.1 h2
  injection h5 with h5
  injection h5 with h5
  have : s' = s := by
    cases s'
    cases s
    simp only [ByteArray.mk.injEq]
    exact Array.ext' h5
  rw [h1, e1, List.getD_eq_getElem?_getD, h4, this]
  rfl
end

theorem gUses : Tryz.prog.globalNamed "deadlatch/isa.uses" = some 0 := by kernel_rfl
theorem gNames : Tryz.prog.globalNamed "deadlatch/isa.names" = some 1 := by kernel_rfl
theorem gObj : Tryz.prog.globalNamed "deadlatch/obj.names" = some 2 := by kernel_rfl
theorem gObjT : (Tryz.prog.globals[2]?).map (·.type) = some 235 := by kernel_rfl
theorem gUsesT : (Tryz.prog.globals[0]?).map (·.type) = some 196 := by kernel_rfl
theorem gNamesT : (Tryz.prog.globals[1]?).map (·.type) = some 226 := by kernel_rfl

theorem tab_of {W : World} (h : laidMet Tryz.prog [("deadlatch/isa.uses", Rows.laid_deadlatch_isa_uses), ("deadlatch/isa.names", Rows.laid_deadlatch_isa_names), ("deadlatch/obj.names", Rows.laid_deadlatch_obj_names)] W) : Tab W ∧ ONam W := by
  obtain ⟨ps, ⟨g, t, cs, fuel, p, q, hg, ht, hvar, hd, ⟨g', t', cs', fuel', p', q', hg', ht', hvar', hd', ⟨g2, t2, cs2, fuel2, p2, q2, hg2, ht2, hvar2, hd2, _, _⟩, _⟩, _⟩, _⟩ := h
  obtain rfl := Option.some.inj (gObj.symm.trans hg2)
  obtain rfl := Option.some.inj (gObjT.symm.trans ht2)
  obtain rfl := Option.some.inj (gUses.symm.trans hg)
  obtain rfl := Option.some.inj (gUsesT.symm.trans ht)
  obtain rfl := Option.some.inj (gNames.symm.trans hg')
  obtain rfl := Option.some.inj (gNamesT.symm.trans ht')
  have a : ∀ i, i < 28 → W.cell? ⟨0, i, none⟩ = some (.int .i64 (useN i)) := fun i hi => by
    have h1 := ints_of_arr (zs := useL) (k := .i64) Tryz.underlying196 Tryz.underlying3 (by kernel_rfl) (by kernel_rfl) hd i hi
    have h2 := World.var?_cell gUses hvar i
    exact h2.trans (by rw [← Array.getElem?_toList]; exact h1)
  have b : ∀ i, i < 28 → W.cell? ⟨1, i, none⟩ = some (.string (nmS i)) := fun i hi => by
    have h1 := strs_of_arr (ss := nmL) Tryz.underlying226 Tryz.underlying9 (by kernel_rfl) (by kernel_rfl) hd' i hi
    have h2 := World.var?_cell gNames hvar' i
    exact h2.trans (by rw [← Array.getElem?_toList]; exact h1)
  have c : ∀ i, i < 16 → W.cell? ⟨2, i, none⟩ = some (.string (onS i)) := fun i hi => by
    have h1 := strs_of_arr (ss := onL) Tryz.underlying235 Tryz.underlying9 (by kernel_rfl) (by kernel_rfl) hd2 i hi
    have h2 := World.var?_cell gObj hvar2 i
    exact h2.trans (by rw [← Array.getElem?_toList]; exact h1)
  exact ⟨⟨World.block_lt_of_cell? W _ (b 0 (by decide)), a, b⟩, World.block_lt_of_cell? W _ (c 0 (by decide)), c⟩

def relay (cs : Array Value) : Obj → Obj
  | .cells _ t frozen => .cells cs t frozen
  | o => o
noncomputable def laidWorld (os : Os) : World :=
  { World.holding Tryz.prog os ⟨#[], #[], []⟩ with heap := (((World.holding Tryz.prog os ⟨#[], #[], []⟩).heap.modify 0 (relay (useL.map fun z => Value.int .i64 z).toArray)).modify 1 (relay (nmL.map Value.string).toArray)).modify 2 (relay (onL.map Value.string).toArray) }

abbrev theLaid : List (String × DataW Unit) := [("deadlatch/isa.uses", Rows.laid_deadlatch_isa_uses), ("deadlatch/isa.names", Rows.laid_deadlatch_isa_names), ("deadlatch/obj.names", Rows.laid_deadlatch_obj_names)]

section
variable {H : Type} {enc : TypeId × Value → H}
theorem card_lifted {os : Os} {F : Stop.Interp} {f : FuncId} {fn : Func} {s : ChangeSpec} (started : os.Started) (noInit : Tryz.checked.prog.inits.idxOf? f = none) (hfn : Tryz.checked.prog.funcs[f]? = some fn)
    (witness : ∃ (w : World) (tape : Tape) (i : Input), w.os = os ∧ (w.forCall tape i).Shaped Tryz.checked.prog ∧ i.vars = [] ∧ Input.okWide Tryz.checked.prog (w.forCall tape i) .any w.heap.size f i ∧
      (OpenSpec.ofChange s).preRow enc Tryz.checked.prog fn [] false theLaid (w.forCall tape i).memory i.args ∧ ({} : Assume).holds Tryz.checked.prog (lone (Frame.enter Tryz.checked.prog f i.args .normal) [] (w.forCall tape i)))
    (tb : TypeId) (hv : s.vars = []) (hrt : fn.resultTypes = #[tb]) (hub : Tryz.prog.underlying tb = some .bool)
    (hf : ∀ ds : List (DataW H), ds.length = fn.params.size → s.fn H (ds ++ []) = { results := [.lit (.bool true)], args := ds })
    (hr : fn.params.toList.all (fun t => Tryz.prog.readableRec t && decide (t < Tryz.prog.types.size)) = true)
    (contract : ∀ (W : World) (base : Nat) (args : Array Value) (ds : List (DataW H)) (p : List MemPlace), Tab W → ONam W →
      (∀ (j : Nat) t v, fn.params[j]? = some t → args[j]? = some v → Value.okWide Tryz.prog W .any base t v) →
      DataW.TrodAll enc Tryz.prog W 0 (fun _ => true) true fn.params.toList args.toList ds p → (∀ x ∈ p, x.block < W.heap.size) →
      (DataW.weightsEach Tryz.prog fn.params.toList ds).all (· ≤ reachBytes) = true →
      Calls Tryz.prog f args W fun e W' => e = .returned (.bool true) ∧ Below W.heap.size W W') :
    ReturnsInHanded {} Tryz.checked os f .any ((OpenSpec.ofChange s).preRow enc Tryz.prog fn [] false theLaid) (((OpenSpec.ofChange s).at F).post enc Tryz.prog fn false true false false) := by
  refine returnsInHanded_of_row (C := Tryz.checked) (s := OpenSpec.ofChange s) base_own started noInit hfn witness ?_
  intro W base args ds gs before hval hW _ _ hsz0 hL _ _
  have hW : DataW.Whole enc Tryz.prog fn.params.toList s.vars false W args.toList ds gs before := hW
  have hW' := hW
  obtain ⟨p, q, hA, hV, rfl, _, _⟩ := hW
  have hvt : s.plain.varTypes Tryz.checked.prog = [] := by
    unfold DataSpec.varTypes
    simp [ChangeSpec.plain, hv]
  rw [hv] at hV
  obtain ⟨rfl, rfl⟩ := trodVars_none hV
  have hsz0 : (DataW.weightsEach Tryz.checked.prog (fn.params.toList ++ s.plain.varTypes Tryz.checked.prog) (ds ++ [])).all (· ≤ reachBytes) = true := hsz0
  rw [hvt] at hsz0
  simp only [List.append_nil] at hsz0
  have hlen : ds.length = fn.params.size := by simpa using trodAll_length _ _ _ _ hA
  refine (contract W base args ds p (tab_of hL).1 (tab_of hL).2 hval hA (fun x hx => hW'.lt x (List.mem_append_left _ hx)) hsz0).mono fun e W' ⟨he, hb⟩ => ?_
  exact ⟨_, he, law_post tb hv hrt hub hW' (hf ds hlen) hr hb⟩
end
end Go.Proofs.YtmhfpjnkjlhbpaaGreatDoor
namespace Go.Proofs.YtmhfpjnkjlhbpaaGreatDoor
open Go.ChangeShapes Go.WideShapes Go.ChangeAt Go.RowKit Go.Deep
set_option linter.unusedVariables false
set_option maxRecDepth 100000
set_option linter.unusedSimpArgs false

theorem seqOne_met (os : Os) : laidMet Tryz.prog theLaid ((laidWorld os).forCall (fun _ _ => 0) ⟨#[], #[.agg #[.int .u8 0, .int .u8 0, .int .u8 0, .int .u8 0, .int .u8 0], .slice none 0 0], []⟩).memory :=
  laidMet_of_run' 8 (by kernel_rfl) (by kernel_rfl)
theorem seqOne_reads (os : Os) {H : Type} (enc : TypeId × Value → H) : ∃ places, DataW.whole enc Tryz.prog ((laidWorld os).forCall (fun _ _ => 0) ⟨#[], #[.agg #[.int .u8 0, .int .u8 0, .int .u8 0, .int .u8 0, .int .u8 0], .slice none 0 0], []⟩).memory Tryz.f3.params.toList Rows.seqOneSpec.vars false (#[.agg #[.int .u8 0, .int .u8 0, .int .u8 0, .int .u8 0, .int .u8 0], .slice none 0 0] : Array Value).toList 8 = some ([.agg [.lit (.int .u8 0), .lit (.int .u8 0), .lit (.int .u8 0), .lit (.int .u8 0), .lit (.int .u8 0)], .nil], [], places) :=
  ⟨[], by kernel_rfl⟩

set_option maxRecDepth 100000 in
theorem seqOne_lifted (os : Os) (started : os.Started) (H : Type) (enc : TypeId × Value → H) (F : Stop.Interp) :
    ReturnsInHanded {} Tryz.checked os 3 .any ((OpenSpec.ofChange Rows.seqOneSpec).preRow enc Tryz.prog Tryz.f3 Rows.seqOneRow.domain false Rows.seqOneRow.laid) (((OpenSpec.ofChange Rows.seqOneSpec).at F).post enc Tryz.prog Tryz.f3 false true false false) := by
  obtain ⟨places, hx⟩ := seqOne_reads os enc
  refine card_lifted started (by kernel_rfl) Tryz.func3
    (witness_row_at (enc := enc) (C := Tryz.checked) false (laidWorld os) #[.agg #[.int .u8 0, .int .u8 0, .int .u8 0, .int .u8 0, .int .u8 0], .slice none 0 0] rfl (by kernel_rfl) (by kernel_rfl) (by kernel_rfl)
      (OpenSpec.preRow_of_cond 8 hx (by kernel_rfl) (fun k hk => by cases hk) (by kernel_rfl) (seqOne_met os)))
    4 rfl (by kernel_rfl) Tryz.underlying4 (fun ds h => ?_) (by kernel_rfl) ?_
  · rw [show Tryz.f3.params.size = 2 from by kernel_rfl] at h
    match ds, h with
    | [_, _], _ => rfl
  intro W base args ds p hT hO hval hA hlt hsz
  rw [Tryz.params3] at hA hval hsz
  obtain ⟨v0, v1, d0, d1, p0, p1, rfl, rfl, rfl, h0, h1⟩ := trodAll_two hA
  obtain ⟨lc, hlc5, rfl, hle⟩ := agg_u8 Tryz.underlying23 (by kernel_rfl) (by kernel_rfl) (fun i f hf => by
    rcases i with _ | _ | _ | _ | _ | i
    · obtain rfl := Option.some.inj hf; exact Tryz.underlying5
    · obtain rfl := Option.some.inj hf; exact Tryz.underlying5
    · obtain rfl := Option.some.inj hf; exact Tryz.underlying5
    · obtain rfl := Option.some.inj hf; exact Tryz.underlying5
    · obtain rfl := Option.some.inj hf; exact Tryz.underlying5
    · cases hf) (hval 0 23 v0 rfl rfl) h0
  obtain ⟨a, b, c, d, e, rfl⟩ : ∃ a b c d e, lc = [a, b, c, d, e] := by
    match lc, hlc5 with
    | [a, b, c, d, e], _ => exact ⟨a, b, c, d, e, rfl⟩
  have h255 : a ≤ 255 ∧ b ≤ 255 ∧ c ≤ 255 ∧ d ≤ 255 ∧ e ≤ 255 := ⟨hle a (by simp), hle b (by simp), hle c (by simp), hle d (by simp), hle e (by simp)⟩
  obtain ⟨B, sn, scap, Y, rfl, hlc, hcm, hsl, hwz⟩ := open_sl_ints Tryz.underlying24 Tryz.underlying5 (by kernel_rfl) (hval 1 24 v1 rfl rfl) h1 (fun x hx => hlt x (List.mem_append_right _ hx))
  exact seqOne_true a b c d e h255 B sn scap Y hlc hcm (fun i hi => bounds_u8 (hwz i hi)) W hT hsl

theorem seqOne_said : Rows.SeqOneSaid :=
  OpenClaim.holds_of_cond 3 Tryz.f3 rfl rfl rfl rfl rfl rfl rfl ⟨rfl, rfl, rfl, rfl, rfl⟩ rfl rfl rfl rfl rfl (by kernel_rfl) Tryz.func3 (by kernel_rfl)
    (of_decide_eq_true (by kernel_rfl)) (by unfold Func.isWrapper; first | (rw [if_pos (by decide +kernel)]; kernel_rfl) | (rw [if_neg (by decide +kernel)]; exact ⟨rfl, rfl⟩))
    (fun os started H enc _ F => by rw [OpenClaim.pre_eq_preRow]; exact seqOne_lifted os started H enc F)

theorem seqOne_plain (f : FuncId) (fn : Func) (hf : Tryz.pinned.checked.prog.funcNamed "deadlatch/deadlatchlaw19.SeqOne" = some f) (hfn : Tryz.pinned.checked.prog.funcs[f]? = some fn) :
    true = Tryz.pinned.checked.prog.looks [] ∧ ∀ (j : Nat) t, fn.params[j]? = some t → Tryz.pinned.checked.prog.wantsStandIn t = false := by
  obtain rfl : f = 3 := Option.some.inj ((show Tryz.prog.funcNamed "deadlatch/deadlatchlaw19.SeqOne" = some 3 by kernel_rfl).symm.trans hf) |>.symm
  obtain rfl : fn = Tryz.f3 := (Option.some.inj (Tryz.func3.symm.trans hfn)).symm
  refine ⟨by kernel_rfl, fun j t ht => ?_⟩
  rw [Tryz.params3] at ht
  have hm : t = 23 ∨ t = 24 := by simpa using Array.mem_of_getElem? ht
  rcases hm with rfl | rfl
  · exact (show Tryz.prog.wantsStandIn 23 = false by kernel_rfl)
  · exact (show Tryz.prog.wantsStandIn 24 = false by kernel_rfl)

theorem seqOne_card : Rows.SeqOneCardSaid :=
  Claim7.holds_tied_plain_at .later [] _ _ _ _ seqOne_said (fun _ h => by cases h) (by kernel_rfl) (fun _ h => by cases h) seqOne_row_tie rfl ⟨rfl, rfl⟩ (by kernel_rfl) rfl seqOne_plain (by kernel_rfl)
end Go.Proofs.YtmhfpjnkjlhbpaaGreatDoor

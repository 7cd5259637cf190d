/- CodeWrites returns true for every program, in a world that holds the tables: the row and the card. -/
import Derived.Test.YtlmhifnanhkcnaaDoorCodeSmall
import Derived.Test.YtlmhifnanhkcnaaDoorIsaRefCheck
import Derived.Test.YtlmhifnanhkcnaaDoorCard
namespace Go.Proofs.YtlmhifnanhkcnaaDoor
open Go.ChangeShapes Go.WideShapes Go.ChangeAt Go.RowKit Go.Deep
set_option linter.unusedVariables false
set_option linter.unusedSimpArgs false

/-- Bytes that can be read, as a string. -/
theorem conv_sl {w : World} {A : Option Addr} {L : List Int} {n cap : Nat} (hn : L.length = n) (h0 : 0 < n) (h : Sl w A n (fun i => .int .u8 (L.getD i 0))) :
    (convert 50 9 (.slice A n cap)).run Tryd.prog w = .ok (.string (strOfNums L)) w := by
  obtain ⟨b, off, rfl, hlt, hc⟩ := h h0
  exact run_convert_bytes_arg w 50 5 Tryd.underlying50 Tryd.underlying5 b off n cap L hn (fun i hi => hc i hi) 9 Tryd.underlying9

set_option maxHeartbeats 4000000 in
theorem codeWrites_true (p : Pg) (ho : p.Ok) (w : World) (ht : Tab w) (ha : p.At w) :
    Calls Tryd.prog 7 #[p.val] w fun e w' => e = .returned (.bool true) ∧ Below w.heap.size w w' := by
  obtain ⟨t, j, e, hC⟩ := chk_some p
  have cS := small_any p ho
  have cR := refCheck_any p ho t j e hC
  have cN := fun (he : e ≠ 0) => write_no p ho t j e hC he
  have hC0 : e = 0 → Chk p 0 0 0 := by
    intro he
    cases hC with
    | args h => exact absurd he (by decide)
    | mem a1 a2 a3 a4 h => exact absurd he (by decide)
    | long t a1 a2 a3 a4 a5 ht' hg hl => exact absurd he (by decide)
    | form t j a1 a2 a3 a4 a5 ht' hg hl hj hi hb => exact absurd he (by decide)
    | fine a1 a2 a3 a4 a5 hg => exact .fine a1 a2 a3 a4 a5 hg
  have cY := fun (he : e = 0) => write_yes p ho (hC0 he)
  have cF := fun (he : e = 0) => refWrite_yes p ho (hC0 he)
  have hl7 : 7 ≤ (wrB p).length := by unfold wrB twoB; simp
  obtain ⟨L, hL⟩ : ∃ L, L = wrB p := ⟨_, rfl⟩
  rw [← hL] at cY cF hl7
  clear hL hC hC0
  obtain ⟨A, n, cap, cd, mA, m, mcap, Z, room⟩ := p
  unfold Pg.val at cS cR cN cY cF ⊢
  dsimp only at *
  have hB := (Below.refl w.heap.size w).alloc (Nat.le_refl _) (Obj.cells #[.slice A n cap, .slice mA m mcap, .int .i64 room] 38)
  have hq := Blk.new w 38 #[.slice A n cap, .slice mA m mcap, .int .i64 room]
  have HS := Lib.hid cS
  have HR := Lib.hid cR
  have HN := Lib.hid cN
  have HY := Lib.hid cY
  have HF := Lib.hid cF
  clear cS cR cN cY cF ho
  go_enter Tryd.func7, Tryd.ntmps7
  go_wp2_with fail
  refine (awake_any _).mono ?_
  rintro r1 w1 ⟨rfl, hb1⟩
  have hB1 := step_below hB hb1
  have hq1 := hq.below hb1 hq.lt
  have g0 := hq1.cell 0
  have g1 := hq1.cell 1
  have g2 := hq1.cell 2
  simp only [List.getElem?_toArray, List.getElem?_cons_zero, List.getElem?_cons_succ] at g0 g1 g2
  clear hq
  go_wp2_with fail
  refine (HS.out _ (ha.step hB1)).mono ?_
  rintro r2 w2 ⟨⟨b, rfl⟩, hb2⟩
  have hB2 := step_below hB1 hb2
  have hq2 := hq1.below hb2 hq1.lt
  clear g0 g1 g2
  have g0 := hq2.cell 0
  have g1 := hq2.cell 1
  have g2 := hq2.cell 2
  simp only [List.getElem?_toArray, List.getElem?_cons_zero, List.getElem?_cons_succ] at g0 g1 g2
  clear hb2 hb1 hq1 hB hB1
  cases b
  · go_wp2_with fail
    refine (awake_any _).mono ?_
    rintro r3 w3 ⟨rfl, hb3⟩
    go_wp2
    go_ret
    exact ⟨rfl, step_below hB2 hb3⟩
  go_wp2_with fail
  by_cases he : e = 0
  · refine (HY.out he _ (ht.step hB2) (ha.step hB2)).mono ?_
    rintro r3 w3 ⟨v, rfl, hown, hb3⟩
    obtain ⟨A3, c3, rfl, hc3, hs3⟩ := hown.sl
    have hB3 := step_below hB2 hb3
    have hq3 := hq2.below hb3 hq2.lt
    clear hown g0 g1 g2
    have g0 := hq3.cell 0
    have g1 := hq3.cell 1
    have g2 := hq3.cell 2
    simp only [List.getElem?_toArray, List.getElem?_cons_zero, List.getElem?_cons_succ] at g0 g1 g2
    go_wp2_with fail
    refine (HR.out _ (ha.step hB3)).mono ?_
    rintro r4 w4 ⟨rfl, hb4⟩
    have hB4 := step_below hB3 hb4
    have hq4 := hq3.below hb4 hq3.lt
    have hs4 := hs3.step hb4
    have hlt4 := hq4.lt
    clear g0 g1 g2 hs3 hb3 hb4 hq2 hq3 hB2 hB3
    have hee : (e != 0) = false := by simp [he]
    subst he
    go_upto_region 7 with fail
    refine startG (fun W' => Below w4.drew.heap.size w4.drew W') 10 (by kernel_rfl) ?_
    have hq5 : Blk w4.drew w.heap.size 38 #[.slice A n cap, .slice mA m mcap, .int .i64 room] := hq4.drew
    have hs5 : Sl w4.drew A3 L.length (fun i => .int .u8 (L.getD i 0)) := hs4
    have hB5 := hB4.drew
    have hlt5 : w.heap.size < w4.drew.heap.size := hlt4
    clear hq4 hs4 hB4 hlt4
    generalize w4.drew = W0 at hq5 hs5 hB5 hlt5 ⊢
    have hH := Below.refl W0.heap.size W0
    try simp only [Act.put, List.setIfInBounds_toArray, List.set_cons_zero, List.set_cons_succ]
    refine takeG (i := 0) (v := .int .i64 0) rfl (by kernel_rfl) (by kernel_rfl) (by kernel_rfl) (by kernel_rfl) (fun _ _ _ h => h) (Or.inl ⟨by rfl, fun W hW => by go_simp⟩) hH ?_
    try simp only [Act.put, List.setIfInBounds_toArray, List.set_cons_zero, List.set_cons_succ]
    refine takeG (i := 1) (v := .bool true) rfl (by kernel_rfl) (by kernel_rfl) (by kernel_rfl) (by kernel_rfl) (fun _ _ _ h => h) (Or.inl ⟨by rfl, fun W hW => by go_simp⟩) hH ?_
    try simp only [Act.put, List.setIfInBounds_toArray, List.set_cons_zero, List.set_cons_succ]
    refine takeG (i := 2) (v := .bool true) rfl (by kernel_rfl) (by kernel_rfl) (by kernel_rfl) (by kernel_rfl) (fun _ _ _ h => h) (Or.inl ⟨by rfl, fun W hW => by go_simp⟩) hH ?_
    try simp only [Act.put, List.setIfInBounds_toArray, List.set_cons_zero, List.set_cons_succ]
    refine takeG (i := 3) (v := .slice A3 L.length c3) rfl (by kernel_rfl) (by kernel_rfl) (by kernel_rfl) (by kernel_rfl) (fun _ _ _ h => h) (Or.inl ⟨by rfl, fun W hW => by go_simp⟩) hH ?_
    try simp only [Act.put, List.setIfInBounds_toArray, List.set_cons_zero, List.set_cons_succ]
    refine takeG (i := 4) (v := .string (strOfNums L)) rfl (by kernel_rfl) (by kernel_rfl) (by kernel_rfl) (by kernel_rfl) (fun _ _ _ h => h) (Or.inl ⟨by rfl, fun W hW => by have hc := conv_sl (cap := c3) rfl (by omega) (hs5.step hW); go_simp⟩) hH ?_
    try simp only [Act.put, List.setIfInBounds_toArray, List.set_cons_zero, List.set_cons_succ]
    refine takeG (i := 5) (v := .agg #[.slice A n cap, .slice mA m mcap, .int .i64 room]) rfl (by kernel_rfl) (by kernel_rfl) (by kernel_rfl) (by kernel_rfl) (fun _ _ _ h => h) (Or.inl ⟨by rfl, fun W hW => by have hqW := hq5.below hW hlt5; have g0 := hqW.cell 0; have g1 := hqW.cell 1; have g2 := hqW.cell 2; simp only [List.getElem?_toArray, List.getElem?_cons_zero, List.getElem?_cons_succ] at g0 g1 g2; go_simp⟩) hH ?_
    try simp only [Act.put, List.setIfInBounds_toArray, List.set_cons_zero, List.set_cons_succ]
    refine onlyG (i := 6) (by kernel_rfl) rfl (fun K hK => ?_)
    go_simp
    refine (HF.out trivial _ (ha.step hB5)).mono ?_
    rintro r5 w6 ⟨v6, rfl, hown6, hb6⟩
    obtain ⟨A6, c6, rfl, _, hs6⟩ := hown6.sl
    have hc6 := conv_sl (cap := c6) rfl (by omega) hs6
    clear hown6
    go_wp2_with fail
    refine hK.out _ _ hb6 (fun _ => ?_)
    clear hK K
    try simp only [Act.put, List.setIfInBounds_toArray, List.set_cons_zero, List.set_cons_succ]
    refine onlyG (i := 7) (by kernel_rfl) rfl (fun K hK => ?_)
    go_simp
    refine hK.out _ _ hb6 (fun _ => ?_)
    clear hK K
    try simp only [Act.put, List.setIfInBounds_toArray, List.set_cons_zero, List.set_cons_succ]
    refine takeG (i := 8) (v := .bool true) rfl (by kernel_rfl) (by kernel_rfl) (by kernel_rfl) (by kernel_rfl) (fun _ _ _ h => h) (Or.inl ⟨by rfl, fun W hW => by go_simp⟩) hb6 ?_
    try simp only [Act.put, List.setIfInBounds_toArray, List.set_cons_zero, List.set_cons_succ]
    refine takeG (i := 9) (v := .bool true) rfl (by kernel_rfl) (by kernel_rfl) (by kernel_rfl) (by kernel_rfl) (fun _ _ _ h => h) (Or.inl ⟨by rfl, fun W hW => by go_simp⟩) hb6 ?_
    try simp only [Act.put, List.setIfInBounds_toArray, List.set_cons_zero, List.set_cons_succ]
    refine lastG (by kernel_rfl) rfl (by kernel_rfl) (fun K hK => ?_)
    go_simp
    refine hK.out _ _ ?_
    try simp only [Act.put, List.setIfInBounds_toArray, List.set_cons_zero, List.set_cons_succ]
    go_wp2_with fail
    go_ret
    exact ⟨rfl, step_below hB5 hb6⟩
  · refine (HN.out he _ (ht.step hB2) (ha.step hB2)).mono ?_
    rintro r3 w3 ⟨rfl, hb3⟩
    have hB3 := step_below hB2 hb3
    have hq3 := hq2.below hb3 hq2.lt
    clear g0 g1 g2
    have g0 := hq3.cell 0
    have g1 := hq3.cell 1
    have g2 := hq3.cell 2
    simp only [List.getElem?_toArray, List.getElem?_cons_zero, List.getElem?_cons_succ] at g0 g1 g2
    have hne : (e != 0) = true := by rw [bne_iff_ne]; exact he
    go_wp2_with fail
    refine (HR.out _ (ha.step hB3)).mono ?_
    rintro r4 w4 ⟨rfl, hb4⟩
    have hB4 := step_below hB3 hb4
    go_wp2
    go_ret
    exact ⟨rfl, hB4⟩

theorem codeWrites_met (os : Os) : laidMet Tryd.prog theLaid ((laidWorld os).forCall (fun _ _ => 0) ⟨#[], #[.agg #[.slice none 0 0, .slice none 0 0, .int .i64 0]], []⟩).memory :=
  laidMet_of_run' 8 (by kernel_rfl) (by kernel_rfl)
theorem codeWrites_reads (os : Os) {H : Type} (enc : TypeId × Value → H) : ∃ places, DataW.whole enc Tryd.prog ((laidWorld os).forCall (fun _ _ => 0) ⟨#[], #[.agg #[.slice none 0 0, .slice none 0 0, .int .i64 0]], []⟩).memory Tryd.f7.params.toList Rows.codeWritesSpec.vars false (#[.agg #[.slice none 0 0, .slice none 0 0, .int .i64 0]] : Array Value).toList 8 = some ([.agg [.nil, .nil, .lit (.int .i64 0)]], [], places) :=
  ⟨[], by kernel_rfl⟩

set_option maxRecDepth 100000 in
theorem codeWrites_lifted (os : Os) (started : os.Started) (H : Type) (enc : TypeId × Value → H) (F : Stop.Interp) :
    ReturnsInHanded {} Tryd.checked os 7 .any ((OpenSpec.ofChange Rows.codeWritesSpec).preRow enc Tryd.prog Tryd.f7 Rows.codeWritesRow.domain false Rows.codeWritesRow.laid) (((OpenSpec.ofChange Rows.codeWritesSpec).at F).post enc Tryd.prog Tryd.f7 false true false false) := by
  obtain ⟨places, hx⟩ := codeWrites_reads os enc
  refine card_lifted started (by kernel_rfl) Tryd.func7
    (witness_row_at (enc := enc) (C := Tryd.checked) false (laidWorld os) #[.agg #[.slice none 0 0, .slice none 0 0, .int .i64 0]] rfl (by kernel_rfl) (by kernel_rfl) (by kernel_rfl)
      (OpenSpec.preRow_of_cond 8 hx (by kernel_rfl) (fun k hk => by cases hk) (by kernel_rfl) (codeWrites_met os)))
    4 rfl (by kernel_rfl) Tryd.underlying4 (fun ds h => ?_) (by kernel_rfl) ?_
  · rw [show Tryd.f7.params.size = 1 from by kernel_rfl] at h
    match ds, h with
    | [_], _ => rfl
  intro W base args ds p hT hval hA hlt hsz
  rw [Tryd.params7] at hA hval hsz
  obtain ⟨v0, d0, rfl, rfl, h0⟩ := trodAll_one hA
  obtain ⟨q, rfl, ho, ha⟩ := open_prog (hval 0 38 v0 rfl rfl) h0
  exact codeWrites_true q ho W hT ha

theorem codeWrites_said : Rows.CodeWritesSaid :=
  OpenClaim.holds_of_cond 7 Tryd.f7 rfl rfl rfl rfl rfl rfl rfl ⟨rfl, rfl, rfl, rfl, rfl⟩ rfl rfl rfl rfl rfl (by kernel_rfl) Tryd.func7 (by kernel_rfl)
    (of_decide_eq_true (by kernel_rfl)) (by unfold Func.isWrapper; first | (rw [if_pos (by decide +kernel)]; kernel_rfl) | (rw [if_neg (by decide +kernel)]; exact ⟨rfl, rfl⟩))
    (fun os started H enc _ F => by rw [OpenClaim.pre_eq_preRow]; exact codeWrites_lifted os started H enc F)

theorem codeWrites_plain (f : FuncId) (fn : Func) (hf : Tryd.pinned.checked.prog.funcNamed "deadlatch/deadlatchlaw03.CodeWrites" = some f) (hfn : Tryd.pinned.checked.prog.funcs[f]? = some fn) :
    false = Tryd.pinned.checked.prog.looks [] ∧ ∀ (j : Nat) t, fn.params[j]? = some t → Tryd.pinned.checked.prog.wantsStandIn t = false := by
  obtain rfl : f = 7 := Option.some.inj ((show Tryd.prog.funcNamed "deadlatch/deadlatchlaw03.CodeWrites" = some 7 by kernel_rfl).symm.trans hf) |>.symm
  obtain rfl : fn = Tryd.f7 := (Option.some.inj (Tryd.func7.symm.trans hfn)).symm
  refine ⟨by kernel_rfl, fun j t ht => ?_⟩
  rw [Tryd.params7] at ht
  have hm : t = 38 := by simpa using Array.mem_of_getElem? ht
  rcases hm with rfl
  · exact (show Tryd.prog.wantsStandIn 38 = false by kernel_rfl)

theorem codeWrites_card : Rows.CodeWritesCardSaid :=
  Claim7.holds_tied_plain_at .later [] _ _ _ _ codeWrites_said (fun _ h => by cases h) (by kernel_rfl) (fun _ h => by cases h) codeWrites_row_tie rfl ⟨rfl, rfl⟩ (by kernel_rfl) rfl codeWrites_plain (by kernel_rfl)

end Go.Proofs.YtlmhifnanhkcnaaDoor

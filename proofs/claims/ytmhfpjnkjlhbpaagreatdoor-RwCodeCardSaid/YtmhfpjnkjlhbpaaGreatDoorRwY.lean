/- RwCode. -/
import Derived.Test.YtmhfpjnkjlhbpaaGreatDoorRwX
import Derived.Test.YtmhfpjnkjlhbpaaGreatDoorRwV
namespace Go.Proofs.YtmhfpjnkjlhbpaaGreatDoor
open Go.ChangeShapes Go.WideShapes Go.ChangeAt Go.RowKit Go.Deep
set_option linter.unusedVariables false
set_option maxRecDepth 100000
set_option linter.unusedSimpArgs false
set_option maxHeartbeats 4000000 in
theorem rwCode_no (k n a b call th t base arg : Int) (ha : 0 ≤ arg ∧ arg ≤ 4294967295) (hb : 0 ≤ base ∧ base ≤ 65535) (h : may15 k n a b call th t = true → k ≠ 14) (W : World) (hT : Tab W) (hO : ONam W) :
    Calls Tryz.prog 4 #[.agg #[.int .i64 k, .int .i64 n, .int .i64 a, .int .i64 b, .int .i64 call, .int .i64 th, .int .i64 t, .int .u16 base, .int .u32 arg]] W fun e W' => e = .returned (.bool true) ∧ Below W.heap.size W W' := by
  have hq := Blk.new W 49 #[.int .i64 k, .int .i64 n, .int .i64 a, .int .i64 b, .int .i64 call, .int .i64 th, .int .i64 t, .int .u16 base, .int .u32 arg]
  have hB := (Below.refl W.heap.size W).alloc (Nat.le_refl _) (.cells #[.int .i64 k, .int .i64 n, .int .i64 a, .int .i64 b, .int .i64 call, .int .i64 th, .int .i64 t, .int .u16 base, .int .u32 arg] 49)
  have hT1 := hT.step hB
  have hO1 := hO.step hB
  have cA := awake22_any _ hT1 hO1
  have cN := fun V hV => rw_no k n a b call th t base arg h V hV
  obtain ⟨m, hm⟩ : ∃ m, may15 k n a b call th t = m := ⟨_, rfl⟩
  have cM := fun V => r15_may k n a b call th t V
  rw [hm] at cM
  unfold objA at cM
  have hcond : m = true → k ≠ 14 := fun e1 => h (hm.trans e1)
  have wb : IntKind.u32.wrap base = base := IntWalk.u32_in _ (by omega)
  have HC := Lib.hid (And.intro cN (And.intro cM (And.intro hcond hO1)))
  clear cN cM hcond hm h hT hT1 hO hO1
  have q0 := (hq.cell 0).trans rfl
  have q1 := (hq.cell 1).trans rfl
  have q2 := (hq.cell 2).trans rfl
  have q3 := (hq.cell 3).trans rfl
  have q4 := (hq.cell 4).trans rfl
  have q5 := (hq.cell 5).trans rfl
  have q6 := (hq.cell 6).trans rfl
  have q7 := (hq.cell 7).trans rfl
  have q8 := (hq.cell 8).trans rfl
  go_enter Tryz.func4, Tryz.ntmps4
  go_wp2_with fail
  refine cA.mono ?_
  rintro e W1 ⟨rfl, hB1⟩
  have hq1 := hq.below hB1 hq.lt
  have hb1 := step_below hB hB1
  have hO2 := HC.out.2.2.2.step hB1
  clear cA q0 q1 q2 q3 q4 q5 q6 q7 q8 hq hB hB1
  have q0 := (hq1.cell 0).trans rfl
  have q1 := (hq1.cell 1).trans rfl
  have q2 := (hq1.cell 2).trans rfl
  have q3 := (hq1.cell 3).trans rfl
  have q4 := (hq1.cell 4).trans rfl
  have q5 := (hq1.cell 5).trans rfl
  have q6 := (hq1.cell 6).trans rfl
  have q7 := (hq1.cell 7).trans rfl
  have q8 := (hq1.cell 8).trans rfl
  go_wp2_with fail
  refine (HC.out.1 _ hO2).mono ?_
  rintro e W2 ⟨rfl, hB2⟩
  have hq2 := hq1.below hB2 hq1.lt
  have hb2 := step_below hb1 hB2
  clear q0 q1 q2 q3 q4 q5 q6 q7 q8 hq1 hb1 hB2 hO2
  have q0 := (hq2.cell 0).trans rfl
  have q1 := (hq2.cell 1).trans rfl
  have q2 := (hq2.cell 2).trans rfl
  have q3 := (hq2.cell 3).trans rfl
  have q4 := (hq2.cell 4).trans rfl
  have q5 := (hq2.cell 5).trans rfl
  have q6 := (hq2.cell 6).trans rfl
  have q7 := (hq2.cell 7).trans rfl
  have q8 := (hq2.cell 8).trans rfl
  go_wp2_with fail
  refine (HC.out.2.1 _).mono ?_
  rintro e W3 ⟨rfl, hB3⟩
  have hq3 := hq2.below hB3 hq2.lt
  have hb3 := Lib.hid (step_below hb2 hB3)
  clear q0 q1 q2 q3 q4 q5 q6 q7 q8 hq2 hb2 hB3
  have q0 := (hq3.cell 0).trans rfl
  have q1 := (hq3.cell 1).trans rfl
  have q2 := (hq3.cell 2).trans rfl
  have q3 := (hq3.cell 3).trans rfl
  have q4 := (hq3.cell 4).trans rfl
  have q5 := (hq3.cell 5).trans rfl
  have q6 := (hq3.cell 6).trans rfl
  have q7 := (hq3.cell 7).trans rfl
  have q8 := (hq3.cell 8).trans rfl
  clear hq3
  cases m with
  | false =>
    clear HC
    go_wp2
    go_ret
    exact ⟨rfl, hb3.out⟩
  | true =>
    have h1 := HC.out.2.2.1 rfl
    have k1 : (k != 14) = true := by simp [h1]
    clear HC h1
    go_wp2
    go_ret
    exact ⟨rfl, hb3.out⟩
set_option maxHeartbeats 8000000 in
theorem rwCode_yes (call th arg : Int) (t base : Nat) (hm : may15 14 0 0 0 call th t = true) (hb : base ≤ 65535) (W : World) (hT : Tab W) (hO : ONam W) :
    Calls Tryz.prog 4 #[.agg #[.int .i64 14, .int .i64 0, .int .i64 0, .int .i64 0, .int .i64 call, .int .i64 th, .int .i64 (t : Int), .int .u16 (base : Int), .int .u32 arg]] W fun e W' => e = .returned (.bool true) ∧ Below W.heap.size W W' := by
  have hq := Blk.new W 49 #[.int .i64 14, .int .i64 0, .int .i64 0, .int .i64 0, .int .i64 call, .int .i64 th, .int .i64 (t : Int), .int .u16 (base : Int), .int .u32 arg]
  have hB := (Below.refl W.heap.size W).alloc (Nat.le_refl _) (.cells #[.int .i64 14, .int .i64 0, .int .i64 0, .int .i64 0, .int .i64 call, .int .i64 th, .int .i64 (t : Int), .int .u16 (base : Int), .int .u32 arg] 49)
  have hT1 := hT.step hB
  have hO1 := hO.step hB
  have cA := awake22_any _ hT1 hO1
  obtain ⟨T, hG⟩ := rw_both call th arg t base hm hb
  have hms := may15_rw hm
  have cN := hG.code
  have cX := hG.text
  have cM := fun V => r15_may 14 0 0 0 call th t V
  rw [hm] at cM
  unfold objA at cM
  have cR := fun V => refR_code T base t hb (by omega) hG.ok V
  have hl := hG.ok.codeLen
  obtain ⟨TX, hTX⟩ : ∃ TX, tplT T = TX := ⟨_, rfl⟩
  rw [hTX] at cX cR
  generalize codeT base t T = CL at cN cR hl
  have wb : IntKind.u32.wrap (base : Int) = (base : Int) := IntWalk.u32_in _ (by omega)
  have wb2 : IntKind.i64.wrap (base : Int) = (base : Int) := IntWalk.i64_in _ (by omega)
  have HC := Lib.hid (And.intro cN (And.intro cM (And.intro cX (And.intro cR (And.intro hl (And.intro hT1 hO1))))))
  clear cN cM cX cR hl hm hT hT1 hO hO1 hTX hb hms hG
  have q0 := (hq.cell 0).trans rfl
  have q1 := (hq.cell 1).trans rfl
  have q2 := (hq.cell 2).trans rfl
  have q3 := (hq.cell 3).trans rfl
  have q4 := (hq.cell 4).trans rfl
  have q5 := (hq.cell 5).trans rfl
  have q6 := (hq.cell 6).trans rfl
  have q7 := (hq.cell 7).trans rfl
  have q8 := (hq.cell 8).trans rfl
  go_enter Tryz.func4, Tryz.ntmps4
  go_wp2_with fail
  refine cA.mono ?_
  rintro e W1 ⟨rfl, hB1⟩
  have hq1 := hq.below hB1 hq.lt
  have hb1 := step_below hB hB1
  have hT1 := HC.out.2.2.2.2.2.1.step hB1
  have hO1 := HC.out.2.2.2.2.2.2.step hB1
  clear cA q0 q1 q2 q3 q4 q5 q6 q7 q8 hq hB hB1
  have q0 := (hq1.cell 0).trans rfl
  have q1 := (hq1.cell 1).trans rfl
  have q2 := (hq1.cell 2).trans rfl
  have q3 := (hq1.cell 3).trans rfl
  have q4 := (hq1.cell 4).trans rfl
  have q5 := (hq1.cell 5).trans rfl
  have q6 := (hq1.cell 6).trans rfl
  have q7 := (hq1.cell 7).trans rfl
  have q8 := (hq1.cell 8).trans rfl
  go_wp2_with fail
  refine (HC.out.1 _ hT1 hO1).mono ?_
  rintro e W2 ⟨⟨v, rfl, hO⟩, hB2⟩
  obtain ⟨A, cc, rfl, hS⟩ := hO.sleR
  have hq2 := hq1.below hB2 hq1.lt
  have hb2 := step_below hb1 hB2
  clear q0 q1 q2 q3 q4 q5 q6 q7 q8 hq1 hb1 hB2 hT1 hO hO1
  have q0 := (hq2.cell 0).trans rfl
  have q1 := (hq2.cell 1).trans rfl
  have q2 := (hq2.cell 2).trans rfl
  have q3 := (hq2.cell 3).trans rfl
  have q4 := (hq2.cell 4).trans rfl
  have q5 := (hq2.cell 5).trans rfl
  have q6 := (hq2.cell 6).trans rfl
  have q7 := (hq2.cell 7).trans rfl
  have q8 := (hq2.cell 8).trans rfl
  go_wp2_with fail
  refine (HC.out.2.1 _).mono ?_
  rintro e W3 ⟨rfl, hB3⟩
  have hq3 := hq2.below hB3 hq2.lt
  have hb3 := step_below hb2 hB3
  have hS3 := hS.step hB3
  clear q0 q1 q2 q3 q4 q5 q6 q7 q8 hq2 hb2 hB3 hS
  have q0 := (hq3.cell 0).trans rfl
  have q1 := (hq3.cell 1).trans rfl
  have q2 := (hq3.cell 2).trans rfl
  have q3 := (hq3.cell 3).trans rfl
  have q4 := (hq3.cell 4).trans rfl
  have q5 := (hq3.cell 5).trans rfl
  have q6 := (hq3.cell 6).trans rfl
  have q7 := (hq3.cell 7).trans rfl
  have q8 := (hq3.cell 8).trans rfl
  have HQ := Lib.hid (And.intro hq3 (And.intro hb3 hS3))
  clear hq3 hb3 hS3
  go_wp2
  clear q0 q1 q2 q3 q4 q5 q6 q7 q8
  refine startG (fun W' => Below W3.drew.heap.size W3.drew W') 18 (by kernel_rfl) ?_
  have hW0 : Below W3.heap.size W3 W3.drew := ⟨rfl, rfl, rfl, Nat.le_refl _, fun _ _ => rfl⟩
  have hqW := HQ.out.1.below hW0 HQ.out.1.lt
  have hbW := Lib.hid (step_below HQ.out.2.1 hW0)
  have hSW := HQ.out.2.2.step hW0
  clear HQ
  generalize W3.drew = W0 at hW0 hqW hbW hSW ⊢
  have hS0 : Below W0.heap.size W0 W0 := Below.refl _ _
  refine takeG0 (i := 0) (v := .pointer (some ⟨W.heap.size, 4, none⟩)) rfl (by kernel_rfl) (by kernel_rfl) (by kernel_rfl) (by kernel_rfl) (fun _ _ _ h => h) (Or.inl ⟨by rfl, fun W hW => by go_simp⟩) hS0 ?_
  simp only [Act.put, List.getElem_toArray, List.getElem_cons_zero, List.getElem_cons_succ, List.setIfInBounds_toArray, List.set_cons_zero, List.set_cons_succ]
  refine takeG (i := 1) (v := .int .i64 call) rfl (by kernel_rfl) (by kernel_rfl) (by kernel_rfl) (by kernel_rfl) (fun _ _ _ h => h) (Or.inl ⟨by rfl, fun W hW => by have q := ((hqW.below hW hqW.lt).cell 4).trans rfl; go_simp⟩) hS0 ?_
  simp only [Act.put, List.getElem_toArray, List.getElem_cons_zero, List.getElem_cons_succ, List.setIfInBounds_toArray, List.set_cons_zero, List.set_cons_succ]
  refine takeG0 (i := 2) (v := .pointer (some ⟨W.heap.size, 6, none⟩)) rfl (by kernel_rfl) (by kernel_rfl) (by kernel_rfl) (by kernel_rfl) (fun _ _ _ h => h) (Or.inl ⟨by rfl, fun W hW => by go_simp⟩) hS0 ?_
  simp only [Act.put, List.getElem_toArray, List.getElem_cons_zero, List.getElem_cons_succ, List.setIfInBounds_toArray, List.set_cons_zero, List.set_cons_succ]
  refine takeG (i := 3) (v := .int .i64 (t : Int)) rfl (by kernel_rfl) (by kernel_rfl) (by kernel_rfl) (by kernel_rfl) (fun _ _ _ h => h) (Or.inl ⟨by rfl, fun W hW => by have q := ((hqW.below hW hqW.lt).cell 6).trans rfl; go_simp⟩) hS0 ?_
  simp only [Act.put, List.getElem_toArray, List.getElem_cons_zero, List.getElem_cons_succ, List.setIfInBounds_toArray, List.set_cons_zero, List.set_cons_succ]
  refine takeG0 (i := 4) (v := .pointer (some ⟨W.heap.size, 7, none⟩)) rfl (by kernel_rfl) (by kernel_rfl) (by kernel_rfl) (by kernel_rfl) (fun _ _ _ h => h) (Or.inl ⟨by rfl, fun W hW => by go_simp⟩) hS0 ?_
  simp only [Act.put, List.getElem_toArray, List.getElem_cons_zero, List.getElem_cons_succ, List.setIfInBounds_toArray, List.set_cons_zero, List.set_cons_succ]
  refine takeG (i := 5) (v := .int .u16 (base : Int)) rfl (by kernel_rfl) (by kernel_rfl) (by kernel_rfl) (by kernel_rfl) (fun _ _ _ h => h) (Or.inl ⟨by rfl, fun W hW => by have q := ((hqW.below hW hqW.lt).cell 7).trans rfl; go_simp⟩) hS0 ?_
  simp only [Act.put, List.getElem_toArray, List.getElem_cons_zero, List.getElem_cons_succ, List.setIfInBounds_toArray, List.set_cons_zero, List.set_cons_succ]
  refine takeG0 (i := 6) (v := .int .i64 (base : Int)) rfl (by kernel_rfl) (by kernel_rfl) (by kernel_rfl) (by kernel_rfl) (fun _ _ _ h => h) (Or.inl ⟨by rfl, fun W hW => by go_simp⟩) hS0 ?_
  simp only [Act.put, List.getElem_toArray, List.getElem_cons_zero, List.getElem_cons_succ, List.setIfInBounds_toArray, List.set_cons_zero, List.set_cons_succ]
  refine takeG0 (i := 8) (v := .pointer (some ⟨W.heap.size, 7, none⟩)) rfl (by kernel_rfl) (by kernel_rfl) (by kernel_rfl) (by kernel_rfl) (fun _ _ _ h => h) (Or.inl ⟨by rfl, fun W hW => by go_simp⟩) hS0 ?_
  simp only [Act.put, List.getElem_toArray, List.getElem_cons_zero, List.getElem_cons_succ, List.setIfInBounds_toArray, List.set_cons_zero, List.set_cons_succ]
  refine takeG (i := 9) (v := .int .u16 (base : Int)) rfl (by kernel_rfl) (by kernel_rfl) (by kernel_rfl) (by kernel_rfl) (fun _ _ _ h => h) (Or.inl ⟨by rfl, fun W hW => by have q := ((hqW.below hW hqW.lt).cell 7).trans rfl; go_simp⟩) hS0 ?_
  simp only [Act.put, List.getElem_toArray, List.getElem_cons_zero, List.getElem_cons_succ, List.setIfInBounds_toArray, List.set_cons_zero, List.set_cons_succ]
  refine takeG0 (i := 10) (v := .int .i64 (base : Int)) rfl (by kernel_rfl) (by kernel_rfl) (by kernel_rfl) (by kernel_rfl) (fun _ _ _ h => h) (Or.inl ⟨by rfl, fun W hW => by go_simp⟩) hS0 ?_
  simp only [Act.put, List.getElem_toArray, List.getElem_cons_zero, List.getElem_cons_succ, List.setIfInBounds_toArray, List.set_cons_zero, List.set_cons_succ]
  refine takeG0 (i := 11) (v := .pointer (some ⟨W.heap.size, 6, none⟩)) rfl (by kernel_rfl) (by kernel_rfl) (by kernel_rfl) (by kernel_rfl) (fun _ _ _ h => h) (Or.inl ⟨by rfl, fun W hW => by go_simp⟩) hS0 ?_
  simp only [Act.put, List.getElem_toArray, List.getElem_cons_zero, List.getElem_cons_succ, List.setIfInBounds_toArray, List.set_cons_zero, List.set_cons_succ]
  refine takeG (i := 12) (v := .int .i64 (t : Int)) rfl (by kernel_rfl) (by kernel_rfl) (by kernel_rfl) (by kernel_rfl) (fun _ _ _ h => h) (Or.inl ⟨by rfl, fun W hW => by have q := ((hqW.below hW hqW.lt).cell 6).trans rfl; go_simp⟩) hS0 ?_
  simp only [Act.put, List.getElem_toArray, List.getElem_cons_zero, List.getElem_cons_succ, List.setIfInBounds_toArray, List.set_cons_zero, List.set_cons_succ]
  refine onlyG (i := 7) (by kernel_rfl) rfl (fun K hK => ?_)
  go_simp
  refine (HC.out.2.2.1 W0).mono ?_
  rintro e V1 ⟨rfl, hV1⟩
  refine hK.out _ _ hV1 (fun _ => ?_)
  clear hK K
  refine onlyG (i := 13) (by kernel_rfl) rfl (fun K hK => ?_)
  go_simp
  refine (HC.out.2.2.2.1 V1).mono ?_
  rintro e V2 ⟨⟨A2, c2', rfl, hS2⟩, hV2⟩
  have hVV := step_below hV1 hV2
  refine hK.out _ _ hVV (fun _ => ?_)
  clear hK K
  refine takeG0 (i := 14) (v := .tuple #[.slice A2 CL.length c2', .int .i64 1]) rfl (by kernel_rfl) (by kernel_rfl) (by kernel_rfl) (by kernel_rfl) (fun _ _ _ h => h) (Or.inl ⟨by rfl, fun W hW => by go_simp⟩) hVV ?_
  simp only [Act.put, List.getElem_toArray, List.getElem_cons_zero, List.getElem_cons_succ, List.setIfInBounds_toArray, List.set_cons_zero, List.set_cons_succ]
  refine takeG0 (i := 15) (v := .slice A2 CL.length c2') rfl (by kernel_rfl) (by kernel_rfl) (by kernel_rfl) (by kernel_rfl) (fun _ _ _ h => h) (Or.inl ⟨by rfl, fun W hW => by go_simp⟩) hVV ?_
  simp only [Act.put, List.getElem_toArray, List.getElem_cons_zero, List.getElem_cons_succ, List.setIfInBounds_toArray, List.set_cons_zero, List.set_cons_succ]
  refine takeG0 (i := 16) (v := .int .i64 1) rfl (by kernel_rfl) (by kernel_rfl) (by kernel_rfl) (by kernel_rfl) (fun _ _ _ h => h) (Or.inl ⟨by rfl, fun W hW => by go_simp⟩) hVV ?_
  simp only [Act.put, List.getElem_toArray, List.getElem_cons_zero, List.getElem_cons_succ, List.setIfInBounds_toArray, List.set_cons_zero, List.set_cons_succ]
  refine takeG0 (i := 17) (v := .slice A2 CL.length c2') rfl (by kernel_rfl) (by kernel_rfl) (by kernel_rfl) (by kernel_rfl) (fun _ _ _ h => h) (Or.inl ⟨by rfl, fun W hW => by go_simp⟩) hVV ?_
  simp only [Act.put, List.getElem_toArray, List.getElem_cons_zero, List.getElem_cons_succ, List.setIfInBounds_toArray, List.set_cons_zero, List.set_cons_succ]
  refine lastG (by kernel_rfl) rfl (by kernel_rfl) (fun K hK => ?_)
  go_simp
  refine hK.out _ _ ?_
  clear hK K
  have hSV := hSW.step hVV
  have HV := Lib.hid (step_below hbW.out hVV)
  have cS := same15 CL HC.out.2.2.2.2.1 A A2 cc c2' V2 hSV hS2
  clear hSV hS2 hSW hbW hVV hqW hW0 hS0 hV1 hV2
  go_wp2_with fail
  refine cS.mono ?_
  rintro e V3 ⟨rfl, hV3⟩
  have HZ := Lib.hid (step_below HV.out hV3)
  clear cS hV3
  go_wp2
  go_ret
  exact ⟨rfl, HZ.out⟩
theorem rwCode_true (k n a b call th t base arg : Int) (hb : 0 ≤ base ∧ base ≤ 65535) (ha : 0 ≤ arg ∧ arg ≤ 4294967295) (W : World) (hT : Tab W) (hO : ONam W) :
    Calls Tryz.prog 4 #[.agg #[.int .i64 k, .int .i64 n, .int .i64 a, .int .i64 b, .int .i64 call, .int .i64 th, .int .i64 t, .int .u16 base, .int .u32 arg]] W fun e W' => e = .returned (.bool true) ∧ Below W.heap.size W W' := by
  by_cases h : may15 k n a b call th t = true → k ≠ 14
  · exact rwCode_no k n a b call th t base arg ha hb h W hT hO
  · obtain ⟨h2, hy⟩ := Classical.not_imp.1 h
    clear h
    have hk : k = 14 := by omega
    subst hk
    obtain ⟨hth, ht, rfl, rfl, rfl, _⟩ := may15_rw h2
    obtain ⟨t', rfl⟩ : ∃ t' : Nat, t = (t' : Int) := ⟨t.toNat, by omega⟩
    obtain ⟨b', rfl⟩ : ∃ b' : Nat, base = (b' : Int) := ⟨base.toNat, by omega⟩
    exact rwCode_yes call th arg t' b' h2 (by omega) W hT hO
section
variable {H : Type} {enc : TypeId × Value → H} {W : World}
theorem elem_objR (n : Nat) (cs : List Value) (x : DataW H × List MemPlace) (h : DataW.trod enc Tryz.prog W 0 (fun _ => true) true n 46 cs = some x) : ∃ k n a b : Int, cs = [.int .i64 k, .int .i64 n, .int .i64 a, .int .i64 b] := by
  obtain ⟨xs, m, _, _, hlen, hxl, hg⟩ := DataW.trod_struct Tryz.underlying46 h
  have hcl : cs.length = 4 := hlen.trans (by kernel_rfl)
  match cs, hcl with
  | [c0, c1, c2, c3], _ =>
    have hz : ∀ i, i < 4 → ∃ y, xs[i]? = some y := fun i hi => ⟨xs[i]'(by rw [hxl]; exact hi), List.getElem?_eq_getElem _⟩
    obtain ⟨y0, e0⟩ := hz 0 (by omega)
    obtain ⟨y1, e1⟩ := hz 1 (by omega)
    obtain ⟨y2, e2⟩ := hz 2 (by omega)
    obtain ⟨y3, e3⟩ := hz 3 (by omega)
    obtain ⟨z0, q0, _, w0⟩ := DataW.trod_int Tryz.underlying3 ((show DataW.trod enc Tryz.prog W 0 (fun _ => true) true m 3 [c0] = xs[0]? from hg 0 _ rfl).trans e0)
    obtain ⟨z1, q1, _, w1⟩ := DataW.trod_int Tryz.underlying3 ((show DataW.trod enc Tryz.prog W 0 (fun _ => true) true m 3 [c1] = xs[1]? from hg 1 _ rfl).trans e1)
    obtain ⟨z2, q2, _, w2⟩ := DataW.trod_int Tryz.underlying3 ((show DataW.trod enc Tryz.prog W 0 (fun _ => true) true m 3 [c2] = xs[2]? from hg 2 _ rfl).trans e2)
    obtain ⟨z3, q3, _, w3⟩ := DataW.trod_int Tryz.underlying3 ((show DataW.trod enc Tryz.prog W 0 (fun _ => true) true m 3 [c3] = xs[3]? from hg 3 _ rfl).trans e3)
    simp only [List.cons.injEq, and_true] at q0 q1 q2 q3
    subst q0 q1 q2 q3
    exact ⟨z0, z1, z2, z3, rfl⟩
theorem elem_askR (n : Nat) (cs : List Value) (x : DataW H × List MemPlace) (h : DataW.trod enc Tryz.prog W 0 (fun _ => true) true n 49 cs = some x) :
    ∃ k n a b call th t base arg : Int, cs = [.int .i64 k, .int .i64 n, .int .i64 a, .int .i64 b, .int .i64 call, .int .i64 th, .int .i64 t, .int .u16 base, .int .u32 arg] ∧ (0 ≤ base ∧ base ≤ 65535) ∧ 0 ≤ arg ∧ arg ≤ 4294967295 := by
  obtain ⟨xs, m, _, _, hlen, hxl, hg⟩ := DataW.trod_struct Tryz.underlying49 h
  have hcl : cs.length = 9 := hlen.trans (by kernel_rfl)
  match cs, hcl with
  | [c0, c1, c2, c3, c4, c5, c6, c7, c8], _ =>
    have hz : ∀ i, i < 6 → ∃ y, xs[i]? = some y := fun i hi => ⟨xs[i]'(by rw [hxl]; exact hi), List.getElem?_eq_getElem _⟩
    obtain ⟨y0, e0⟩ := hz 0 (by omega)
    obtain ⟨y1, e1⟩ := hz 1 (by omega)
    obtain ⟨y2, e2⟩ := hz 2 (by omega)
    obtain ⟨y3, e3⟩ := hz 3 (by omega)
    obtain ⟨y4, e4⟩ := hz 4 (by omega)
    obtain ⟨y5, e5⟩ := hz 5 (by omega)
    obtain ⟨k, nn, a, b, q0⟩ := elem_objR _ _ _ ((show DataW.trod enc Tryz.prog W 0 (fun _ => true) true m 46 [c0, c1, c2, c3] = xs[0]? from hg 0 _ rfl).trans e0)
    obtain ⟨z1, q1, _, w1⟩ := DataW.trod_int Tryz.underlying3 ((show DataW.trod enc Tryz.prog W 0 (fun _ => true) true m 3 [c4] = xs[1]? from hg 1 _ rfl).trans e1)
    obtain ⟨z2, q2, _, w2⟩ := DataW.trod_int Tryz.underlying3 ((show DataW.trod enc Tryz.prog W 0 (fun _ => true) true m 3 [c5] = xs[2]? from hg 2 _ rfl).trans e2)
    obtain ⟨z3, q3, _, w3⟩ := DataW.trod_int Tryz.underlying3 ((show DataW.trod enc Tryz.prog W 0 (fun _ => true) true m 3 [c6] = xs[3]? from hg 3 _ rfl).trans e3)
    obtain ⟨z4, q4, _, w4⟩ := DataW.trod_int Tryz.underlying47 ((show DataW.trod enc Tryz.prog W 0 (fun _ => true) true m 47 [c7] = xs[4]? from hg 4 _ rfl).trans e4)
    obtain ⟨z5, q5, _, w5⟩ := DataW.trod_int Tryz.underlying42 ((show DataW.trod enc Tryz.prog W 0 (fun _ => true) true m 42 [c8] = xs[5]? from hg 5 _ rfl).trans e5)
    simp only [List.cons.injEq, and_true] at q0 q1 q2 q3 q4 q5
    obtain ⟨rfl, rfl, rfl, rfl⟩ := q0
    subst q1 q2 q3 q4 q5
    exact ⟨k, nn, a, b, z1, z2, z3, z4, z5, rfl, bounds_u16 w4, bounds_u32 w5⟩
theorem open_askR {b0 : Nat} {v : Value} {d : DataW H} {p : List MemPlace} (hv : Value.okWide Tryz.prog W .any b0 49 v) (h : DataW.Trod enc Tryz.prog W 0 (fun _ => true) true 49 v d p) :
    ∃ k n a b call th t base arg : Int, v = .agg #[.int .i64 k, .int .i64 n, .int .i64 a, .int .i64 b, .int .i64 call, .int .i64 th, .int .i64 t, .int .u16 base, .int .u32 arg] ∧ (0 ≤ base ∧ base ≤ 65535) ∧ 0 ≤ arg ∧ arg ≤ 4294967295 := by
  obtain ⟨cs, rfl, _⟩ := okWide_struct Tryz.underlying49 hv
  obtain ⟨fuel, hf⟩ := h
  obtain ⟨l⟩ := cs
  obtain ⟨k, n, a, b, call, th, t, base, arg, e, h1, h2⟩ := elem_askR _ _ _ hf
  have e' : l = [.int .i64 k, .int .i64 n, .int .i64 a, .int .i64 b, .int .i64 call, .int .i64 th, .int .i64 t, .int .u16 base, .int .u32 arg] := by simpa [Value.cells] using e
  exact ⟨k, n, a, b, call, th, t, base, arg, by rw [e'], h1, h2⟩
end
end Go.Proofs.YtmhfpjnkjlhbpaaGreatDoor

/- GateCode (printed by gen/gatem.py). -/
import Derived.Test.YtmhfpjnkjlhbpaaDoorGateY
namespace Go.Proofs.YtmhfpjnkjlhbpaaDoor
open Go.ChangeShapes Go.WideShapes Go.ChangeAt Go.RowKit Go.Deep
set_option linter.unusedVariables false
set_option maxRecDepth 100000
set_option linter.unusedSimpArgs false

set_option maxHeartbeats 4000000 in
theorem gateCode_no (k n a b call th t base arg : Int) (ha : 0 ≤ arg ∧ arg ≤ 4294967295) (hb : 0 ≤ base ∧ base ≤ 65535) (h : may15 k n a b call th t = true → k ≠ 12 ∧ k ≠ 13 ∧ k ≠ 15) (W : World) (hT : Tab W) (hO : ONam W) :
    Calls Tryd.prog 4 #[.agg #[.int .i64 k, .int .i64 n, .int .i64 a, .int .i64 b, .int .i64 call, .int .i64 th, .int .i64 t, .int .u16 base, .int .u32 arg]] W fun e W' => e = .returned (.bool true) ∧ Below W.heap.size W W' := by
  have hq := Blk.new W 27 #[.int .i64 k, .int .i64 n, .int .i64 a, .int .i64 b, .int .i64 call, .int .i64 th, .int .i64 t, .int .u16 base, .int .u32 arg]
  have hB := (Below.refl W.heap.size W).alloc (Nat.le_refl _) (.cells #[.int .i64 k, .int .i64 n, .int .i64 a, .int .i64 b, .int .i64 call, .int .i64 th, .int .i64 t, .int .u16 base, .int .u32 arg] 27)
  have hT1 := hT.step hB
  have hO1 := hO.step hB
  have cA := awake21_any _ hT1 hO1
  have cN := fun V hV => gate_no k n a b call th t base arg h V hV
  obtain ⟨m, hm⟩ : ∃ m, may15 k n a b call th t = m := ⟨_, rfl⟩
  have cM := fun V => r15_may k n a b call th t V
  rw [hm] at cM
  unfold objA at cM
  have hcond : m = true → k ≠ 12 ∧ k ≠ 13 ∧ k ≠ 15 := fun e1 => h (hm.trans e1)
  have wb : IntKind.u32.wrap base = base := IntWalk.u32_in _ (by omega)
  have HC := Lib.hid (And.intro cN (And.intro cM (And.intro hcond hO1)))
  clear cN cM hcond hm h hT hT1 hO hO1
  have q0 := (hq.cell 0).trans rfl
  have q1 := (hq.cell 1).trans rfl
  have q2 := (hq.cell 2).trans rfl
  have q3 := (hq.cell 3).trans rfl
  have q4 := (hq.cell 4).trans rfl
  have q5 := (hq.cell 5).trans rfl
  have q6 := (hq.cell 6).trans rfl
  have q7 := (hq.cell 7).trans rfl
  have q8 := (hq.cell 8).trans rfl
  go_enter Tryd.func4, Tryd.ntmps4
  go_wp2_with fail
  refine cA.mono ?_
  rintro e W1 ⟨rfl, hB1⟩
  have hq1 := hq.below hB1 hq.lt
  have hb1 := step_below hB hB1
  have hO2 := HC.out.2.2.2.step hB1
  clear cA q0 q1 q2 q3 q4 q5 q6 q7 q8 hq hB hB1
  have q0 := (hq1.cell 0).trans rfl
  have q1 := (hq1.cell 1).trans rfl
  have q2 := (hq1.cell 2).trans rfl
  have q3 := (hq1.cell 3).trans rfl
  have q4 := (hq1.cell 4).trans rfl
  have q5 := (hq1.cell 5).trans rfl
  have q6 := (hq1.cell 6).trans rfl
  have q7 := (hq1.cell 7).trans rfl
  have q8 := (hq1.cell 8).trans rfl
  go_wp2_with fail
  refine (HC.out.1 _ hO2).mono ?_
  rintro e W2 ⟨rfl, hB2⟩
  have hq2 := hq1.below hB2 hq1.lt
  have hb2 := step_below hb1 hB2
  clear q0 q1 q2 q3 q4 q5 q6 q7 q8 hq1 hb1 hB2 hO2
  have q0 := (hq2.cell 0).trans rfl
  have q1 := (hq2.cell 1).trans rfl
  have q2 := (hq2.cell 2).trans rfl
  have q3 := (hq2.cell 3).trans rfl
  have q4 := (hq2.cell 4).trans rfl
  have q5 := (hq2.cell 5).trans rfl
  have q6 := (hq2.cell 6).trans rfl
  have q7 := (hq2.cell 7).trans rfl
  have q8 := (hq2.cell 8).trans rfl
  go_wp2_with fail
  refine (HC.out.2.1 _).mono ?_
  rintro e W3 ⟨rfl, hB3⟩
  have hq3 := hq2.below hB3 hq2.lt
  have hb3 := Lib.hid (step_below hb2 hB3)
  clear q0 q1 q2 q3 q4 q5 q6 q7 q8 hq2 hb2 hB3
  have q0 := (hq3.cell 0).trans rfl
  have q1 := (hq3.cell 1).trans rfl
  have q2 := (hq3.cell 2).trans rfl
  have q3 := (hq3.cell 3).trans rfl
  have q4 := (hq3.cell 4).trans rfl
  have q5 := (hq3.cell 5).trans rfl
  have q6 := (hq3.cell 6).trans rfl
  have q7 := (hq3.cell 7).trans rfl
  have q8 := (hq3.cell 8).trans rfl
  clear hq3
  cases m with
  | false =>
    clear HC
    go_wp2
    go_ret
    exact ⟨rfl, hb3.out⟩
  | true =>
    obtain ⟨h1, h2, h3⟩ := HC.out.2.2.1 rfl
    have k1 : (k != 12) = true := by simp [h1]
    have k2 : (k != 13) = true := by simp [h2]
    have k3 : (k != 15) = true := by simp [h3]
    clear HC h1 h2 h3
    go_wp2
    go_ret
    exact ⟨rfl, hb3.out⟩
set_option maxHeartbeats 8000000 in
theorem gateCode_yes12 (n call th arg : Int) (t base : Nat) (hm : may15 12 n 0 0 call th t = true) (hb : base ≤ 65535) (ha : 0 ≤ arg ∧ arg ≤ 4294967295) (W : World) (hT : Tab W) (hO : ONam W) :
    Calls Tryd.prog 4 #[.agg #[.int .i64 12, .int .i64 n, .int .i64 0, .int .i64 0, .int .i64 call, .int .i64 th, .int .i64 (t : Int), .int .u16 (base : Int), .int .u32 arg]] W fun e W' => e = .returned (.bool true) ∧ Below W.heap.size W W' := by
  have hq := Blk.new W 27 #[.int .i64 12, .int .i64 n, .int .i64 0, .int .i64 0, .int .i64 call, .int .i64 th, .int .i64 (t : Int), .int .u16 (base : Int), .int .u32 arg]
  have hB := (Below.refl W.heap.size W).alloc (Nat.le_refl _) (.cells #[.int .i64 12, .int .i64 n, .int .i64 0, .int .i64 0, .int .i64 call, .int .i64 th, .int .i64 (t : Int), .int .u16 (base : Int), .int .u32 arg] 27)
  have hT1 := hT.step hB
  have hO1 := hO.step hB
  have cA := awake21_any _ hT1 hO1
  obtain ⟨T, hG⟩ := gate_both 12 n call th arg t base (by decide) hm hb ha
  have hms := may15_gate hm (by decide)
  have cN := hG.code
  have cX := hG.text
  have cM := fun V => r15_may 12 n 0 0 call th t V
  rw [hm] at cM
  unfold objA at cM
  have cR := fun V => refG_code T base t hb (by omega) hG.ok V
  have hl := hG.ok.codeLen
  obtain ⟨TX, hTX⟩ : ∃ TX, tplT T = TX := ⟨_, rfl⟩
  rw [hTX] at cX cR
  generalize codeT base t T = CL at cN cR hl
  have wb : IntKind.u32.wrap (base : Int) = (base : Int) := IntWalk.u32_in _ (by omega)
  have wb2 : IntKind.i64.wrap (base : Int) = (base : Int) := IntWalk.i64_in _ (by omega)
  have HC := Lib.hid (And.intro cN (And.intro cM (And.intro cX (And.intro cR (And.intro hl (And.intro hT1 hO1))))))
  clear cN cM cX cR hl hm hT hT1 hO hO1 hTX ha hb hms hG
  have q0 := (hq.cell 0).trans rfl
  have q1 := (hq.cell 1).trans rfl
  have q2 := (hq.cell 2).trans rfl
  have q3 := (hq.cell 3).trans rfl
  have q4 := (hq.cell 4).trans rfl
  have q5 := (hq.cell 5).trans rfl
  have q6 := (hq.cell 6).trans rfl
  have q7 := (hq.cell 7).trans rfl
  have q8 := (hq.cell 8).trans rfl
  go_enter Tryd.func4, Tryd.ntmps4
  go_wp2_with fail
  refine cA.mono ?_
  rintro e W1 ⟨rfl, hB1⟩
  have hq1 := hq.below hB1 hq.lt
  have hb1 := step_below hB hB1
  have hT1 := HC.out.2.2.2.2.2.1.step hB1
  have hO1 := HC.out.2.2.2.2.2.2.step hB1
  clear cA q0 q1 q2 q3 q4 q5 q6 q7 q8 hq hB hB1
  have q0 := (hq1.cell 0).trans rfl
  have q1 := (hq1.cell 1).trans rfl
  have q2 := (hq1.cell 2).trans rfl
  have q3 := (hq1.cell 3).trans rfl
  have q4 := (hq1.cell 4).trans rfl
  have q5 := (hq1.cell 5).trans rfl
  have q6 := (hq1.cell 6).trans rfl
  have q7 := (hq1.cell 7).trans rfl
  have q8 := (hq1.cell 8).trans rfl
  go_wp2_with fail
  refine (HC.out.1 _ hT1 hO1).mono ?_
  rintro e W2 ⟨⟨v, rfl, hO⟩, hB2⟩
  obtain ⟨A, cc, rfl, hS⟩ := hO.sleG
  have hq2 := hq1.below hB2 hq1.lt
  have hb2 := step_below hb1 hB2
  clear q0 q1 q2 q3 q4 q5 q6 q7 q8 hq1 hb1 hB2 hT1 hO hO1
  have q0 := (hq2.cell 0).trans rfl
  have q1 := (hq2.cell 1).trans rfl
  have q2 := (hq2.cell 2).trans rfl
  have q3 := (hq2.cell 3).trans rfl
  have q4 := (hq2.cell 4).trans rfl
  have q5 := (hq2.cell 5).trans rfl
  have q6 := (hq2.cell 6).trans rfl
  have q7 := (hq2.cell 7).trans rfl
  have q8 := (hq2.cell 8).trans rfl
  go_wp2_with fail
  refine (HC.out.2.1 _).mono ?_
  rintro e W3 ⟨rfl, hB3⟩
  have hq3 := hq2.below hB3 hq2.lt
  have hb3 := step_below hb2 hB3
  have hS3 := hS.step hB3
  clear q0 q1 q2 q3 q4 q5 q6 q7 q8 hq2 hb2 hB3 hS
  have q0 := (hq3.cell 0).trans rfl
  have q1 := (hq3.cell 1).trans rfl
  have q2 := (hq3.cell 2).trans rfl
  have q3 := (hq3.cell 3).trans rfl
  have q4 := (hq3.cell 4).trans rfl
  have q5 := (hq3.cell 5).trans rfl
  have q6 := (hq3.cell 6).trans rfl
  have q7 := (hq3.cell 7).trans rfl
  have q8 := (hq3.cell 8).trans rfl
  have HQ := Lib.hid (And.intro hq3 (And.intro hb3 hS3))
  clear hq3 hb3 hS3
  go_wp2
  clear q0 q1 q2 q3 q4 q5 q6 q7 q8
  refine startG (fun W' => Below W3.drew.heap.size W3.drew W') 24 (by kernel_rfl) ?_
  have hW0 : Below W3.heap.size W3 W3.drew := ⟨rfl, rfl, rfl, Nat.le_refl _, fun _ _ => rfl⟩
  have hqW := HQ.out.1.below hW0 HQ.out.1.lt
  have hbW := Lib.hid (step_below HQ.out.2.1 hW0)
  have hSW := HQ.out.2.2.step hW0
  clear HQ
  generalize W3.drew = W0 at hW0 hqW hbW hSW ⊢
  have hS0 : Below W0.heap.size W0 W0 := Below.refl _ _
  refine takeG0 (i := 0) (v := .int .i64 12) rfl (by kernel_rfl) (by kernel_rfl) (by kernel_rfl) (by kernel_rfl) (fun _ _ _ h => h) (Or.inl ⟨by rfl, fun W hW => by go_simp⟩) hS0 ?_
  simp only [Act.put, List.getElem_toArray, List.getElem_cons_zero, List.getElem_cons_succ, List.setIfInBounds_toArray, List.set_cons_zero, List.set_cons_succ]
  refine takeG0 (i := 1) (v := .pointer (some ⟨W.heap.size, 4, none⟩)) rfl (by kernel_rfl) (by kernel_rfl) (by kernel_rfl) (by kernel_rfl) (fun _ _ _ h => h) (Or.inl ⟨by rfl, fun W hW => by go_simp⟩) hS0 ?_
  simp only [Act.put, List.getElem_toArray, List.getElem_cons_zero, List.getElem_cons_succ, List.setIfInBounds_toArray, List.set_cons_zero, List.set_cons_succ]
  refine takeG (i := 2) (v := .int .i64 call) rfl (by kernel_rfl) (by kernel_rfl) (by kernel_rfl) (by kernel_rfl) (fun _ _ _ h => h) (Or.inl ⟨by rfl, fun W hW => by have q := ((hqW.below hW hqW.lt).cell 4).trans rfl; go_simp⟩) hS0 ?_
  simp only [Act.put, List.getElem_toArray, List.getElem_cons_zero, List.getElem_cons_succ, List.setIfInBounds_toArray, List.set_cons_zero, List.set_cons_succ]
  refine takeG0 (i := 3) (v := .pointer (some ⟨W.heap.size, 0, none⟩)) rfl (by kernel_rfl) (by kernel_rfl) (by kernel_rfl) (by kernel_rfl) (fun _ _ _ h => h) (Or.inl ⟨by rfl, fun W hW => by go_simp⟩) hS0 ?_
  simp only [Act.put, List.getElem_toArray, List.getElem_cons_zero, List.getElem_cons_succ, List.setIfInBounds_toArray, List.set_cons_zero, List.set_cons_succ]
  refine takeG0 (i := 4) (v := .pointer (some ⟨W.heap.size, 1, none⟩)) rfl (by kernel_rfl) (by kernel_rfl) (by kernel_rfl) (by kernel_rfl) (fun _ _ _ h => h) (Or.inl ⟨by rfl, fun W hW => by go_simp⟩) hS0 ?_
  simp only [Act.put, List.getElem_toArray, List.getElem_cons_zero, List.getElem_cons_succ, List.setIfInBounds_toArray, List.set_cons_zero, List.set_cons_succ]
  refine takeG (i := 5) (v := .int .i64 n) rfl (by kernel_rfl) (by kernel_rfl) (by kernel_rfl) (by kernel_rfl) (fun _ _ _ h => h) (Or.inl ⟨by rfl, fun W hW => by have q := ((hqW.below hW hqW.lt).cell 1).trans rfl; go_simp⟩) hS0 ?_
  simp only [Act.put, List.getElem_toArray, List.getElem_cons_zero, List.getElem_cons_succ, List.setIfInBounds_toArray, List.set_cons_zero, List.set_cons_succ]
  refine takeG0 (i := 6) (v := .pointer (some ⟨W.heap.size, 6, none⟩)) rfl (by kernel_rfl) (by kernel_rfl) (by kernel_rfl) (by kernel_rfl) (fun _ _ _ h => h) (Or.inl ⟨by rfl, fun W hW => by go_simp⟩) hS0 ?_
  simp only [Act.put, List.getElem_toArray, List.getElem_cons_zero, List.getElem_cons_succ, List.setIfInBounds_toArray, List.set_cons_zero, List.set_cons_succ]
  refine takeG (i := 7) (v := .int .i64 (t : Int)) rfl (by kernel_rfl) (by kernel_rfl) (by kernel_rfl) (by kernel_rfl) (fun _ _ _ h => h) (Or.inl ⟨by rfl, fun W hW => by have q := ((hqW.below hW hqW.lt).cell 6).trans rfl; go_simp⟩) hS0 ?_
  simp only [Act.put, List.getElem_toArray, List.getElem_cons_zero, List.getElem_cons_succ, List.setIfInBounds_toArray, List.set_cons_zero, List.set_cons_succ]
  refine takeG0 (i := 8) (v := .pointer (some ⟨W.heap.size, 7, none⟩)) rfl (by kernel_rfl) (by kernel_rfl) (by kernel_rfl) (by kernel_rfl) (fun _ _ _ h => h) (Or.inl ⟨by rfl, fun W hW => by go_simp⟩) hS0 ?_
  simp only [Act.put, List.getElem_toArray, List.getElem_cons_zero, List.getElem_cons_succ, List.setIfInBounds_toArray, List.set_cons_zero, List.set_cons_succ]
  refine takeG (i := 9) (v := .int .u16 (base : Int)) rfl (by kernel_rfl) (by kernel_rfl) (by kernel_rfl) (by kernel_rfl) (fun _ _ _ h => h) (Or.inl ⟨by rfl, fun W hW => by have q := ((hqW.below hW hqW.lt).cell 7).trans rfl; go_simp⟩) hS0 ?_
  simp only [Act.put, List.getElem_toArray, List.getElem_cons_zero, List.getElem_cons_succ, List.setIfInBounds_toArray, List.set_cons_zero, List.set_cons_succ]
  refine takeG0 (i := 10) (v := .int .i64 (base : Int)) rfl (by kernel_rfl) (by kernel_rfl) (by kernel_rfl) (by kernel_rfl) (fun _ _ _ h => h) (Or.inl ⟨by rfl, fun W hW => by go_simp⟩) hS0 ?_
  simp only [Act.put, List.getElem_toArray, List.getElem_cons_zero, List.getElem_cons_succ, List.setIfInBounds_toArray, List.set_cons_zero, List.set_cons_succ]
  refine takeG0 (i := 11) (v := .pointer (some ⟨W.heap.size, 8, none⟩)) rfl (by kernel_rfl) (by kernel_rfl) (by kernel_rfl) (by kernel_rfl) (fun _ _ _ h => h) (Or.inl ⟨by rfl, fun W hW => by go_simp⟩) hS0 ?_
  simp only [Act.put, List.getElem_toArray, List.getElem_cons_zero, List.getElem_cons_succ, List.setIfInBounds_toArray, List.set_cons_zero, List.set_cons_succ]
  refine takeG (i := 12) (v := .int .u32 arg) rfl (by kernel_rfl) (by kernel_rfl) (by kernel_rfl) (by kernel_rfl) (fun _ _ _ h => h) (Or.inl ⟨by rfl, fun W hW => by have q := ((hqW.below hW hqW.lt).cell 8).trans rfl; go_simp⟩) hS0 ?_
  simp only [Act.put, List.getElem_toArray, List.getElem_cons_zero, List.getElem_cons_succ, List.setIfInBounds_toArray, List.set_cons_zero, List.set_cons_succ]
  refine takeG0 (i := 14) (v := .pointer (some ⟨W.heap.size, 7, none⟩)) rfl (by kernel_rfl) (by kernel_rfl) (by kernel_rfl) (by kernel_rfl) (fun _ _ _ h => h) (Or.inl ⟨by rfl, fun W hW => by go_simp⟩) hS0 ?_
  simp only [Act.put, List.getElem_toArray, List.getElem_cons_zero, List.getElem_cons_succ, List.setIfInBounds_toArray, List.set_cons_zero, List.set_cons_succ]
  refine takeG (i := 15) (v := .int .u16 (base : Int)) rfl (by kernel_rfl) (by kernel_rfl) (by kernel_rfl) (by kernel_rfl) (fun _ _ _ h => h) (Or.inl ⟨by rfl, fun W hW => by have q := ((hqW.below hW hqW.lt).cell 7).trans rfl; go_simp⟩) hS0 ?_
  simp only [Act.put, List.getElem_toArray, List.getElem_cons_zero, List.getElem_cons_succ, List.setIfInBounds_toArray, List.set_cons_zero, List.set_cons_succ]
  refine takeG0 (i := 16) (v := .int .i64 (base : Int)) rfl (by kernel_rfl) (by kernel_rfl) (by kernel_rfl) (by kernel_rfl) (fun _ _ _ h => h) (Or.inl ⟨by rfl, fun W hW => by go_simp⟩) hS0 ?_
  simp only [Act.put, List.getElem_toArray, List.getElem_cons_zero, List.getElem_cons_succ, List.setIfInBounds_toArray, List.set_cons_zero, List.set_cons_succ]
  refine takeG0 (i := 17) (v := .pointer (some ⟨W.heap.size, 6, none⟩)) rfl (by kernel_rfl) (by kernel_rfl) (by kernel_rfl) (by kernel_rfl) (fun _ _ _ h => h) (Or.inl ⟨by rfl, fun W hW => by go_simp⟩) hS0 ?_
  simp only [Act.put, List.getElem_toArray, List.getElem_cons_zero, List.getElem_cons_succ, List.setIfInBounds_toArray, List.set_cons_zero, List.set_cons_succ]
  refine takeG (i := 18) (v := .int .i64 (t : Int)) rfl (by kernel_rfl) (by kernel_rfl) (by kernel_rfl) (by kernel_rfl) (fun _ _ _ h => h) (Or.inl ⟨by rfl, fun W hW => by have q := ((hqW.below hW hqW.lt).cell 6).trans rfl; go_simp⟩) hS0 ?_
  simp only [Act.put, List.getElem_toArray, List.getElem_cons_zero, List.getElem_cons_succ, List.setIfInBounds_toArray, List.set_cons_zero, List.set_cons_succ]
  refine onlyG (i := 13) (by kernel_rfl) rfl (fun K hK => ?_)
  go_simp
  refine (HC.out.2.2.1 W0).mono ?_
  rintro e V1 ⟨rfl, hV1⟩
  refine hK.out _ _ hV1 (fun _ => ?_)
  clear hK K
  refine onlyG (i := 19) (by kernel_rfl) rfl (fun K hK => ?_)
  go_simp
  refine (HC.out.2.2.2.1 V1).mono ?_
  rintro e V2 ⟨⟨A2, c2', rfl, hS2⟩, hV2⟩
  have hVV := step_below hV1 hV2
  refine hK.out _ _ hVV (fun _ => ?_)
  clear hK K
  refine takeG0 (i := 20) (v := .tuple #[.slice A2 CL.length c2', .int .i64 1]) rfl (by kernel_rfl) (by kernel_rfl) (by kernel_rfl) (by kernel_rfl) (fun _ _ _ h => h) (Or.inl ⟨by rfl, fun W hW => by go_simp⟩) hVV ?_
  simp only [Act.put, List.getElem_toArray, List.getElem_cons_zero, List.getElem_cons_succ, List.setIfInBounds_toArray, List.set_cons_zero, List.set_cons_succ]
  refine takeG0 (i := 21) (v := .slice A2 CL.length c2') rfl (by kernel_rfl) (by kernel_rfl) (by kernel_rfl) (by kernel_rfl) (fun _ _ _ h => h) (Or.inl ⟨by rfl, fun W hW => by go_simp⟩) hVV ?_
  simp only [Act.put, List.getElem_toArray, List.getElem_cons_zero, List.getElem_cons_succ, List.setIfInBounds_toArray, List.set_cons_zero, List.set_cons_succ]
  refine takeG0 (i := 22) (v := .int .i64 1) rfl (by kernel_rfl) (by kernel_rfl) (by kernel_rfl) (by kernel_rfl) (fun _ _ _ h => h) (Or.inl ⟨by rfl, fun W hW => by go_simp⟩) hVV ?_
  simp only [Act.put, List.getElem_toArray, List.getElem_cons_zero, List.getElem_cons_succ, List.setIfInBounds_toArray, List.set_cons_zero, List.set_cons_succ]
  refine takeG0 (i := 23) (v := .slice A2 CL.length c2') rfl (by kernel_rfl) (by kernel_rfl) (by kernel_rfl) (by kernel_rfl) (fun _ _ _ h => h) (Or.inl ⟨by rfl, fun W hW => by go_simp⟩) hVV ?_
  simp only [Act.put, List.getElem_toArray, List.getElem_cons_zero, List.getElem_cons_succ, List.setIfInBounds_toArray, List.set_cons_zero, List.set_cons_succ]
  refine lastG (by kernel_rfl) rfl (by kernel_rfl) (fun K hK => ?_)
  go_simp
  refine hK.out _ _ ?_
  clear hK K
  have hSV := hSW.step hVV
  have HV := Lib.hid (step_below hbW.out hVV)
  have cS := same15 CL HC.out.2.2.2.2.1 A A2 cc c2' V2 hSV hS2
  clear hSV hS2 hSW hbW hVV hqW hW0 hS0 hV1 hV2
  go_wp2_with fail
  refine cS.mono ?_
  rintro e V3 ⟨rfl, hV3⟩
  have HZ := Lib.hid (step_below HV.out hV3)
  clear cS hV3
  go_wp2
  go_ret
  exact ⟨rfl, HZ.out⟩
set_option maxHeartbeats 8000000 in
theorem gateCode_yes13 (n call th arg : Int) (t base : Nat) (hm : may15 13 n 0 0 call th t = true) (hb : base ≤ 65535) (ha : 0 ≤ arg ∧ arg ≤ 4294967295) (W : World) (hT : Tab W) (hO : ONam W) :
    Calls Tryd.prog 4 #[.agg #[.int .i64 13, .int .i64 n, .int .i64 0, .int .i64 0, .int .i64 call, .int .i64 th, .int .i64 (t : Int), .int .u16 (base : Int), .int .u32 arg]] W fun e W' => e = .returned (.bool true) ∧ Below W.heap.size W W' := by
  have hq := Blk.new W 27 #[.int .i64 13, .int .i64 n, .int .i64 0, .int .i64 0, .int .i64 call, .int .i64 th, .int .i64 (t : Int), .int .u16 (base : Int), .int .u32 arg]
  have hB := (Below.refl W.heap.size W).alloc (Nat.le_refl _) (.cells #[.int .i64 13, .int .i64 n, .int .i64 0, .int .i64 0, .int .i64 call, .int .i64 th, .int .i64 (t : Int), .int .u16 (base : Int), .int .u32 arg] 27)
  have hT1 := hT.step hB
  have hO1 := hO.step hB
  have cA := awake21_any _ hT1 hO1
  obtain ⟨T, hG⟩ := gate_both 13 n call th arg t base (by decide) hm hb ha
  have hms := may15_gate hm (by decide)
  have cN := hG.code
  have cX := hG.text
  have cM := fun V => r15_may 13 n 0 0 call th t V
  rw [hm] at cM
  unfold objA at cM
  have cR := fun V => refG_code T base t hb (by omega) hG.ok V
  have hl := hG.ok.codeLen
  obtain ⟨TX, hTX⟩ : ∃ TX, tplT T = TX := ⟨_, rfl⟩
  rw [hTX] at cX cR
  generalize codeT base t T = CL at cN cR hl
  have wb : IntKind.u32.wrap (base : Int) = (base : Int) := IntWalk.u32_in _ (by omega)
  have wb2 : IntKind.i64.wrap (base : Int) = (base : Int) := IntWalk.i64_in _ (by omega)
  have HC := Lib.hid (And.intro cN (And.intro cM (And.intro cX (And.intro cR (And.intro hl (And.intro hT1 hO1))))))
  clear cN cM cX cR hl hm hT hT1 hO hO1 hTX ha hb hms hG
  have q0 := (hq.cell 0).trans rfl
  have q1 := (hq.cell 1).trans rfl
  have q2 := (hq.cell 2).trans rfl
  have q3 := (hq.cell 3).trans rfl
  have q4 := (hq.cell 4).trans rfl
  have q5 := (hq.cell 5).trans rfl
  have q6 := (hq.cell 6).trans rfl
  have q7 := (hq.cell 7).trans rfl
  have q8 := (hq.cell 8).trans rfl
  go_enter Tryd.func4, Tryd.ntmps4
  go_wp2_with fail
  refine cA.mono ?_
  rintro e W1 ⟨rfl, hB1⟩
  have hq1 := hq.below hB1 hq.lt
  have hb1 := step_below hB hB1
  have hT1 := HC.out.2.2.2.2.2.1.step hB1
  have hO1 := HC.out.2.2.2.2.2.2.step hB1
  clear cA q0 q1 q2 q3 q4 q5 q6 q7 q8 hq hB hB1
  have q0 := (hq1.cell 0).trans rfl
  have q1 := (hq1.cell 1).trans rfl
  have q2 := (hq1.cell 2).trans rfl
  have q3 := (hq1.cell 3).trans rfl
  have q4 := (hq1.cell 4).trans rfl
  have q5 := (hq1.cell 5).trans rfl
  have q6 := (hq1.cell 6).trans rfl
  have q7 := (hq1.cell 7).trans rfl
  have q8 := (hq1.cell 8).trans rfl
  go_wp2_with fail
  refine (HC.out.1 _ hT1 hO1).mono ?_
  rintro e W2 ⟨⟨v, rfl, hO⟩, hB2⟩
  obtain ⟨A, cc, rfl, hS⟩ := hO.sleG
  have hq2 := hq1.below hB2 hq1.lt
  have hb2 := step_below hb1 hB2
  clear q0 q1 q2 q3 q4 q5 q6 q7 q8 hq1 hb1 hB2 hT1 hO hO1
  have q0 := (hq2.cell 0).trans rfl
  have q1 := (hq2.cell 1).trans rfl
  have q2 := (hq2.cell 2).trans rfl
  have q3 := (hq2.cell 3).trans rfl
  have q4 := (hq2.cell 4).trans rfl
  have q5 := (hq2.cell 5).trans rfl
  have q6 := (hq2.cell 6).trans rfl
  have q7 := (hq2.cell 7).trans rfl
  have q8 := (hq2.cell 8).trans rfl
  go_wp2_with fail
  refine (HC.out.2.1 _).mono ?_
  rintro e W3 ⟨rfl, hB3⟩
  have hq3 := hq2.below hB3 hq2.lt
  have hb3 := step_below hb2 hB3
  have hS3 := hS.step hB3
  clear q0 q1 q2 q3 q4 q5 q6 q7 q8 hq2 hb2 hB3 hS
  have q0 := (hq3.cell 0).trans rfl
  have q1 := (hq3.cell 1).trans rfl
  have q2 := (hq3.cell 2).trans rfl
  have q3 := (hq3.cell 3).trans rfl
  have q4 := (hq3.cell 4).trans rfl
  have q5 := (hq3.cell 5).trans rfl
  have q6 := (hq3.cell 6).trans rfl
  have q7 := (hq3.cell 7).trans rfl
  have q8 := (hq3.cell 8).trans rfl
  have HQ := Lib.hid (And.intro hq3 (And.intro hb3 hS3))
  clear hq3 hb3 hS3
  go_wp2
  clear q0 q1 q2 q3 q4 q5 q6 q7 q8
  refine startG (fun W' => Below W3.drew.heap.size W3.drew W') 24 (by kernel_rfl) ?_
  have hW0 : Below W3.heap.size W3 W3.drew := ⟨rfl, rfl, rfl, Nat.le_refl _, fun _ _ => rfl⟩
  have hqW := HQ.out.1.below hW0 HQ.out.1.lt
  have hbW := Lib.hid (step_below HQ.out.2.1 hW0)
  have hSW := HQ.out.2.2.step hW0
  clear HQ
  generalize W3.drew = W0 at hW0 hqW hbW hSW ⊢
  have hS0 : Below W0.heap.size W0 W0 := Below.refl _ _
  refine takeG0 (i := 0) (v := .int .i64 13) rfl (by kernel_rfl) (by kernel_rfl) (by kernel_rfl) (by kernel_rfl) (fun _ _ _ h => h) (Or.inl ⟨by rfl, fun W hW => by go_simp⟩) hS0 ?_
  simp only [Act.put, List.getElem_toArray, List.getElem_cons_zero, List.getElem_cons_succ, List.setIfInBounds_toArray, List.set_cons_zero, List.set_cons_succ]
  refine takeG0 (i := 1) (v := .pointer (some ⟨W.heap.size, 4, none⟩)) rfl (by kernel_rfl) (by kernel_rfl) (by kernel_rfl) (by kernel_rfl) (fun _ _ _ h => h) (Or.inl ⟨by rfl, fun W hW => by go_simp⟩) hS0 ?_
  simp only [Act.put, List.getElem_toArray, List.getElem_cons_zero, List.getElem_cons_succ, List.setIfInBounds_toArray, List.set_cons_zero, List.set_cons_succ]
  refine takeG (i := 2) (v := .int .i64 call) rfl (by kernel_rfl) (by kernel_rfl) (by kernel_rfl) (by kernel_rfl) (fun _ _ _ h => h) (Or.inl ⟨by rfl, fun W hW => by have q := ((hqW.below hW hqW.lt).cell 4).trans rfl; go_simp⟩) hS0 ?_
  simp only [Act.put, List.getElem_toArray, List.getElem_cons_zero, List.getElem_cons_succ, List.setIfInBounds_toArray, List.set_cons_zero, List.set_cons_succ]
  refine takeG0 (i := 3) (v := .pointer (some ⟨W.heap.size, 0, none⟩)) rfl (by kernel_rfl) (by kernel_rfl) (by kernel_rfl) (by kernel_rfl) (fun _ _ _ h => h) (Or.inl ⟨by rfl, fun W hW => by go_simp⟩) hS0 ?_
  simp only [Act.put, List.getElem_toArray, List.getElem_cons_zero, List.getElem_cons_succ, List.setIfInBounds_toArray, List.set_cons_zero, List.set_cons_succ]
  refine takeG0 (i := 4) (v := .pointer (some ⟨W.heap.size, 1, none⟩)) rfl (by kernel_rfl) (by kernel_rfl) (by kernel_rfl) (by kernel_rfl) (fun _ _ _ h => h) (Or.inl ⟨by rfl, fun W hW => by go_simp⟩) hS0 ?_
  simp only [Act.put, List.getElem_toArray, List.getElem_cons_zero, List.getElem_cons_succ, List.setIfInBounds_toArray, List.set_cons_zero, List.set_cons_succ]
  refine takeG (i := 5) (v := .int .i64 n) rfl (by kernel_rfl) (by kernel_rfl) (by kernel_rfl) (by kernel_rfl) (fun _ _ _ h => h) (Or.inl ⟨by rfl, fun W hW => by have q := ((hqW.below hW hqW.lt).cell 1).trans rfl; go_simp⟩) hS0 ?_
  simp only [Act.put, List.getElem_toArray, List.getElem_cons_zero, List.getElem_cons_succ, List.setIfInBounds_toArray, List.set_cons_zero, List.set_cons_succ]
  refine takeG0 (i := 6) (v := .pointer (some ⟨W.heap.size, 6, none⟩)) rfl (by kernel_rfl) (by kernel_rfl) (by kernel_rfl) (by kernel_rfl) (fun _ _ _ h => h) (Or.inl ⟨by rfl, fun W hW => by go_simp⟩) hS0 ?_
  simp only [Act.put, List.getElem_toArray, List.getElem_cons_zero, List.getElem_cons_succ, List.setIfInBounds_toArray, List.set_cons_zero, List.set_cons_succ]
  refine takeG (i := 7) (v := .int .i64 (t : Int)) rfl (by kernel_rfl) (by kernel_rfl) (by kernel_rfl) (by kernel_rfl) (fun _ _ _ h => h) (Or.inl ⟨by rfl, fun W hW => by have q := ((hqW.below hW hqW.lt).cell 6).trans rfl; go_simp⟩) hS0 ?_
  simp only [Act.put, List.getElem_toArray, List.getElem_cons_zero, List.getElem_cons_succ, List.setIfInBounds_toArray, List.set_cons_zero, List.set_cons_succ]
  refine takeG0 (i := 8) (v := .pointer (some ⟨W.heap.size, 7, none⟩)) rfl (by kernel_rfl) (by kernel_rfl) (by kernel_rfl) (by kernel_rfl) (fun _ _ _ h => h) (Or.inl ⟨by rfl, fun W hW => by go_simp⟩) hS0 ?_
  simp only [Act.put, List.getElem_toArray, List.getElem_cons_zero, List.getElem_cons_succ, List.setIfInBounds_toArray, List.set_cons_zero, List.set_cons_succ]
  refine takeG (i := 9) (v := .int .u16 (base : Int)) rfl (by kernel_rfl) (by kernel_rfl) (by kernel_rfl) (by kernel_rfl) (fun _ _ _ h => h) (Or.inl ⟨by rfl, fun W hW => by have q := ((hqW.below hW hqW.lt).cell 7).trans rfl; go_simp⟩) hS0 ?_
  simp only [Act.put, List.getElem_toArray, List.getElem_cons_zero, List.getElem_cons_succ, List.setIfInBounds_toArray, List.set_cons_zero, List.set_cons_succ]
  refine takeG0 (i := 10) (v := .int .i64 (base : Int)) rfl (by kernel_rfl) (by kernel_rfl) (by kernel_rfl) (by kernel_rfl) (fun _ _ _ h => h) (Or.inl ⟨by rfl, fun W hW => by go_simp⟩) hS0 ?_
  simp only [Act.put, List.getElem_toArray, List.getElem_cons_zero, List.getElem_cons_succ, List.setIfInBounds_toArray, List.set_cons_zero, List.set_cons_succ]
  refine takeG0 (i := 11) (v := .pointer (some ⟨W.heap.size, 8, none⟩)) rfl (by kernel_rfl) (by kernel_rfl) (by kernel_rfl) (by kernel_rfl) (fun _ _ _ h => h) (Or.inl ⟨by rfl, fun W hW => by go_simp⟩) hS0 ?_
  simp only [Act.put, List.getElem_toArray, List.getElem_cons_zero, List.getElem_cons_succ, List.setIfInBounds_toArray, List.set_cons_zero, List.set_cons_succ]
  refine takeG (i := 12) (v := .int .u32 arg) rfl (by kernel_rfl) (by kernel_rfl) (by kernel_rfl) (by kernel_rfl) (fun _ _ _ h => h) (Or.inl ⟨by rfl, fun W hW => by have q := ((hqW.below hW hqW.lt).cell 8).trans rfl; go_simp⟩) hS0 ?_
  simp only [Act.put, List.getElem_toArray, List.getElem_cons_zero, List.getElem_cons_succ, List.setIfInBounds_toArray, List.set_cons_zero, List.set_cons_succ]
  refine takeG0 (i := 14) (v := .pointer (some ⟨W.heap.size, 7, none⟩)) rfl (by kernel_rfl) (by kernel_rfl) (by kernel_rfl) (by kernel_rfl) (fun _ _ _ h => h) (Or.inl ⟨by rfl, fun W hW => by go_simp⟩) hS0 ?_
  simp only [Act.put, List.getElem_toArray, List.getElem_cons_zero, List.getElem_cons_succ, List.setIfInBounds_toArray, List.set_cons_zero, List.set_cons_succ]
  refine takeG (i := 15) (v := .int .u16 (base : Int)) rfl (by kernel_rfl) (by kernel_rfl) (by kernel_rfl) (by kernel_rfl) (fun _ _ _ h => h) (Or.inl ⟨by rfl, fun W hW => by have q := ((hqW.below hW hqW.lt).cell 7).trans rfl; go_simp⟩) hS0 ?_
  simp only [Act.put, List.getElem_toArray, List.getElem_cons_zero, List.getElem_cons_succ, List.setIfInBounds_toArray, List.set_cons_zero, List.set_cons_succ]
  refine takeG0 (i := 16) (v := .int .i64 (base : Int)) rfl (by kernel_rfl) (by kernel_rfl) (by kernel_rfl) (by kernel_rfl) (fun _ _ _ h => h) (Or.inl ⟨by rfl, fun W hW => by go_simp⟩) hS0 ?_
  simp only [Act.put, List.getElem_toArray, List.getElem_cons_zero, List.getElem_cons_succ, List.setIfInBounds_toArray, List.set_cons_zero, List.set_cons_succ]
  refine takeG0 (i := 17) (v := .pointer (some ⟨W.heap.size, 6, none⟩)) rfl (by kernel_rfl) (by kernel_rfl) (by kernel_rfl) (by kernel_rfl) (fun _ _ _ h => h) (Or.inl ⟨by rfl, fun W hW => by go_simp⟩) hS0 ?_
  simp only [Act.put, List.getElem_toArray, List.getElem_cons_zero, List.getElem_cons_succ, List.setIfInBounds_toArray, List.set_cons_zero, List.set_cons_succ]
  refine takeG (i := 18) (v := .int .i64 (t : Int)) rfl (by kernel_rfl) (by kernel_rfl) (by kernel_rfl) (by kernel_rfl) (fun _ _ _ h => h) (Or.inl ⟨by rfl, fun W hW => by have q := ((hqW.below hW hqW.lt).cell 6).trans rfl; go_simp⟩) hS0 ?_
  simp only [Act.put, List.getElem_toArray, List.getElem_cons_zero, List.getElem_cons_succ, List.setIfInBounds_toArray, List.set_cons_zero, List.set_cons_succ]
  refine onlyG (i := 13) (by kernel_rfl) rfl (fun K hK => ?_)
  go_simp
  refine (HC.out.2.2.1 W0).mono ?_
  rintro e V1 ⟨rfl, hV1⟩
  refine hK.out _ _ hV1 (fun _ => ?_)
  clear hK K
  refine onlyG (i := 19) (by kernel_rfl) rfl (fun K hK => ?_)
  go_simp
  refine (HC.out.2.2.2.1 V1).mono ?_
  rintro e V2 ⟨⟨A2, c2', rfl, hS2⟩, hV2⟩
  have hVV := step_below hV1 hV2
  refine hK.out _ _ hVV (fun _ => ?_)
  clear hK K
  refine takeG0 (i := 20) (v := .tuple #[.slice A2 CL.length c2', .int .i64 1]) rfl (by kernel_rfl) (by kernel_rfl) (by kernel_rfl) (by kernel_rfl) (fun _ _ _ h => h) (Or.inl ⟨by rfl, fun W hW => by go_simp⟩) hVV ?_
  simp only [Act.put, List.getElem_toArray, List.getElem_cons_zero, List.getElem_cons_succ, List.setIfInBounds_toArray, List.set_cons_zero, List.set_cons_succ]
  refine takeG0 (i := 21) (v := .slice A2 CL.length c2') rfl (by kernel_rfl) (by kernel_rfl) (by kernel_rfl) (by kernel_rfl) (fun _ _ _ h => h) (Or.inl ⟨by rfl, fun W hW => by go_simp⟩) hVV ?_
  simp only [Act.put, List.getElem_toArray, List.getElem_cons_zero, List.getElem_cons_succ, List.setIfInBounds_toArray, List.set_cons_zero, List.set_cons_succ]
  refine takeG0 (i := 22) (v := .int .i64 1) rfl (by kernel_rfl) (by kernel_rfl) (by kernel_rfl) (by kernel_rfl) (fun _ _ _ h => h) (Or.inl ⟨by rfl, fun W hW => by go_simp⟩) hVV ?_
  simp only [Act.put, List.getElem_toArray, List.getElem_cons_zero, List.getElem_cons_succ, List.setIfInBounds_toArray, List.set_cons_zero, List.set_cons_succ]
  refine takeG0 (i := 23) (v := .slice A2 CL.length c2') rfl (by kernel_rfl) (by kernel_rfl) (by kernel_rfl) (by kernel_rfl) (fun _ _ _ h => h) (Or.inl ⟨by rfl, fun W hW => by go_simp⟩) hVV ?_
  simp only [Act.put, List.getElem_toArray, List.getElem_cons_zero, List.getElem_cons_succ, List.setIfInBounds_toArray, List.set_cons_zero, List.set_cons_succ]
  refine lastG (by kernel_rfl) rfl (by kernel_rfl) (fun K hK => ?_)
  go_simp
  refine hK.out _ _ ?_
  clear hK K
  have hSV := hSW.step hVV
  have HV := Lib.hid (step_below hbW.out hVV)
  have cS := same15 CL HC.out.2.2.2.2.1 A A2 cc c2' V2 hSV hS2
  clear hSV hS2 hSW hbW hVV hqW hW0 hS0 hV1 hV2
  go_wp2_with fail
  refine cS.mono ?_
  rintro e V3 ⟨rfl, hV3⟩
  have HZ := Lib.hid (step_below HV.out hV3)
  clear cS hV3
  go_wp2
  go_ret
  exact ⟨rfl, HZ.out⟩
set_option maxHeartbeats 8000000 in
theorem gateCode_yes15 (n call th arg : Int) (t base : Nat) (hm : may15 15 n 0 0 call th t = true) (hb : base ≤ 65535) (ha : 0 ≤ arg ∧ arg ≤ 4294967295) (W : World) (hT : Tab W) (hO : ONam W) :
    Calls Tryd.prog 4 #[.agg #[.int .i64 15, .int .i64 n, .int .i64 0, .int .i64 0, .int .i64 call, .int .i64 th, .int .i64 (t : Int), .int .u16 (base : Int), .int .u32 arg]] W fun e W' => e = .returned (.bool true) ∧ Below W.heap.size W W' := by
  have hq := Blk.new W 27 #[.int .i64 15, .int .i64 n, .int .i64 0, .int .i64 0, .int .i64 call, .int .i64 th, .int .i64 (t : Int), .int .u16 (base : Int), .int .u32 arg]
  have hB := (Below.refl W.heap.size W).alloc (Nat.le_refl _) (.cells #[.int .i64 15, .int .i64 n, .int .i64 0, .int .i64 0, .int .i64 call, .int .i64 th, .int .i64 (t : Int), .int .u16 (base : Int), .int .u32 arg] 27)
  have hT1 := hT.step hB
  have hO1 := hO.step hB
  have cA := awake21_any _ hT1 hO1
  obtain ⟨T, hG⟩ := gate_both 15 n call th arg t base (by decide) hm hb ha
  have hms := may15_gate hm (by decide)
  have cN := hG.code
  have cX := hG.text
  have cM := fun V => r15_may 15 n 0 0 call th t V
  rw [hm] at cM
  unfold objA at cM
  have cR := fun V => refG_code T base t hb (by omega) hG.ok V
  have hl := hG.ok.codeLen
  obtain ⟨TX, hTX⟩ : ∃ TX, tplT T = TX := ⟨_, rfl⟩
  rw [hTX] at cX cR
  generalize codeT base t T = CL at cN cR hl
  have wb : IntKind.u32.wrap (base : Int) = (base : Int) := IntWalk.u32_in _ (by omega)
  have wb2 : IntKind.i64.wrap (base : Int) = (base : Int) := IntWalk.i64_in _ (by omega)
  have HC := Lib.hid (And.intro cN (And.intro cM (And.intro cX (And.intro cR (And.intro hl (And.intro hT1 hO1))))))
  clear cN cM cX cR hl hm hT hT1 hO hO1 hTX ha hb hms hG
  have q0 := (hq.cell 0).trans rfl
  have q1 := (hq.cell 1).trans rfl
  have q2 := (hq.cell 2).trans rfl
  have q3 := (hq.cell 3).trans rfl
  have q4 := (hq.cell 4).trans rfl
  have q5 := (hq.cell 5).trans rfl
  have q6 := (hq.cell 6).trans rfl
  have q7 := (hq.cell 7).trans rfl
  have q8 := (hq.cell 8).trans rfl
  go_enter Tryd.func4, Tryd.ntmps4
  go_wp2_with fail
  refine cA.mono ?_
  rintro e W1 ⟨rfl, hB1⟩
  have hq1 := hq.below hB1 hq.lt
  have hb1 := step_below hB hB1
  have hT1 := HC.out.2.2.2.2.2.1.step hB1
  have hO1 := HC.out.2.2.2.2.2.2.step hB1
  clear cA q0 q1 q2 q3 q4 q5 q6 q7 q8 hq hB hB1
  have q0 := (hq1.cell 0).trans rfl
  have q1 := (hq1.cell 1).trans rfl
  have q2 := (hq1.cell 2).trans rfl
  have q3 := (hq1.cell 3).trans rfl
  have q4 := (hq1.cell 4).trans rfl
  have q5 := (hq1.cell 5).trans rfl
  have q6 := (hq1.cell 6).trans rfl
  have q7 := (hq1.cell 7).trans rfl
  have q8 := (hq1.cell 8).trans rfl
  go_wp2_with fail
  refine (HC.out.1 _ hT1 hO1).mono ?_
  rintro e W2 ⟨⟨v, rfl, hO⟩, hB2⟩
  obtain ⟨A, cc, rfl, hS⟩ := hO.sleG
  have hq2 := hq1.below hB2 hq1.lt
  have hb2 := step_below hb1 hB2
  clear q0 q1 q2 q3 q4 q5 q6 q7 q8 hq1 hb1 hB2 hT1 hO hO1
  have q0 := (hq2.cell 0).trans rfl
  have q1 := (hq2.cell 1).trans rfl
  have q2 := (hq2.cell 2).trans rfl
  have q3 := (hq2.cell 3).trans rfl
  have q4 := (hq2.cell 4).trans rfl
  have q5 := (hq2.cell 5).trans rfl
  have q6 := (hq2.cell 6).trans rfl
  have q7 := (hq2.cell 7).trans rfl
  have q8 := (hq2.cell 8).trans rfl
  go_wp2_with fail
  refine (HC.out.2.1 _).mono ?_
  rintro e W3 ⟨rfl, hB3⟩
  have hq3 := hq2.below hB3 hq2.lt
  have hb3 := step_below hb2 hB3
  have hS3 := hS.step hB3
  clear q0 q1 q2 q3 q4 q5 q6 q7 q8 hq2 hb2 hB3 hS
  have q0 := (hq3.cell 0).trans rfl
  have q1 := (hq3.cell 1).trans rfl
  have q2 := (hq3.cell 2).trans rfl
  have q3 := (hq3.cell 3).trans rfl
  have q4 := (hq3.cell 4).trans rfl
  have q5 := (hq3.cell 5).trans rfl
  have q6 := (hq3.cell 6).trans rfl
  have q7 := (hq3.cell 7).trans rfl
  have q8 := (hq3.cell 8).trans rfl
  have HQ := Lib.hid (And.intro hq3 (And.intro hb3 hS3))
  clear hq3 hb3 hS3
  go_wp2
  clear q0 q1 q2 q3 q4 q5 q6 q7 q8
  refine startG (fun W' => Below W3.drew.heap.size W3.drew W') 24 (by kernel_rfl) ?_
  have hW0 : Below W3.heap.size W3 W3.drew := ⟨rfl, rfl, rfl, Nat.le_refl _, fun _ _ => rfl⟩
  have hqW := HQ.out.1.below hW0 HQ.out.1.lt
  have hbW := Lib.hid (step_below HQ.out.2.1 hW0)
  have hSW := HQ.out.2.2.step hW0
  clear HQ
  generalize W3.drew = W0 at hW0 hqW hbW hSW ⊢
  have hS0 : Below W0.heap.size W0 W0 := Below.refl _ _
  refine takeG0 (i := 0) (v := .int .i64 15) rfl (by kernel_rfl) (by kernel_rfl) (by kernel_rfl) (by kernel_rfl) (fun _ _ _ h => h) (Or.inl ⟨by rfl, fun W hW => by go_simp⟩) hS0 ?_
  simp only [Act.put, List.getElem_toArray, List.getElem_cons_zero, List.getElem_cons_succ, List.setIfInBounds_toArray, List.set_cons_zero, List.set_cons_succ]
  refine takeG0 (i := 1) (v := .pointer (some ⟨W.heap.size, 4, none⟩)) rfl (by kernel_rfl) (by kernel_rfl) (by kernel_rfl) (by kernel_rfl) (fun _ _ _ h => h) (Or.inl ⟨by rfl, fun W hW => by go_simp⟩) hS0 ?_
  simp only [Act.put, List.getElem_toArray, List.getElem_cons_zero, List.getElem_cons_succ, List.setIfInBounds_toArray, List.set_cons_zero, List.set_cons_succ]
  refine takeG (i := 2) (v := .int .i64 call) rfl (by kernel_rfl) (by kernel_rfl) (by kernel_rfl) (by kernel_rfl) (fun _ _ _ h => h) (Or.inl ⟨by rfl, fun W hW => by have q := ((hqW.below hW hqW.lt).cell 4).trans rfl; go_simp⟩) hS0 ?_
  simp only [Act.put, List.getElem_toArray, List.getElem_cons_zero, List.getElem_cons_succ, List.setIfInBounds_toArray, List.set_cons_zero, List.set_cons_succ]
  refine takeG0 (i := 3) (v := .pointer (some ⟨W.heap.size, 0, none⟩)) rfl (by kernel_rfl) (by kernel_rfl) (by kernel_rfl) (by kernel_rfl) (fun _ _ _ h => h) (Or.inl ⟨by rfl, fun W hW => by go_simp⟩) hS0 ?_
  simp only [Act.put, List.getElem_toArray, List.getElem_cons_zero, List.getElem_cons_succ, List.setIfInBounds_toArray, List.set_cons_zero, List.set_cons_succ]
  refine takeG0 (i := 4) (v := .pointer (some ⟨W.heap.size, 1, none⟩)) rfl (by kernel_rfl) (by kernel_rfl) (by kernel_rfl) (by kernel_rfl) (fun _ _ _ h => h) (Or.inl ⟨by rfl, fun W hW => by go_simp⟩) hS0 ?_
  simp only [Act.put, List.getElem_toArray, List.getElem_cons_zero, List.getElem_cons_succ, List.setIfInBounds_toArray, List.set_cons_zero, List.set_cons_succ]
  refine takeG (i := 5) (v := .int .i64 n) rfl (by kernel_rfl) (by kernel_rfl) (by kernel_rfl) (by kernel_rfl) (fun _ _ _ h => h) (Or.inl ⟨by rfl, fun W hW => by have q := ((hqW.below hW hqW.lt).cell 1).trans rfl; go_simp⟩) hS0 ?_
  simp only [Act.put, List.getElem_toArray, List.getElem_cons_zero, List.getElem_cons_succ, List.setIfInBounds_toArray, List.set_cons_zero, List.set_cons_succ]
  refine takeG0 (i := 6) (v := .pointer (some ⟨W.heap.size, 6, none⟩)) rfl (by kernel_rfl) (by kernel_rfl) (by kernel_rfl) (by kernel_rfl) (fun _ _ _ h => h) (Or.inl ⟨by rfl, fun W hW => by go_simp⟩) hS0 ?_
  simp only [Act.put, List.getElem_toArray, List.getElem_cons_zero, List.getElem_cons_succ, List.setIfInBounds_toArray, List.set_cons_zero, List.set_cons_succ]
  refine takeG (i := 7) (v := .int .i64 (t : Int)) rfl (by kernel_rfl) (by kernel_rfl) (by kernel_rfl) (by kernel_rfl) (fun _ _ _ h => h) (Or.inl ⟨by rfl, fun W hW => by have q := ((hqW.below hW hqW.lt).cell 6).trans rfl; go_simp⟩) hS0 ?_
  simp only [Act.put, List.getElem_toArray, List.getElem_cons_zero, List.getElem_cons_succ, List.setIfInBounds_toArray, List.set_cons_zero, List.set_cons_succ]
  refine takeG0 (i := 8) (v := .pointer (some ⟨W.heap.size, 7, none⟩)) rfl (by kernel_rfl) (by kernel_rfl) (by kernel_rfl) (by kernel_rfl) (fun _ _ _ h => h) (Or.inl ⟨by rfl, fun W hW => by go_simp⟩) hS0 ?_
  simp only [Act.put, List.getElem_toArray, List.getElem_cons_zero, List.getElem_cons_succ, List.setIfInBounds_toArray, List.set_cons_zero, List.set_cons_succ]
  refine takeG (i := 9) (v := .int .u16 (base : Int)) rfl (by kernel_rfl) (by kernel_rfl) (by kernel_rfl) (by kernel_rfl) (fun _ _ _ h => h) (Or.inl ⟨by rfl, fun W hW => by have q := ((hqW.below hW hqW.lt).cell 7).trans rfl; go_simp⟩) hS0 ?_
  simp only [Act.put, List.getElem_toArray, List.getElem_cons_zero, List.getElem_cons_succ, List.setIfInBounds_toArray, List.set_cons_zero, List.set_cons_succ]
  refine takeG0 (i := 10) (v := .int .i64 (base : Int)) rfl (by kernel_rfl) (by kernel_rfl) (by kernel_rfl) (by kernel_rfl) (fun _ _ _ h => h) (Or.inl ⟨by rfl, fun W hW => by go_simp⟩) hS0 ?_
  simp only [Act.put, List.getElem_toArray, List.getElem_cons_zero, List.getElem_cons_succ, List.setIfInBounds_toArray, List.set_cons_zero, List.set_cons_succ]
  refine takeG0 (i := 11) (v := .pointer (some ⟨W.heap.size, 8, none⟩)) rfl (by kernel_rfl) (by kernel_rfl) (by kernel_rfl) (by kernel_rfl) (fun _ _ _ h => h) (Or.inl ⟨by rfl, fun W hW => by go_simp⟩) hS0 ?_
  simp only [Act.put, List.getElem_toArray, List.getElem_cons_zero, List.getElem_cons_succ, List.setIfInBounds_toArray, List.set_cons_zero, List.set_cons_succ]
  refine takeG (i := 12) (v := .int .u32 arg) rfl (by kernel_rfl) (by kernel_rfl) (by kernel_rfl) (by kernel_rfl) (fun _ _ _ h => h) (Or.inl ⟨by rfl, fun W hW => by have q := ((hqW.below hW hqW.lt).cell 8).trans rfl; go_simp⟩) hS0 ?_
  simp only [Act.put, List.getElem_toArray, List.getElem_cons_zero, List.getElem_cons_succ, List.setIfInBounds_toArray, List.set_cons_zero, List.set_cons_succ]
  refine takeG0 (i := 14) (v := .pointer (some ⟨W.heap.size, 7, none⟩)) rfl (by kernel_rfl) (by kernel_rfl) (by kernel_rfl) (by kernel_rfl) (fun _ _ _ h => h) (Or.inl ⟨by rfl, fun W hW => by go_simp⟩) hS0 ?_
  simp only [Act.put, List.getElem_toArray, List.getElem_cons_zero, List.getElem_cons_succ, List.setIfInBounds_toArray, List.set_cons_zero, List.set_cons_succ]
  refine takeG (i := 15) (v := .int .u16 (base : Int)) rfl (by kernel_rfl) (by kernel_rfl) (by kernel_rfl) (by kernel_rfl) (fun _ _ _ h => h) (Or.inl ⟨by rfl, fun W hW => by have q := ((hqW.below hW hqW.lt).cell 7).trans rfl; go_simp⟩) hS0 ?_
  simp only [Act.put, List.getElem_toArray, List.getElem_cons_zero, List.getElem_cons_succ, List.setIfInBounds_toArray, List.set_cons_zero, List.set_cons_succ]
  refine takeG0 (i := 16) (v := .int .i64 (base : Int)) rfl (by kernel_rfl) (by kernel_rfl) (by kernel_rfl) (by kernel_rfl) (fun _ _ _ h => h) (Or.inl ⟨by rfl, fun W hW => by go_simp⟩) hS0 ?_
  simp only [Act.put, List.getElem_toArray, List.getElem_cons_zero, List.getElem_cons_succ, List.setIfInBounds_toArray, List.set_cons_zero, List.set_cons_succ]
  refine takeG0 (i := 17) (v := .pointer (some ⟨W.heap.size, 6, none⟩)) rfl (by kernel_rfl) (by kernel_rfl) (by kernel_rfl) (by kernel_rfl) (fun _ _ _ h => h) (Or.inl ⟨by rfl, fun W hW => by go_simp⟩) hS0 ?_
  simp only [Act.put, List.getElem_toArray, List.getElem_cons_zero, List.getElem_cons_succ, List.setIfInBounds_toArray, List.set_cons_zero, List.set_cons_succ]
  refine takeG (i := 18) (v := .int .i64 (t : Int)) rfl (by kernel_rfl) (by kernel_rfl) (by kernel_rfl) (by kernel_rfl) (fun _ _ _ h => h) (Or.inl ⟨by rfl, fun W hW => by have q := ((hqW.below hW hqW.lt).cell 6).trans rfl; go_simp⟩) hS0 ?_
  simp only [Act.put, List.getElem_toArray, List.getElem_cons_zero, List.getElem_cons_succ, List.setIfInBounds_toArray, List.set_cons_zero, List.set_cons_succ]
  refine onlyG (i := 13) (by kernel_rfl) rfl (fun K hK => ?_)
  go_simp
  refine (HC.out.2.2.1 W0).mono ?_
  rintro e V1 ⟨rfl, hV1⟩
  refine hK.out _ _ hV1 (fun _ => ?_)
  clear hK K
  refine onlyG (i := 19) (by kernel_rfl) rfl (fun K hK => ?_)
  go_simp
  refine (HC.out.2.2.2.1 V1).mono ?_
  rintro e V2 ⟨⟨A2, c2', rfl, hS2⟩, hV2⟩
  have hVV := step_below hV1 hV2
  refine hK.out _ _ hVV (fun _ => ?_)
  clear hK K
  refine takeG0 (i := 20) (v := .tuple #[.slice A2 CL.length c2', .int .i64 1]) rfl (by kernel_rfl) (by kernel_rfl) (by kernel_rfl) (by kernel_rfl) (fun _ _ _ h => h) (Or.inl ⟨by rfl, fun W hW => by go_simp⟩) hVV ?_
  simp only [Act.put, List.getElem_toArray, List.getElem_cons_zero, List.getElem_cons_succ, List.setIfInBounds_toArray, List.set_cons_zero, List.set_cons_succ]
  refine takeG0 (i := 21) (v := .slice A2 CL.length c2') rfl (by kernel_rfl) (by kernel_rfl) (by kernel_rfl) (by kernel_rfl) (fun _ _ _ h => h) (Or.inl ⟨by rfl, fun W hW => by go_simp⟩) hVV ?_
  simp only [Act.put, List.getElem_toArray, List.getElem_cons_zero, List.getElem_cons_succ, List.setIfInBounds_toArray, List.set_cons_zero, List.set_cons_succ]
  refine takeG0 (i := 22) (v := .int .i64 1) rfl (by kernel_rfl) (by kernel_rfl) (by kernel_rfl) (by kernel_rfl) (fun _ _ _ h => h) (Or.inl ⟨by rfl, fun W hW => by go_simp⟩) hVV ?_
  simp only [Act.put, List.getElem_toArray, List.getElem_cons_zero, List.getElem_cons_succ, List.setIfInBounds_toArray, List.set_cons_zero, List.set_cons_succ]
  refine takeG0 (i := 23) (v := .slice A2 CL.length c2') rfl (by kernel_rfl) (by kernel_rfl) (by kernel_rfl) (by kernel_rfl) (fun _ _ _ h => h) (Or.inl ⟨by rfl, fun W hW => by go_simp⟩) hVV ?_
  simp only [Act.put, List.getElem_toArray, List.getElem_cons_zero, List.getElem_cons_succ, List.setIfInBounds_toArray, List.set_cons_zero, List.set_cons_succ]
  refine lastG (by kernel_rfl) rfl (by kernel_rfl) (fun K hK => ?_)
  go_simp
  refine hK.out _ _ ?_
  clear hK K
  have hSV := hSW.step hVV
  have HV := Lib.hid (step_below hbW.out hVV)
  have cS := same15 CL HC.out.2.2.2.2.1 A A2 cc c2' V2 hSV hS2
  clear hSV hS2 hSW hbW hVV hqW hW0 hS0 hV1 hV2
  go_wp2_with fail
  refine cS.mono ?_
  rintro e V3 ⟨rfl, hV3⟩
  have HZ := Lib.hid (step_below HV.out hV3)
  clear cS hV3
  go_wp2
  go_ret
  exact ⟨rfl, HZ.out⟩
end Go.Proofs.YtmhfpjnkjlhbpaaDoor

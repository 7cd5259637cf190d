/- SeqCode (printed by gen/seqm.py). -/
import Derived.Test.YtmhfpjnkjlhbpaaDoorSeqL
namespace Go.Proofs.YtmhfpjnkjlhbpaaDoor
open Go.ChangeShapes Go.WideShapes Go.ChangeAt Go.RowKit Go.Deep
set_option linter.unusedVariables false
set_option maxRecDepth 100000
set_option linter.unusedSimpArgs false

set_option maxHeartbeats 4000000 in
theorem seqCode_no (k n a b call th t base arg : Int) (ha : 0 ≤ arg ∧ arg ≤ 4294967295) (hb : 0 ≤ base ∧ base ≤ 65535) (h : k = 9 → may15 9 n a b call th t = true → call = 4 ∧ n ≤ arg) (W : World) (hT : Tab W) :
    Calls Tryd.prog 3 #[.agg #[.int .i64 k, .int .i64 n, .int .i64 a, .int .i64 b, .int .i64 call, .int .i64 th, .int .i64 t, .int .u16 base, .int .u32 arg]] W fun e W' => e = .returned (.bool true) ∧ Below W.heap.size W W' := by
  have hq := Blk.new W 27 #[.int .i64 k, .int .i64 n, .int .i64 a, .int .i64 b, .int .i64 call, .int .i64 th, .int .i64 t, .int .u16 base, .int .u32 arg]
  have hB := (Below.refl W.heap.size W).alloc (Nat.le_refl _) (.cells #[.int .i64 k, .int .i64 n, .int .i64 a, .int .i64 b, .int .i64 call, .int .i64 th, .int .i64 t, .int .u16 base, .int .u32 arg] 27)
  have hT1 := hT.step hB
  have cA := awake19 _ hT1
  have cN := fun V => seq_no k n a b call th t base arg ha h V
  obtain ⟨m, hm⟩ : ∃ m, may15 k n a b call th t = m := ⟨_, rfl⟩
  have cM := fun V => r15_may k n a b call th t V
  rw [hm] at cM
  unfold objA at cM
  have hcond : m = true → k = 9 → call = 4 ∧ n ≤ arg ∧ 1 ≤ n ∧ n ≤ 3 := fun e1 e2 => by
    subst e1 e2
    have := h rfl hm
    have := may15_seq hm
    omega
  have wb : IntKind.u32.wrap base = base := IntWalk.u32_in _ (by omega)
  have wa : IntKind.i64.wrap arg = arg := IntWalk.i64_in _ (by omega)
  have HC := Lib.hid (And.intro cN (And.intro cM hcond))
  clear cN cM hcond hm h hT hT1
  have q0 := (hq.cell 0).trans rfl
  have q1 := (hq.cell 1).trans rfl
  have q2 := (hq.cell 2).trans rfl
  have q3 := (hq.cell 3).trans rfl
  have q4 := (hq.cell 4).trans rfl
  have q5 := (hq.cell 5).trans rfl
  have q6 := (hq.cell 6).trans rfl
  have q7 := (hq.cell 7).trans rfl
  have q8 := (hq.cell 8).trans rfl
  go_enter Tryd.func3, Tryd.ntmps3
  go_wp2_with fail
  refine cA.mono ?_
  rintro e W1 ⟨rfl, hB1⟩
  have hq1 := hq.below hB1 hq.lt
  have hb1 := step_below hB hB1
  clear cA q0 q1 q2 q3 q4 q5 q6 q7 q8 hq hB hB1
  have q0 := (hq1.cell 0).trans rfl
  have q1 := (hq1.cell 1).trans rfl
  have q2 := (hq1.cell 2).trans rfl
  have q3 := (hq1.cell 3).trans rfl
  have q4 := (hq1.cell 4).trans rfl
  have q5 := (hq1.cell 5).trans rfl
  have q6 := (hq1.cell 6).trans rfl
  have q7 := (hq1.cell 7).trans rfl
  have q8 := (hq1.cell 8).trans rfl
  go_wp2_with fail
  refine (HC.out.1 _).mono ?_
  rintro e W2 ⟨rfl, hB2⟩
  have hq2 := hq1.below hB2 hq1.lt
  have hb2 := step_below hb1 hB2
  clear q0 q1 q2 q3 q4 q5 q6 q7 q8 hq1 hb1 hB2
  have q0 := (hq2.cell 0).trans rfl
  have q1 := (hq2.cell 1).trans rfl
  have q2 := (hq2.cell 2).trans rfl
  have q3 := (hq2.cell 3).trans rfl
  have q4 := (hq2.cell 4).trans rfl
  have q5 := (hq2.cell 5).trans rfl
  have q6 := (hq2.cell 6).trans rfl
  have q7 := (hq2.cell 7).trans rfl
  have q8 := (hq2.cell 8).trans rfl
  go_wp2_with fail
  refine (HC.out.2.1 _).mono ?_
  rintro e W3 ⟨rfl, hB3⟩
  have hq3 := hq2.below hB3 hq2.lt
  have hb3 := Lib.hid (step_below hb2 hB3)
  clear q0 q1 q2 q3 q4 q5 q6 q7 q8 hq2 hb2 hB3
  have q0 := (hq3.cell 0).trans rfl
  have q1 := (hq3.cell 1).trans rfl
  have q2 := (hq3.cell 2).trans rfl
  have q3 := (hq3.cell 3).trans rfl
  have q4 := (hq3.cell 4).trans rfl
  have q5 := (hq3.cell 5).trans rfl
  have q6 := (hq3.cell 6).trans rfl
  have q7 := (hq3.cell 7).trans rfl
  have q8 := (hq3.cell 8).trans rfl
  clear hq3
  cases m with
  | false =>
    clear HC
    go_wp2
    go_ret
    exact ⟨rfl, hb3.out⟩
  | true =>
    by_cases hk : k = 9
    · obtain ⟨rfl, h1, h2, h3⟩ := HC.out.2.2 rfl hk
      subst k
      clear HC
      by_cases h4 : 2 < arg
      · have f1 : decide ((2 : Int) < arg) = true := decide_eq_true h4
        go_wp2
        go_ret
        exact ⟨rfl, hb3.out⟩
      · have f1 : decide ((2 : Int) < arg) = false := decide_eq_false h4
        have f2 : decide (n ≤ arg) = true := decide_eq_true h1
        go_wp2
        go_ret
        exact ⟨rfl, hb3.out⟩
    · have hk' : (k != 9) = true := by simp [hk]
      clear HC hk
      go_wp2
      go_ret
      exact ⟨rfl, hb3.out⟩
set_option maxHeartbeats 8000000 in
theorem seqCode_yes (n t base arg : Nat) (call th : Int) (hn : 1 ≤ n ∧ n ≤ 3) (ht : 1 ≤ th ∧ th ≤ 8) (h0 : (t : Int) < th) (hc : 1 ≤ call ∧ call ≤ 4) (hb : base ≤ 65535) (ha : arg ≤ 4294967295) (hp : call = 4 → arg < n) (W : World) (hT : Tab W) :
    Calls Tryd.prog 3 #[.agg #[.int .i64 9, .int .i64 (n : Int), .int .i64 0, .int .i64 0, .int .i64 call, .int .i64 th, .int .i64 (t : Int), .int .u16 (base : Int), .int .u32 (arg : Int)]] W fun e W' => e = .returned (.bool true) ∧ Below W.heap.size W W' := by
  have hq := Blk.new W 27 #[.int .i64 9, .int .i64 (n : Int), .int .i64 0, .int .i64 0, .int .i64 call, .int .i64 th, .int .i64 (t : Int), .int .u16 (base : Int), .int .u32 (arg : Int)]
  have hB := (Below.refl W.heap.size W).alloc (Nat.le_refl _) (.cells #[.int .i64 9, .int .i64 (n : Int), .int .i64 0, .int .i64 0, .int .i64 call, .int .i64 th, .int .i64 (t : Int), .int .u16 (base : Int), .int .u32 (arg : Int)] 27)
  have hT1 := hT.step hB
  have cA := awake19 _ hT1
  have cN := fun V hV => seq_yes n arg base t call th hn ht h0 hc hb hp V hV
  have cM := fun V => r15_may 9 n 0 0 call th t V
  have hm : may15 9 n 0 0 call th t = true := by
    have r1 : right14 9 n 0 0 th = true := decide_eq_true (by refine ⟨ht.1, ht.2, by omega, by omega, .inl ⟨rfl, by omega, by omega⟩, .inr (.inr (by omega)), .inr (by omega)⟩)
    have r2 : may14 9 call = true := decide_eq_true (.inl ⟨rfl, hc⟩)
    unfold may15
    rw [r1, r2, decide_eq_true (show (0 : Int) ≤ (t : Int) ∧ (t : Int) < th by omega)]
    rfl
  rw [hm] at cM
  unfold objA at cM
  have cX := fun m hm V => text_yes n arg call hn hc hp m hm V
  have cR := fun V => ref_code (seqT n arg call) base t hb (by omega) (seqT_ok n arg base t call hn hc hp) V
  have hl := seqT_len n arg base t call hn hc hp
  obtain ⟨TX, hTX⟩ : ∃ TX, tplT (seqT n arg call) = TX := ⟨_, rfl⟩
  rw [hTX] at cX cR
  generalize codeT base t (seqT n arg call) = CL at cN cR hl
  have wb : IntKind.u32.wrap (base : Int) = (base : Int) := IntWalk.u32_in _ (by omega)
  have wb2 : IntKind.i64.wrap (base : Int) = (base : Int) := IntWalk.i64_in _ (by omega)
  have wa : IntKind.i64.wrap (arg : Int) = (arg : Int) := IntWalk.i64_in _ (by omega)
  have c1 : 1 ≤ call := hc.1
  have c2 : call ≤ 4 := hc.2
  have hp1 : call = 4 → (¬ (2 : Int) < (arg : Int)) ∧ ¬ (n : Int) ≤ (arg : Int) := fun e => by
    have := hp e
    omega
  have HC := Lib.hid (And.intro cN (And.intro cM (And.intro cX (And.intro cR (And.intro hl (And.intro hp1 hT1))))))
  have HAR := Lib.hid ha
  clear cN cM cX cR hl hm hT hT1 hTX hp1 hp hc ha hb hn ht h0
  have q0 := (hq.cell 0).trans rfl
  have q1 := (hq.cell 1).trans rfl
  have q2 := (hq.cell 2).trans rfl
  have q3 := (hq.cell 3).trans rfl
  have q4 := (hq.cell 4).trans rfl
  have q5 := (hq.cell 5).trans rfl
  have q6 := (hq.cell 6).trans rfl
  have q7 := (hq.cell 7).trans rfl
  have q8 := (hq.cell 8).trans rfl
  go_enter Tryd.func3, Tryd.ntmps3
  go_wp2_with fail
  refine cA.mono ?_
  rintro e W1 ⟨rfl, hB1⟩
  have hq1 := hq.below hB1 hq.lt
  have hb1 := step_below hB hB1
  have hT1 := HC.out.2.2.2.2.2.2.step hB1
  clear cA q0 q1 q2 q3 q4 q5 q6 q7 q8 hq hB hB1
  have q0 := (hq1.cell 0).trans rfl
  have q1 := (hq1.cell 1).trans rfl
  have q2 := (hq1.cell 2).trans rfl
  have q3 := (hq1.cell 3).trans rfl
  have q4 := (hq1.cell 4).trans rfl
  have q5 := (hq1.cell 5).trans rfl
  have q6 := (hq1.cell 6).trans rfl
  have q7 := (hq1.cell 7).trans rfl
  have q8 := (hq1.cell 8).trans rfl
  go_wp2_with fail
  refine (HC.out.1 _ hT1).mono ?_
  rintro e W2 ⟨⟨v, rfl, hO⟩, hB2⟩
  obtain ⟨A, cc, rfl, hS⟩ := hO.sle
  have hq2 := hq1.below hB2 hq1.lt
  have hb2 := step_below hb1 hB2
  clear q0 q1 q2 q3 q4 q5 q6 q7 q8 hq1 hb1 hB2 hT1 hO
  have q0 := (hq2.cell 0).trans rfl
  have q1 := (hq2.cell 1).trans rfl
  have q2 := (hq2.cell 2).trans rfl
  have q3 := (hq2.cell 3).trans rfl
  have q4 := (hq2.cell 4).trans rfl
  have q5 := (hq2.cell 5).trans rfl
  have q6 := (hq2.cell 6).trans rfl
  have q7 := (hq2.cell 7).trans rfl
  have q8 := (hq2.cell 8).trans rfl
  go_wp2_with fail
  refine (HC.out.2.1 _).mono ?_
  rintro e W3 ⟨rfl, hB3⟩
  have hq3 := hq2.below hB3 hq2.lt
  have hb3 := step_below hb2 hB3
  have hS3 := hS.step hB3
  clear q0 q1 q2 q3 q4 q5 q6 q7 q8 hq2 hb2 hB3 hS
  have q0 := (hq3.cell 0).trans rfl
  have q1 := (hq3.cell 1).trans rfl
  have q2 := (hq3.cell 2).trans rfl
  have q3 := (hq3.cell 3).trans rfl
  have q4 := (hq3.cell 4).trans rfl
  have q5 := (hq3.cell 5).trans rfl
  have q6 := (hq3.cell 6).trans rfl
  have q7 := (hq3.cell 7).trans rfl
  have q8 := (hq3.cell 8).trans rfl
  have HQ := Lib.hid (And.intro hq3 (And.intro hb3 hS3))
  clear hq3 hb3 hS3
  by_cases h4 : call = 4
  · obtain ⟨f1, f2⟩ := HC.out.2.2.2.2.2.1 h4
    subst h4
    go_wp2
    clear q0 q1 q2 q3 q4 q5 q6 q7 q8
    refine startG (fun W' => Below W3.drew.heap.size W3.drew W') 20 (by kernel_rfl) ?_
    have hW0 : Below W3.heap.size W3 W3.drew := ⟨rfl, rfl, rfl, Nat.le_refl _, fun _ _ => rfl⟩
    have hqW := HQ.out.1.below hW0 HQ.out.1.lt
    have hbW := Lib.hid (step_below HQ.out.2.1 hW0)
    have hSW := HQ.out.2.2.step hW0
    clear HQ
    generalize W3.drew = W0 at hW0 hqW hbW hSW ⊢
    have hS0 : Below W0.heap.size W0 W0 := Below.refl _ _
    refine takeG0 (i := 0) (v := .pointer (some ⟨W.heap.size, 4, none⟩)) rfl (by kernel_rfl) (by kernel_rfl) (by kernel_rfl) (by kernel_rfl) (fun _ _ _ h => h) (Or.inl ⟨by rfl, fun W hW => by go_simp⟩) hS0 ?_
    simp only [Act.put, List.getElem_toArray, List.getElem_cons_zero, List.getElem_cons_succ, List.setIfInBounds_toArray, List.set_cons_zero, List.set_cons_succ]
    refine takeG (i := 1) (v := .int .i64 4) rfl (by kernel_rfl) (by kernel_rfl) (by kernel_rfl) (by kernel_rfl) (fun _ _ _ h => h) (Or.inl ⟨by rfl, fun W hW => by have q := ((hqW.below hW hqW.lt).cell 4).trans rfl; go_simp⟩) hS0 ?_
    simp only [Act.put, List.getElem_toArray, List.getElem_cons_zero, List.getElem_cons_succ, List.setIfInBounds_toArray, List.set_cons_zero, List.set_cons_succ]
    refine takeG0 (i := 2) (v := .pointer (some ⟨W.heap.size, 0, none⟩)) rfl (by kernel_rfl) (by kernel_rfl) (by kernel_rfl) (by kernel_rfl) (fun _ _ _ h => h) (Or.inl ⟨by rfl, fun W hW => by go_simp⟩) hS0 ?_
    simp only [Act.put, List.getElem_toArray, List.getElem_cons_zero, List.getElem_cons_succ, List.setIfInBounds_toArray, List.set_cons_zero, List.set_cons_succ]
    refine takeG0 (i := 3) (v := .pointer (some ⟨W.heap.size, 1, none⟩)) rfl (by kernel_rfl) (by kernel_rfl) (by kernel_rfl) (by kernel_rfl) (fun _ _ _ h => h) (Or.inl ⟨by rfl, fun W hW => by go_simp⟩) hS0 ?_
    simp only [Act.put, List.getElem_toArray, List.getElem_cons_zero, List.getElem_cons_succ, List.setIfInBounds_toArray, List.set_cons_zero, List.set_cons_succ]
    refine takeG (i := 4) (v := .int .i64 (n : Int)) rfl (by kernel_rfl) (by kernel_rfl) (by kernel_rfl) (by kernel_rfl) (fun _ _ _ h => h) (Or.inl ⟨by rfl, fun W hW => by have q := ((hqW.below hW hqW.lt).cell 1).trans rfl; go_simp⟩) hS0 ?_
    simp only [Act.put, List.getElem_toArray, List.getElem_cons_zero, List.getElem_cons_succ, List.setIfInBounds_toArray, List.set_cons_zero, List.set_cons_succ]
    refine takeG0 (i := 5) (v := .pointer (some ⟨W.heap.size, 8, none⟩)) rfl (by kernel_rfl) (by kernel_rfl) (by kernel_rfl) (by kernel_rfl) (fun _ _ _ h => h) (Or.inl ⟨by rfl, fun W hW => by go_simp⟩) hS0 ?_
    simp only [Act.put, List.getElem_toArray, List.getElem_cons_zero, List.getElem_cons_succ, List.setIfInBounds_toArray, List.set_cons_zero, List.set_cons_succ]
    refine takeG (i := 6) (v := .int .u32 (arg : Int)) rfl (by kernel_rfl) (by kernel_rfl) (by kernel_rfl) (by kernel_rfl) (fun _ _ _ h => h) (Or.inl ⟨by rfl, fun W hW => by have q := ((hqW.below hW hqW.lt).cell 8).trans rfl; go_simp⟩) hS0 ?_
    simp only [Act.put, List.getElem_toArray, List.getElem_cons_zero, List.getElem_cons_succ, List.setIfInBounds_toArray, List.set_cons_zero, List.set_cons_succ]
    refine takeG0 (i := 7) (v := .int .u32 (min (arg : Int) 9)) rfl (by kernel_rfl) (by kernel_rfl) (by kernel_rfl) (by kernel_rfl) (fun _ _ _ h => h) (Or.inl ⟨by rfl, fun W hW => by go_simp <;> (split <;> omega)⟩) hS0 ?_
    simp only [Act.put, List.getElem_toArray, List.getElem_cons_zero, List.getElem_cons_succ, List.setIfInBounds_toArray, List.set_cons_zero, List.set_cons_succ]
    have wm : IntKind.i64.wrap (min (arg : Int) 9) = min (arg : Int) 9 := IntWalk.i64_in _ (by omega)
    refine takeG0 (i := 8) (v := .int .i64 (min (arg : Int) 9)) rfl (by kernel_rfl) (by kernel_rfl) (by kernel_rfl) (by kernel_rfl) (fun _ _ _ h => h) (Or.inl ⟨by rfl, fun W hW => by go_simp⟩) hS0 ?_
    simp only [Act.put, List.getElem_toArray, List.getElem_cons_zero, List.getElem_cons_succ, List.setIfInBounds_toArray, List.set_cons_zero, List.set_cons_succ]
    refine takeG0 (i := 10) (v := .pointer (some ⟨W.heap.size, 7, none⟩)) rfl (by kernel_rfl) (by kernel_rfl) (by kernel_rfl) (by kernel_rfl) (fun _ _ _ h => h) (Or.inl ⟨by rfl, fun W hW => by go_simp⟩) hS0 ?_
    simp only [Act.put, List.getElem_toArray, List.getElem_cons_zero, List.getElem_cons_succ, List.setIfInBounds_toArray, List.set_cons_zero, List.set_cons_succ]
    refine takeG (i := 11) (v := .int .u16 (base : Int)) rfl (by kernel_rfl) (by kernel_rfl) (by kernel_rfl) (by kernel_rfl) (fun _ _ _ h => h) (Or.inl ⟨by rfl, fun W hW => by have q := ((hqW.below hW hqW.lt).cell 7).trans rfl; go_simp⟩) hS0 ?_
    simp only [Act.put, List.getElem_toArray, List.getElem_cons_zero, List.getElem_cons_succ, List.setIfInBounds_toArray, List.set_cons_zero, List.set_cons_succ]
    refine takeG0 (i := 12) (v := .int .i64 (base : Int)) rfl (by kernel_rfl) (by kernel_rfl) (by kernel_rfl) (by kernel_rfl) (fun _ _ _ h => h) (Or.inl ⟨by rfl, fun W hW => by go_simp⟩) hS0 ?_
    simp only [Act.put, List.getElem_toArray, List.getElem_cons_zero, List.getElem_cons_succ, List.setIfInBounds_toArray, List.set_cons_zero, List.set_cons_succ]
    refine takeG0 (i := 13) (v := .pointer (some ⟨W.heap.size, 6, none⟩)) rfl (by kernel_rfl) (by kernel_rfl) (by kernel_rfl) (by kernel_rfl) (fun _ _ _ h => h) (Or.inl ⟨by rfl, fun W hW => by go_simp⟩) hS0 ?_
    simp only [Act.put, List.getElem_toArray, List.getElem_cons_zero, List.getElem_cons_succ, List.setIfInBounds_toArray, List.set_cons_zero, List.set_cons_succ]
    refine takeG (i := 14) (v := .int .i64 (t : Int)) rfl (by kernel_rfl) (by kernel_rfl) (by kernel_rfl) (by kernel_rfl) (fun _ _ _ h => h) (Or.inl ⟨by rfl, fun W hW => by have q := ((hqW.below hW hqW.lt).cell 6).trans rfl; go_simp⟩) hS0 ?_
    simp only [Act.put, List.getElem_toArray, List.getElem_cons_zero, List.getElem_cons_succ, List.setIfInBounds_toArray, List.set_cons_zero, List.set_cons_succ]
    refine onlyG (i := 9) (by kernel_rfl) rfl (fun K hK => ?_)
    go_simp
    refine (HC.out.2.2.1 (min (arg : Int) 9) (by omega) W0).mono ?_
    rintro e V1 ⟨rfl, hV1⟩
    refine hK.out _ _ hV1 (fun _ => ?_)
    clear hK K
    refine onlyG (i := 15) (by kernel_rfl) rfl (fun K hK => ?_)
    go_simp
    refine (HC.out.2.2.2.1 V1).mono ?_
    rintro e V2 ⟨⟨A2, c2', rfl, hS2⟩, hV2⟩
    have hVV := step_below hV1 hV2
    refine hK.out _ _ hVV (fun _ => ?_)
    clear hK K
    refine takeG0 (i := 16) (v := .tuple #[.slice A2 CL.length c2', .int .i64 1]) rfl (by kernel_rfl) (by kernel_rfl) (by kernel_rfl) (by kernel_rfl) (fun _ _ _ h => h) (Or.inl ⟨by rfl, fun W hW => by go_simp⟩) hVV ?_
    simp only [Act.put, List.getElem_toArray, List.getElem_cons_zero, List.getElem_cons_succ, List.setIfInBounds_toArray, List.set_cons_zero, List.set_cons_succ]
    refine takeG0 (i := 17) (v := .slice A2 CL.length c2') rfl (by kernel_rfl) (by kernel_rfl) (by kernel_rfl) (by kernel_rfl) (fun _ _ _ h => h) (Or.inl ⟨by rfl, fun W hW => by go_simp⟩) hVV ?_
    simp only [Act.put, List.getElem_toArray, List.getElem_cons_zero, List.getElem_cons_succ, List.setIfInBounds_toArray, List.set_cons_zero, List.set_cons_succ]
    refine takeG0 (i := 18) (v := .int .i64 1) rfl (by kernel_rfl) (by kernel_rfl) (by kernel_rfl) (by kernel_rfl) (fun _ _ _ h => h) (Or.inl ⟨by rfl, fun W hW => by go_simp⟩) hVV ?_
    simp only [Act.put, List.getElem_toArray, List.getElem_cons_zero, List.getElem_cons_succ, List.setIfInBounds_toArray, List.set_cons_zero, List.set_cons_succ]
    refine takeG0 (i := 19) (v := .slice A2 CL.length c2') rfl (by kernel_rfl) (by kernel_rfl) (by kernel_rfl) (by kernel_rfl) (fun _ _ _ h => h) (Or.inl ⟨by rfl, fun W hW => by go_simp⟩) hVV ?_
    simp only [Act.put, List.getElem_toArray, List.getElem_cons_zero, List.getElem_cons_succ, List.setIfInBounds_toArray, List.set_cons_zero, List.set_cons_succ]
    refine lastG (by kernel_rfl) rfl (by kernel_rfl) (fun K hK => ?_)
    go_simp
    refine hK.out _ _ ?_
    clear hK K
    have hSV := hSW.step hVV
    have HV := Lib.hid (step_below hbW.out hVV)
    have cS := same15 CL HC.out.2.2.2.2.1 A A2 cc c2' V2 hSV hS2
    clear hSV hS2 hSW hbW hVV hqW hW0 hS0 hV1 hV2
    go_wp2_with fail
    refine cS.mono ?_
    rintro e V3 ⟨rfl, hV3⟩
    have HZ := Lib.hid (step_below HV.out hV3)
    clear cS hV3
    go_wp2
    go_ret
    exact ⟨rfl, HZ.out⟩
  · have h4' : (call == 4) = false := by simp [h4]
    clear h4
    go_wp2
    clear q0 q1 q2 q3 q4 q5 q6 q7 q8
    refine startG (fun W' => Below W3.drew.heap.size W3.drew W') 20 (by kernel_rfl) ?_
    have hW0 : Below W3.heap.size W3 W3.drew := ⟨rfl, rfl, rfl, Nat.le_refl _, fun _ _ => rfl⟩
    have hqW := HQ.out.1.below hW0 HQ.out.1.lt
    have hbW := Lib.hid (step_below HQ.out.2.1 hW0)
    have hSW := HQ.out.2.2.step hW0
    clear HQ
    generalize W3.drew = W0 at hW0 hqW hbW hSW ⊢
    have hS0 : Below W0.heap.size W0 W0 := Below.refl _ _
    refine takeG0 (i := 0) (v := .pointer (some ⟨W.heap.size, 4, none⟩)) rfl (by kernel_rfl) (by kernel_rfl) (by kernel_rfl) (by kernel_rfl) (fun _ _ _ h => h) (Or.inl ⟨by rfl, fun W hW => by go_simp⟩) hS0 ?_
    simp only [Act.put, List.getElem_toArray, List.getElem_cons_zero, List.getElem_cons_succ, List.setIfInBounds_toArray, List.set_cons_zero, List.set_cons_succ]
    refine takeG (i := 1) (v := .int .i64 call) rfl (by kernel_rfl) (by kernel_rfl) (by kernel_rfl) (by kernel_rfl) (fun _ _ _ h => h) (Or.inl ⟨by rfl, fun W hW => by have q := ((hqW.below hW hqW.lt).cell 4).trans rfl; go_simp⟩) hS0 ?_
    simp only [Act.put, List.getElem_toArray, List.getElem_cons_zero, List.getElem_cons_succ, List.setIfInBounds_toArray, List.set_cons_zero, List.set_cons_succ]
    refine takeG0 (i := 2) (v := .pointer (some ⟨W.heap.size, 0, none⟩)) rfl (by kernel_rfl) (by kernel_rfl) (by kernel_rfl) (by kernel_rfl) (fun _ _ _ h => h) (Or.inl ⟨by rfl, fun W hW => by go_simp⟩) hS0 ?_
    simp only [Act.put, List.getElem_toArray, List.getElem_cons_zero, List.getElem_cons_succ, List.setIfInBounds_toArray, List.set_cons_zero, List.set_cons_succ]
    refine takeG0 (i := 3) (v := .pointer (some ⟨W.heap.size, 1, none⟩)) rfl (by kernel_rfl) (by kernel_rfl) (by kernel_rfl) (by kernel_rfl) (fun _ _ _ h => h) (Or.inl ⟨by rfl, fun W hW => by go_simp⟩) hS0 ?_
    simp only [Act.put, List.getElem_toArray, List.getElem_cons_zero, List.getElem_cons_succ, List.setIfInBounds_toArray, List.set_cons_zero, List.set_cons_succ]
    refine takeG (i := 4) (v := .int .i64 (n : Int)) rfl (by kernel_rfl) (by kernel_rfl) (by kernel_rfl) (by kernel_rfl) (fun _ _ _ h => h) (Or.inl ⟨by rfl, fun W hW => by have q := ((hqW.below hW hqW.lt).cell 1).trans rfl; go_simp⟩) hS0 ?_
    simp only [Act.put, List.getElem_toArray, List.getElem_cons_zero, List.getElem_cons_succ, List.setIfInBounds_toArray, List.set_cons_zero, List.set_cons_succ]
    refine takeG0 (i := 5) (v := .pointer (some ⟨W.heap.size, 8, none⟩)) rfl (by kernel_rfl) (by kernel_rfl) (by kernel_rfl) (by kernel_rfl) (fun _ _ _ h => h) (Or.inl ⟨by rfl, fun W hW => by go_simp⟩) hS0 ?_
    simp only [Act.put, List.getElem_toArray, List.getElem_cons_zero, List.getElem_cons_succ, List.setIfInBounds_toArray, List.set_cons_zero, List.set_cons_succ]
    refine takeG (i := 6) (v := .int .u32 (arg : Int)) rfl (by kernel_rfl) (by kernel_rfl) (by kernel_rfl) (by kernel_rfl) (fun _ _ _ h => h) (Or.inl ⟨by rfl, fun W hW => by have q := ((hqW.below hW hqW.lt).cell 8).trans rfl; go_simp⟩) hS0 ?_
    simp only [Act.put, List.getElem_toArray, List.getElem_cons_zero, List.getElem_cons_succ, List.setIfInBounds_toArray, List.set_cons_zero, List.set_cons_succ]
    refine takeG0 (i := 7) (v := .int .u32 (min (arg : Int) 9)) rfl (by kernel_rfl) (by kernel_rfl) (by kernel_rfl) (by kernel_rfl) (fun _ _ _ h => h) (Or.inl ⟨by rfl, fun W hW => by go_simp <;> (split <;> omega)⟩) hS0 ?_
    simp only [Act.put, List.getElem_toArray, List.getElem_cons_zero, List.getElem_cons_succ, List.setIfInBounds_toArray, List.set_cons_zero, List.set_cons_succ]
    have wm : IntKind.i64.wrap (min (arg : Int) 9) = min (arg : Int) 9 := IntWalk.i64_in _ (by omega)
    refine takeG0 (i := 8) (v := .int .i64 (min (arg : Int) 9)) rfl (by kernel_rfl) (by kernel_rfl) (by kernel_rfl) (by kernel_rfl) (fun _ _ _ h => h) (Or.inl ⟨by rfl, fun W hW => by go_simp⟩) hS0 ?_
    simp only [Act.put, List.getElem_toArray, List.getElem_cons_zero, List.getElem_cons_succ, List.setIfInBounds_toArray, List.set_cons_zero, List.set_cons_succ]
    refine takeG0 (i := 10) (v := .pointer (some ⟨W.heap.size, 7, none⟩)) rfl (by kernel_rfl) (by kernel_rfl) (by kernel_rfl) (by kernel_rfl) (fun _ _ _ h => h) (Or.inl ⟨by rfl, fun W hW => by go_simp⟩) hS0 ?_
    simp only [Act.put, List.getElem_toArray, List.getElem_cons_zero, List.getElem_cons_succ, List.setIfInBounds_toArray, List.set_cons_zero, List.set_cons_succ]
    refine takeG (i := 11) (v := .int .u16 (base : Int)) rfl (by kernel_rfl) (by kernel_rfl) (by kernel_rfl) (by kernel_rfl) (fun _ _ _ h => h) (Or.inl ⟨by rfl, fun W hW => by have q := ((hqW.below hW hqW.lt).cell 7).trans rfl; go_simp⟩) hS0 ?_
    simp only [Act.put, List.getElem_toArray, List.getElem_cons_zero, List.getElem_cons_succ, List.setIfInBounds_toArray, List.set_cons_zero, List.set_cons_succ]
    refine takeG0 (i := 12) (v := .int .i64 (base : Int)) rfl (by kernel_rfl) (by kernel_rfl) (by kernel_rfl) (by kernel_rfl) (fun _ _ _ h => h) (Or.inl ⟨by rfl, fun W hW => by go_simp⟩) hS0 ?_
    simp only [Act.put, List.getElem_toArray, List.getElem_cons_zero, List.getElem_cons_succ, List.setIfInBounds_toArray, List.set_cons_zero, List.set_cons_succ]
    refine takeG0 (i := 13) (v := .pointer (some ⟨W.heap.size, 6, none⟩)) rfl (by kernel_rfl) (by kernel_rfl) (by kernel_rfl) (by kernel_rfl) (fun _ _ _ h => h) (Or.inl ⟨by rfl, fun W hW => by go_simp⟩) hS0 ?_
    simp only [Act.put, List.getElem_toArray, List.getElem_cons_zero, List.getElem_cons_succ, List.setIfInBounds_toArray, List.set_cons_zero, List.set_cons_succ]
    refine takeG (i := 14) (v := .int .i64 (t : Int)) rfl (by kernel_rfl) (by kernel_rfl) (by kernel_rfl) (by kernel_rfl) (fun _ _ _ h => h) (Or.inl ⟨by rfl, fun W hW => by have q := ((hqW.below hW hqW.lt).cell 6).trans rfl; go_simp⟩) hS0 ?_
    simp only [Act.put, List.getElem_toArray, List.getElem_cons_zero, List.getElem_cons_succ, List.setIfInBounds_toArray, List.set_cons_zero, List.set_cons_succ]
    refine onlyG (i := 9) (by kernel_rfl) rfl (fun K hK => ?_)
    go_simp
    refine (HC.out.2.2.1 (min (arg : Int) 9) (by omega) W0).mono ?_
    rintro e V1 ⟨rfl, hV1⟩
    refine hK.out _ _ hV1 (fun _ => ?_)
    clear hK K
    refine onlyG (i := 15) (by kernel_rfl) rfl (fun K hK => ?_)
    go_simp
    refine (HC.out.2.2.2.1 V1).mono ?_
    rintro e V2 ⟨⟨A2, c2', rfl, hS2⟩, hV2⟩
    have hVV := step_below hV1 hV2
    refine hK.out _ _ hVV (fun _ => ?_)
    clear hK K
    refine takeG0 (i := 16) (v := .tuple #[.slice A2 CL.length c2', .int .i64 1]) rfl (by kernel_rfl) (by kernel_rfl) (by kernel_rfl) (by kernel_rfl) (fun _ _ _ h => h) (Or.inl ⟨by rfl, fun W hW => by go_simp⟩) hVV ?_
    simp only [Act.put, List.getElem_toArray, List.getElem_cons_zero, List.getElem_cons_succ, List.setIfInBounds_toArray, List.set_cons_zero, List.set_cons_succ]
    refine takeG0 (i := 17) (v := .slice A2 CL.length c2') rfl (by kernel_rfl) (by kernel_rfl) (by kernel_rfl) (by kernel_rfl) (fun _ _ _ h => h) (Or.inl ⟨by rfl, fun W hW => by go_simp⟩) hVV ?_
    simp only [Act.put, List.getElem_toArray, List.getElem_cons_zero, List.getElem_cons_succ, List.setIfInBounds_toArray, List.set_cons_zero, List.set_cons_succ]
    refine takeG0 (i := 18) (v := .int .i64 1) rfl (by kernel_rfl) (by kernel_rfl) (by kernel_rfl) (by kernel_rfl) (fun _ _ _ h => h) (Or.inl ⟨by rfl, fun W hW => by go_simp⟩) hVV ?_
    simp only [Act.put, List.getElem_toArray, List.getElem_cons_zero, List.getElem_cons_succ, List.setIfInBounds_toArray, List.set_cons_zero, List.set_cons_succ]
    refine takeG0 (i := 19) (v := .slice A2 CL.length c2') rfl (by kernel_rfl) (by kernel_rfl) (by kernel_rfl) (by kernel_rfl) (fun _ _ _ h => h) (Or.inl ⟨by rfl, fun W hW => by go_simp⟩) hVV ?_
    simp only [Act.put, List.getElem_toArray, List.getElem_cons_zero, List.getElem_cons_succ, List.setIfInBounds_toArray, List.set_cons_zero, List.set_cons_succ]
    refine lastG (by kernel_rfl) rfl (by kernel_rfl) (fun K hK => ?_)
    go_simp
    refine hK.out _ _ ?_
    clear hK K
    have hSV := hSW.step hVV
    have HV := Lib.hid (step_below hbW.out hVV)
    have cS := same15 CL HC.out.2.2.2.2.1 A A2 cc c2' V2 hSV hS2
    clear hSV hS2 hSW hbW hVV hqW hW0 hS0 hV1 hV2
    go_wp2_with fail
    refine cS.mono ?_
    rintro e V3 ⟨rfl, hV3⟩
    have HZ := Lib.hid (step_below HV.out hV3)
    clear cS hV3
    go_wp2
    go_ret
    exact ⟨rfl, HZ.out⟩
end Go.Proofs.YtmhfpjnkjlhbpaaDoor

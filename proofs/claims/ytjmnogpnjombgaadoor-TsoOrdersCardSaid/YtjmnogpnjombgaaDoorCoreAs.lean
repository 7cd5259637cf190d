/- core.run.asks. -/
import Derived.Test.YtjmnogpnjombgaaDoorCorePl
namespace Go.Proofs.YtjmnogpnjombgaaDoor
open Go.ChangeShapes Go.WideShapes Go.ChangeAt Go.RowKit Go.Deep
set_option linter.unusedVariables false
set_option maxRecDepth 100000
set_option linter.unusedSimpArgs false

set_option maxHeartbeats 4000000 in
theorem asks_load {σ : Type} {O : Ops σ} {V : Pv} {Inv : σ → (Nat → Prop) → World → Prop} {can : Nat → σ → Prop} (hP : PortOk O V Inv can) (n : Nat) (s : σ) (own : Nat → Prop) (rb : Nat) (t : Th) (a c m : Nat) (ib ik : Int) (W W1 : World)
    (hM : RMoves Inv s own rb t ⟨16, (a : Int), ib, (c : Int), ik⟩ O.size V (m : Int) W W1) (hc : can (n + 2) s) (hrb : rb < W.heap.size) (ha8 : a < 8) (hc8 : c < 8) (hm : m < O.size) :
    Calls Tryd.prog 55 #[.pointer (some ⟨rb, 0, none⟩)] W1 fun e W' => (∃ u, e = .returned u) ∧ RMoves Inv (O.note (O.load s m).2 ⟨1, 0, t.pc, (m : Int), (O.load s m).1, 0, 0, false⟩) own rb { t with regs := updR t.regs a (O.load s m).1 } ⟨16, (a : Int), ib, (c : Int), ik⟩ O.size V (m : Int) W W' := by
  obtain ⟨ra, hra⟩ : ∃ ra, t.regs a = ra := ⟨_, rfl⟩
  have HRA := Lib.hid hra
  clear hra
  obtain ⟨v, hv⟩ : ∃ v, (O.load s m).1 = v := ⟨_, rfl⟩
  obtain ⟨s1, hs1⟩ : ∃ s1, (O.load s m).2 = s1 := ⟨_, rfl⟩
  have hcl := hP.cload _ s m hc
  rw [hs1] at hcl
  have HL := Lib.hid (And.intro hv (And.intro hs1 (And.intro hc hcl)))
  clear hv hs1 hc hcl
  have hr1 := reg_r hP a rfl ha8 hM
  clear hM
  go_enter Tryd.func55, Tryd.ntmps55
  go_wp2_with fail
  refine hr1.mono ?_
  rintro e W2 ⟨rfl, hM2⟩
  have i0 := hM2.rn.ic (j := 0) rfl
  dsimp only at i0
  have hlt := hM2.rn.lt
  clear hr1
  have r2 := hM2.rn.reg ha8
  rw [HRA.out] at r2
  obtain ⟨c15, c16, c17, c18, c19, c20, c21, c22, c23, c24, c25, c26⟩ := hM2.rn.pt
  have hG := hP.goes.1
  unfold Goes at hG
  unfold Fv.val at c16
  have HM := Lib.hid hM2
  clear c15 c17 c18 c19 c20 c21 c22 c23 c24 c25 hM2
  go_wp2
  refine startG (fun W' => W'.cell? ⟨rb, 16, none⟩ = some (.func (.func V.load.k) V.load.f V.load.c) ∧ W'.cell? ⟨rb, 26, none⟩ = some (.int .i64 (m : Int)) ∧ W'.cell? ⟨rb, 1 + a, none⟩ = some (.int .u32 ra)) 12 (by kernel_rfl) ?_
  have hH : (fun W' => W'.cell? ⟨rb, 16, none⟩ = some (.func (.func V.load.k) V.load.f V.load.c) ∧ W'.cell? ⟨rb, 26, none⟩ = some (.int .i64 (m : Int)) ∧ W'.cell? ⟨rb, 1 + a, none⟩ = some (.int .u32 ra)) W2.drew := ⟨c16, c26, r2⟩
  have hS := load_r hP (n + 1) m (HM.out.drew hP) HL.out.2.2.1 hrb hm
  rw [HL.out.1, HL.out.2.1] at hS
  clear c16 c26 r2 i0
  generalize W2.drew = W3 at hH hS ⊢
  refine takeG0 (i := 0) (v := .pointer (some ⟨rb, 1 + a, none⟩)) rfl (by kernel_rfl) (by kernel_rfl) (by kernel_rfl) (by kernel_rfl) (fun _ _ _ h => h) (Or.inl ⟨by rfl, fun W hW => by go_simp⟩) hH ?_
  simp only [Act.put, List.getElem_toArray, List.getElem_cons_zero, List.getElem_cons_succ, List.setIfInBounds_toArray, List.set_cons_zero, List.set_cons_succ]
  refine takeG0 (i := 1) (v := .pointer (some ⟨rb, 0, none⟩)) rfl (by kernel_rfl) (by kernel_rfl) (by kernel_rfl) (by kernel_rfl) (fun _ _ _ h => h) (Or.inl ⟨by rfl, fun W hW => by go_simp⟩) hH ?_
  simp only [Act.put, List.getElem_toArray, List.getElem_cons_zero, List.getElem_cons_succ, List.setIfInBounds_toArray, List.set_cons_zero, List.set_cons_succ]
  refine takeG0 (i := 2) (v := .pointer (some ⟨rb, 0, none⟩)) rfl (by kernel_rfl) (by kernel_rfl) (by kernel_rfl) (by kernel_rfl) (fun _ _ _ h => h) (Or.inl ⟨by rfl, fun W hW => by go_simp⟩) hH ?_
  simp only [Act.put, List.getElem_toArray, List.getElem_cons_zero, List.getElem_cons_succ, List.setIfInBounds_toArray, List.set_cons_zero, List.set_cons_succ]
  refine takeG0 (i := 3) (v := .pointer (some ⟨rb, 15, none⟩)) rfl (by kernel_rfl) (by kernel_rfl) (by kernel_rfl) (by kernel_rfl) (fun _ _ _ h => h) (Or.inl ⟨by rfl, fun W hW => by go_simp⟩) hH ?_
  simp only [Act.put, List.getElem_toArray, List.getElem_cons_zero, List.getElem_cons_succ, List.setIfInBounds_toArray, List.set_cons_zero, List.set_cons_succ]
  refine takeG0 (i := 4) (v := .pointer (some ⟨rb, 16, none⟩)) rfl (by kernel_rfl) (by kernel_rfl) (by kernel_rfl) (by kernel_rfl) (fun _ _ _ h => h) (Or.inl ⟨by rfl, fun W hW => by go_simp⟩) hH ?_
  simp only [Act.put, List.getElem_toArray, List.getElem_cons_zero, List.getElem_cons_succ, List.setIfInBounds_toArray, List.set_cons_zero, List.set_cons_succ]
  refine takeG (i := 5) (v := .func (.func V.load.k) V.load.f V.load.c) rfl (by kernel_rfl) (by kernel_rfl) (by kernel_rfl) (by kernel_rfl) (fun _ _ _ h => h) (Or.inl ⟨by rfl, fun W hW => by obtain ⟨q0, q1, q2⟩ := hW; go_simp⟩) hH ?_
  simp only [Act.put, List.getElem_toArray, List.getElem_cons_zero, List.getElem_cons_succ, List.setIfInBounds_toArray, List.set_cons_zero, List.set_cons_succ]
  refine takeG0 (i := 6) (v := .pointer (some ⟨rb, 0, none⟩)) rfl (by kernel_rfl) (by kernel_rfl) (by kernel_rfl) (by kernel_rfl) (fun _ _ _ h => h) (Or.inl ⟨by rfl, fun W hW => by go_simp⟩) hH ?_
  simp only [Act.put, List.getElem_toArray, List.getElem_cons_zero, List.getElem_cons_succ, List.setIfInBounds_toArray, List.set_cons_zero, List.set_cons_succ]
  refine takeG0 (i := 7) (v := .pointer (some ⟨rb, 0, none⟩)) rfl (by kernel_rfl) (by kernel_rfl) (by kernel_rfl) (by kernel_rfl) (fun _ _ _ h => h) (Or.inl ⟨by rfl, fun W hW => by go_simp⟩) hH ?_
  simp only [Act.put, List.getElem_toArray, List.getElem_cons_zero, List.getElem_cons_succ, List.setIfInBounds_toArray, List.set_cons_zero, List.set_cons_succ]
  refine takeG0 (i := 8) (v := .pointer (some ⟨rb, 26, none⟩)) rfl (by kernel_rfl) (by kernel_rfl) (by kernel_rfl) (by kernel_rfl) (fun _ _ _ h => h) (Or.inl ⟨by rfl, fun W hW => by go_simp⟩) hH ?_
  simp only [Act.put, List.getElem_toArray, List.getElem_cons_zero, List.getElem_cons_succ, List.setIfInBounds_toArray, List.set_cons_zero, List.set_cons_succ]
  refine takeG (i := 9) (v := .int .i64 (m : Int)) rfl (by kernel_rfl) (by kernel_rfl) (by kernel_rfl) (by kernel_rfl) (fun _ _ _ h => h) (Or.inl ⟨by rfl, fun W hW => by obtain ⟨q0, q1, q2⟩ := hW; go_simp⟩) hH ?_
  simp only [Act.put, List.getElem_toArray, List.getElem_cons_zero, List.getElem_cons_succ, List.setIfInBounds_toArray, List.set_cons_zero, List.set_cons_succ]
  refine onlyG (i := 10) (by kernel_rfl) rfl (fun K hK => ?_)
  have hgo := fun arr => hG arr W3
  go_simp
  refine hS.mono ?_
  rintro e W4 ⟨rfl, hM4⟩
  go_wp2_with fail
  obtain ⟨d15, d16, d17, d18, d19, d20, d21, d22, d23, d24, d25, d26⟩ := hM4.rn.pt
  have d4 := hM4.rn.reg ha8
  rw [HRA.out] at d4
  have hH4 := And.intro d16 (And.intro d26 d4)
  refine hK.out _ _ hH4 (fun _ => ?_)
  clear hK K d15 d16 d17 d18 d19 d20 d21 d22 d23 d24 d25 d26 d4 hgo
  try simp only [Act.put, List.getElem_toArray, List.getElem_cons_zero, List.getElem_cons_succ, List.setIfInBounds_toArray, List.set_cons_zero, List.set_cons_succ]
  refine takeG0 (i := 11) (v := .pointer (some ⟨rb, 1 + a, none⟩)) rfl (by kernel_rfl) (by kernel_rfl) (by kernel_rfl) (by kernel_rfl) (fun _ _ _ h => h) (Or.inl ⟨by rfl, fun W hW => by go_simp⟩) hH4 ?_
  simp only [Act.put, List.getElem_toArray, List.getElem_cons_zero, List.getElem_cons_succ, List.setIfInBounds_toArray, List.set_cons_zero, List.set_cons_succ]
  have c4 := hM4.rn.reg ha8
  have f4 := hM4.rn.fz (1 + a)
  have hM5 := hM4.set_ hP (1 + a) (.int .u32 v) (fun h => h.setReg ha8 v)
  have hN := note_r hP n (W := W) ⟨1, 0, 0, 0, v, 0, 0, false⟩ hM5 HL.out.2.2.2 hrb
  clear hM4 hM5
  refine lastG (by kernel_rfl) rfl (by kernel_rfl) (fun K hK => ?_)
  go_simp
  refine hK.out _ _ ?_
  clear hK K
  go_wp2_with fail
  refine hN.mono ?_
  rintro e W6 ⟨⟨u, rfl⟩, hM6⟩
  have HM6 := Lib.hid hM6
  clear hN hM6 c4 f4
  go_wp2
  go_end0
  rw [HL.out.1, HL.out.2.1]
  exact ⟨⟨_, rfl⟩, HM6.out⟩
set_option maxHeartbeats 4000000 in
theorem asks_store {σ : Type} {O : Ops σ} {V : Pv} {Inv : σ → (Nat → Prop) → World → Prop} {can : Nat → σ → Prop} (hP : PortOk O V Inv can) (n : Nat) (s : σ) (own : Nat → Prop) (rb : Nat) (t : Th) (a c m : Nat) (ib ik : Int) (W W1 : World)
    (hM : RMoves Inv s own rb t ⟨17, (a : Int), ib, (c : Int), ik⟩ O.size V (m : Int) W W1) (hc : can (n + 2) s) (hrb : rb < W.heap.size) (ha8 : a < 8) (hc8 : c < 8) (hm : m < O.size) (hroom : O.room s = true) :
    Calls Tryd.prog 55 #[.pointer (some ⟨rb, 0, none⟩)] W1 fun e W' => (∃ u, e = .returned u) ∧ RMoves Inv (O.note (O.store s m (t.regs a)) ⟨2, 0, t.pc, (m : Int), t.regs a, 0, 0, false⟩) own rb t ⟨17, (a : Int), ib, (c : Int), ik⟩ O.size V (m : Int) W W' := by
  obtain ⟨ra, hra⟩ : ∃ ra, t.regs a = ra := ⟨_, rfl⟩
  have HRA := Lib.hid hra
  clear hra
  have HC := Lib.hid (And.intro hc (And.intro (hP.cstore (n + 1) s m ra hc) hroom))
  clear hc hroom
  have hr1 := reg_r hP a rfl ha8 hM
  clear hM
  go_enter Tryd.func55, Tryd.ntmps55
  go_wp2_with fail
  refine hr1.mono ?_
  rintro e W2 ⟨rfl, hM2⟩
  have i0 := hM2.rn.ic (j := 0) rfl
  dsimp only at i0
  have hlt := hM2.rn.lt
  clear hr1
  have r2 := hM2.rn.reg ha8
  rw [HRA.out] at r2
  obtain ⟨c15, c16, c17, c18, c19, c20, c21, c22, c23, c24, c25, c26⟩ := hM2.rn.pt
  have hG := hP.goes.2.2.1
  unfold Goes at hG
  unfold Fv.val at c18
  have HM := Lib.hid hM2
  clear c15 c16 c17 c19 c20 c21 c22 c23 c24 c25 hM2
  go_wp2
  go_still_tail 12, (by kernel_rfl)
  change wpList _ _ _ _ _ W2.drew
  have hgo := fun arr => hG arr W2.drew
  have hS := store_r hP (n + 1) m ra (HM.out.drew hP) HC.out.1 hrb hm HC.out.2.2
  clear hG c18 r2 c26 i0
  generalize W2.drew = W3 at hgo hS ⊢
  go_wp2_with fail
  refine hS.mono ?_
  rintro e W4 ⟨⟨u, rfl⟩, hM4⟩
  have c4 := hM4.rn.reg ha8
  rw [HRA.out] at c4
  have hN := note_r hP n (W := W) ⟨2, 0, 0, 0, ra, 0, 0, false⟩ hM4 HC.out.2.1 hrb
  clear hS hgo hM4
  go_wp2_with fail
  refine hN.mono ?_
  rintro e W6 ⟨⟨u, rfl⟩, hM6⟩
  have HM6 := Lib.hid hM6
  clear hN hM6 c4
  go_wp2
  go_end0
  rw [HRA.out]
  exact ⟨⟨_, rfl⟩, HM6.out⟩
set_option maxHeartbeats 4000000 in
theorem asks_fetch {σ : Type} {O : Ops σ} {V : Pv} {Inv : σ → (Nat → Prop) → World → Prop} {can : Nat → σ → Prop} (hP : PortOk O V Inv can) (n : Nat) (s : σ) (own : Nat → Prop) (rb : Nat) (t : Th) (a c m : Nat) (ib ik : Int) (W W1 : World)
    (hM : RMoves Inv s own rb t ⟨20, (a : Int), ib, (c : Int), ik⟩ O.size V (m : Int) W W1) (hc : can (n + 3) s) (hrb : rb < W.heap.size) (ha8 : a < 8) (hc8 : c < 8) (hm : m < O.size) :
    Calls Tryd.prog 55 #[.pointer (some ⟨rb, 0, none⟩)] W1 fun e W' => (∃ u, e = .returned u) ∧ RMoves Inv (lockS O (O.load s m).2 t.pc m (O.load s m).1 (((O.load s m).1 + t.regs a) % 4294967296) true) own rb { t with regs := updR t.regs a (O.load s m).1 } ⟨20, (a : Int), ib, (c : Int), ik⟩ O.size V (m : Int) W W' := by
  obtain ⟨ra, hra⟩ : ∃ ra, t.regs a = ra := ⟨_, rfl⟩
  have HRA := Lib.hid hra
  clear hra
  obtain ⟨v, hv⟩ : ∃ v, (O.load s m).1 = v := ⟨_, rfl⟩
  obtain ⟨s1, hs1⟩ : ∃ s1, (O.load s m).2 = s1 := ⟨_, rfl⟩
  have hcl := hP.cload _ s m hc
  rw [hs1] at hcl
  have HL := Lib.hid (And.intro hv (And.intro hs1 (And.intro hc hcl)))
  clear hv hs1 hc hcl
  have hr1 := reg_r hP a rfl ha8 hM
  clear hM
  go_enter Tryd.func55, Tryd.ntmps55
  go_wp2_with fail
  refine hr1.mono ?_
  rintro e W2 ⟨rfl, hM2⟩
  have i0 := hM2.rn.ic (j := 0) rfl
  dsimp only at i0
  have hlt := hM2.rn.lt
  clear hr1
  obtain ⟨c15, c16, c17, c18, c19, c20, c21, c22, c23, c24, c25, c26⟩ := hM2.rn.pt
  have hG := hP.goes.1
  unfold Goes at hG
  unfold Fv.val at c16
  have HM := Lib.hid hM2
  clear c15 c17 c18 c19 c20 c21 c22 c23 c24 c25 hM2
  go_wp2
  go_still_tail 9, (by kernel_rfl)
  change wpList _ _ _ _ _ W2.drew
  have hgo := fun arr => hG arr W2.drew
  have hS := load_r hP (n + 2) m (HM.out.drew hP) HL.out.2.2.1 hrb hm
  rw [HL.out.1, HL.out.2.1] at hS
  clear hG c16 c26 i0
  generalize W2.drew = W3 at hgo hS ⊢
  go_wp2_with fail
  refine hS.mono ?_
  rintro e W4 ⟨rfl, hM4⟩
  have c4 := hM4.rn.reg ha8
  rw [HRA.out] at c4
  have hK := locked_any hP n s1 own rb t ⟨20, (a : Int), ib, (c : Int), ik⟩ m a v ((v + ra) % 4294967296) true W W4 hM4 HL.out.2.2.2 hrb hm rfl ha8
  clear hS hgo hM4
  go_wp2_with fail
  refine hK.mono ?_
  rintro e W6 ⟨⟨u, rfl⟩, hM6⟩
  have HM6 := Lib.hid hM6
  clear hK hM6 c4
  go_wp2
  go_end0
  rw [HL.out.1, HL.out.2.1, HRA.out]
  exact ⟨⟨_, rfl⟩, HM6.out⟩
set_option maxHeartbeats 4000000 in
theorem asks_cas {σ : Type} {O : Ops σ} {V : Pv} {Inv : σ → (Nat → Prop) → World → Prop} {can : Nat → σ → Prop} (hP : PortOk O V Inv can) (n : Nat) (s : σ) (own : Nat → Prop) (rb : Nat) (t : Th) (a c m : Nat) (ib ik : Int) (W W1 : World)
    (hM : RMoves Inv s own rb t ⟨21, (a : Int), ib, (c : Int), ik⟩ O.size V (m : Int) W W1) (hc : can (n + 3) s) (hrb : rb < W.heap.size) (ha8 : a < 8) (hc8 : c < 8) (hm : m < O.size) :
    Calls Tryd.prog 55 #[.pointer (some ⟨rb, 0, none⟩)] W1 fun e W' => (∃ u, e = .returned u) ∧ RMoves Inv (lockS O (O.load s m).2 t.pc m (O.load s m).1 (t.regs c) ((O.load s m).1 == t.regs a)) own rb { t with regs := updR t.regs a (O.load s m).1 } ⟨21, (a : Int), ib, (c : Int), ik⟩ O.size V (m : Int) W W' := by
  obtain ⟨ra, hra⟩ : ∃ ra, t.regs a = ra := ⟨_, rfl⟩
  have HRA := Lib.hid hra
  clear hra
  obtain ⟨rc, hrc⟩ : ∃ rc, t.regs c = rc := ⟨_, rfl⟩
  have HRC := Lib.hid hrc
  clear hrc
  obtain ⟨v, hv⟩ : ∃ v, (O.load s m).1 = v := ⟨_, rfl⟩
  obtain ⟨s1, hs1⟩ : ∃ s1, (O.load s m).2 = s1 := ⟨_, rfl⟩
  have hcl := hP.cload _ s m hc
  rw [hs1] at hcl
  have HL := Lib.hid (And.intro hv (And.intro hs1 (And.intro hc hcl)))
  clear hv hs1 hc hcl
  have hr1 := reg_r hP a rfl ha8 hM
  clear hM
  go_enter Tryd.func55, Tryd.ntmps55
  go_wp2_with fail
  refine hr1.mono ?_
  rintro e W2 ⟨rfl, hM2⟩
  have i0 := hM2.rn.ic (j := 0) rfl
  dsimp only at i0
  have hlt := hM2.rn.lt
  clear hr1
  obtain ⟨c15, c16, c17, c18, c19, c20, c21, c22, c23, c24, c25, c26⟩ := hM2.rn.pt
  have hG := hP.goes.1
  unfold Goes at hG
  unfold Fv.val at c16
  have HM := Lib.hid hM2
  clear c15 c17 c18 c19 c20 c21 c22 c23 c24 c25 hM2
  go_wp2
  go_still_tail 9, (by kernel_rfl)
  change wpList _ _ _ _ _ W2.drew
  have hgo := fun arr => hG arr W2.drew
  have hS := load_r hP (n + 2) m (HM.out.drew hP) HL.out.2.2.1 hrb hm
  rw [HL.out.1, HL.out.2.1] at hS
  clear hG c16 c26 i0
  generalize W2.drew = W3 at hgo hS ⊢
  go_wp2_with fail
  refine hS.mono ?_
  rintro e W4 ⟨rfl, hM4⟩
  have c4 := hM4.rn.reg ha8
  rw [HRA.out] at c4
  have d4 := hM4.rn.reg hc8
  rw [HRC.out] at d4
  have e4 := hM4.rn.ic (j := 3) rfl
  dsimp only at e4
  have nc0 : (0 : Int) ≤ (c : Int) := by omega
  have nc8 : (c : Int) < 8 := by omega
  have HM4 := Lib.hid hM4
  clear hS hgo hM4
  go_wp2
  go_still_tail 18, (by kernel_rfl)
  change wpList _ _ _ _ _ W4.drew
  have hK := locked_any hP n s1 own rb t ⟨21, (a : Int), ib, (c : Int), ik⟩ m a v rc (v == ra) W W4.drew (HM4.out.drew hP) HL.out.2.2.2 hrb hm rfl ha8
  clear c4 d4 e4
  generalize W4.drew = W5 at hK ⊢
  go_wp2_with fail
  refine hK.mono ?_
  rintro e W6 ⟨⟨u, rfl⟩, hM6⟩
  have HM6 := Lib.hid hM6
  clear hK hM6
  go_wp2
  go_end0
  rw [HL.out.1, HL.out.2.1, HRA.out, HRC.out]
  exact ⟨⟨_, rfl⟩, HM6.out⟩
set_option maxHeartbeats 4000000 in
theorem asks_wait {σ : Type} {O : Ops σ} {V : Pv} {Inv : σ → (Nat → Prop) → World → Prop} {can : Nat → σ → Prop} (hP : PortOk O V Inv can) (n : Nat) (s : σ) (own : Nat → Prop) (rb : Nat) (t : Th) (a c m : Nat) (ib ik : Int) (W W1 : World)
    (hM : RMoves Inv s own rb t ⟨23, (a : Int), ib, (c : Int), ik⟩ O.size V (m : Int) W W1) (hc : can (n + 3) s) (hrb : rb < W.heap.size) (ha8 : a < 8) (hc8 : c < 8) (hm : m < O.size) :
    Calls Tryd.prog 55 #[.pointer (some ⟨rb, 0, none⟩)] W1 fun e W' => (∃ u, e = .returned u) ∧ RMoves Inv (waitR O s t m a).2 own rb (waitR O s t m a).1 ⟨23, (a : Int), ib, (c : Int), ik⟩ O.size V (m : Int) W W' := by
  have hr1 := reg_r hP a rfl ha8 hM
  clear hM
  go_enter Tryd.func55, Tryd.ntmps55
  go_wp2_with fail
  refine hr1.mono ?_
  rintro e W2 ⟨rfl, hM2⟩
  have i0 := hM2.rn.ic (j := 0) rfl
  dsimp only at i0
  have hlt := hM2.rn.lt
  clear hr1
  have hK := wait_any hP n s own rb t ⟨23, (a : Int), ib, (c : Int), ik⟩ m a W W2 hM2 hc hrb hm rfl ha8
  clear hM2
  go_wp2_with fail
  refine hK.mono ?_
  rintro e W6 ⟨⟨u, rfl⟩, hM6⟩
  have HM6 := Lib.hid hM6
  clear hK hM6 i0
  go_wp2
  go_end0
  exact ⟨⟨_, rfl⟩, HM6.out⟩
set_option maxHeartbeats 4000000 in
theorem asks_wake {σ : Type} {O : Ops σ} {V : Pv} {Inv : σ → (Nat → Prop) → World → Prop} {can : Nat → σ → Prop} (hP : PortOk O V Inv can) (n : Nat) (s : σ) (own : Nat → Prop) (rb : Nat) (t : Th) (a c m : Nat) (ib ik : Int) (W W1 : World)
    (hM : RMoves Inv s own rb t ⟨24, (a : Int), ib, (c : Int), ik⟩ O.size V (m : Int) W W1) (hc : can (n + 2) s) (hrb : rb < W.heap.size) (ha8 : a < 8) (hc8 : c < 8) (hm : m < O.size) (hra0 : 0 ≤ t.regs a ∧ t.regs a ≤ 4294967295) :
    Calls Tryd.prog 55 #[.pointer (some ⟨rb, 0, none⟩)] W1 fun e W' => (∃ u, e = .returned u) ∧ RMoves Inv (O.note (O.wake s m (t.regs a)).2 ⟨9, 0, t.pc, (m : Int), (O.wake s m (t.regs a)).1, 0, 0, false⟩) own rb { t with regs := updR t.regs a (O.wake s m (t.regs a)).1 } ⟨24, (a : Int), ib, (c : Int), ik⟩ O.size V (m : Int) W W' := by
  obtain ⟨ra, hra⟩ : ∃ ra, t.regs a = ra := ⟨_, rfl⟩
  have HRA := Lib.hid hra
  clear hra
  rw [HRA.out] at hra0 ⊢
  obtain ⟨v, hv⟩ : ∃ v, (O.wake s m ra).1 = v := ⟨_, rfl⟩
  obtain ⟨s1, hs1⟩ : ∃ s1, (O.wake s m ra).2 = s1 := ⟨_, rfl⟩
  have hcl := hP.cwake (n + 1) s m ra hc
  rw [hs1] at hcl
  have HL := Lib.hid (And.intro hv (And.intro hs1 (And.intro hc (And.intro hcl hra0))))
  clear hv hs1 hc hcl hra0
  have hr1 := reg_r hP a rfl ha8 hM
  clear hM
  go_enter Tryd.func55, Tryd.ntmps55
  go_wp2_with fail
  refine hr1.mono ?_
  rintro e W2 ⟨rfl, hM2⟩
  have i0 := hM2.rn.ic (j := 0) rfl
  dsimp only at i0
  have hlt := hM2.rn.lt
  clear hr1
  have r2 := hM2.rn.reg ha8
  rw [HRA.out] at r2
  obtain ⟨c15, c16, c17, c18, c19, c20, c21, c22, c23, c24, c25, c26⟩ := hM2.rn.pt
  have hG := hP.goes.2.2.2.2.2.2.2.1
  unfold Goes at hG
  unfold Fv.val at c23
  have HM := Lib.hid hM2
  clear c15 c16 c17 c18 c19 c20 c21 c22 c24 c25 hM2
  go_wp2
  refine startG (fun W' => W'.cell? ⟨rb, 23, none⟩ = some (.func (.func V.wake.k) V.wake.f V.wake.c) ∧ W'.cell? ⟨rb, 26, none⟩ = some (.int .i64 (m : Int)) ∧ W'.cell? ⟨rb, 1 + a, none⟩ = some (.int .u32 ra)) 15 (by kernel_rfl) ?_
  have hH : (fun W' => W'.cell? ⟨rb, 23, none⟩ = some (.func (.func V.wake.k) V.wake.f V.wake.c) ∧ W'.cell? ⟨rb, 26, none⟩ = some (.int .i64 (m : Int)) ∧ W'.cell? ⟨rb, 1 + a, none⟩ = some (.int .u32 ra)) W2.drew := ⟨c23, c26, r2⟩
  have hS := wake_r hP (n + 1) m ra (HM.out.drew hP) HL.out.2.2.1 hrb HL.out.2.2.2.2.1 HL.out.2.2.2.2.2
  rw [HL.out.1, HL.out.2.1] at hS
  clear c23 c26 r2 i0
  generalize W2.drew = W3 at hH hS ⊢
  refine takeG0 (i := 0) (v := .pointer (some ⟨rb, 1 + a, none⟩)) rfl (by kernel_rfl) (by kernel_rfl) (by kernel_rfl) (by kernel_rfl) (fun _ _ _ h => h) (Or.inl ⟨by rfl, fun W hW => by go_simp⟩) hH ?_
  simp only [Act.put, List.getElem_toArray, List.getElem_cons_zero, List.getElem_cons_succ, List.setIfInBounds_toArray, List.set_cons_zero, List.set_cons_succ]
  refine takeG0 (i := 1) (v := .pointer (some ⟨rb, 0, none⟩)) rfl (by kernel_rfl) (by kernel_rfl) (by kernel_rfl) (by kernel_rfl) (fun _ _ _ h => h) (Or.inl ⟨by rfl, fun W hW => by go_simp⟩) hH ?_
  simp only [Act.put, List.getElem_toArray, List.getElem_cons_zero, List.getElem_cons_succ, List.setIfInBounds_toArray, List.set_cons_zero, List.set_cons_succ]
  refine takeG0 (i := 2) (v := .pointer (some ⟨rb, 0, none⟩)) rfl (by kernel_rfl) (by kernel_rfl) (by kernel_rfl) (by kernel_rfl) (fun _ _ _ h => h) (Or.inl ⟨by rfl, fun W hW => by go_simp⟩) hH ?_
  simp only [Act.put, List.getElem_toArray, List.getElem_cons_zero, List.getElem_cons_succ, List.setIfInBounds_toArray, List.set_cons_zero, List.set_cons_succ]
  refine takeG0 (i := 3) (v := .pointer (some ⟨rb, 15, none⟩)) rfl (by kernel_rfl) (by kernel_rfl) (by kernel_rfl) (by kernel_rfl) (fun _ _ _ h => h) (Or.inl ⟨by rfl, fun W hW => by go_simp⟩) hH ?_
  simp only [Act.put, List.getElem_toArray, List.getElem_cons_zero, List.getElem_cons_succ, List.setIfInBounds_toArray, List.set_cons_zero, List.set_cons_succ]
  refine takeG0 (i := 4) (v := .pointer (some ⟨rb, 23, none⟩)) rfl (by kernel_rfl) (by kernel_rfl) (by kernel_rfl) (by kernel_rfl) (fun _ _ _ h => h) (Or.inl ⟨by rfl, fun W hW => by go_simp⟩) hH ?_
  simp only [Act.put, List.getElem_toArray, List.getElem_cons_zero, List.getElem_cons_succ, List.setIfInBounds_toArray, List.set_cons_zero, List.set_cons_succ]
  refine takeG (i := 5) (v := .func (.func V.wake.k) V.wake.f V.wake.c) rfl (by kernel_rfl) (by kernel_rfl) (by kernel_rfl) (by kernel_rfl) (fun _ _ _ h => h) (Or.inl ⟨by rfl, fun W hW => by obtain ⟨q0, q1, q2⟩ := hW; go_simp⟩) hH ?_
  simp only [Act.put, List.getElem_toArray, List.getElem_cons_zero, List.getElem_cons_succ, List.setIfInBounds_toArray, List.set_cons_zero, List.set_cons_succ]
  refine takeG0 (i := 6) (v := .pointer (some ⟨rb, 0, none⟩)) rfl (by kernel_rfl) (by kernel_rfl) (by kernel_rfl) (by kernel_rfl) (fun _ _ _ h => h) (Or.inl ⟨by rfl, fun W hW => by go_simp⟩) hH ?_
  simp only [Act.put, List.getElem_toArray, List.getElem_cons_zero, List.getElem_cons_succ, List.setIfInBounds_toArray, List.set_cons_zero, List.set_cons_succ]
  refine takeG0 (i := 7) (v := .pointer (some ⟨rb, 0, none⟩)) rfl (by kernel_rfl) (by kernel_rfl) (by kernel_rfl) (by kernel_rfl) (fun _ _ _ h => h) (Or.inl ⟨by rfl, fun W hW => by go_simp⟩) hH ?_
  simp only [Act.put, List.getElem_toArray, List.getElem_cons_zero, List.getElem_cons_succ, List.setIfInBounds_toArray, List.set_cons_zero, List.set_cons_succ]
  refine takeG0 (i := 8) (v := .pointer (some ⟨rb, 26, none⟩)) rfl (by kernel_rfl) (by kernel_rfl) (by kernel_rfl) (by kernel_rfl) (fun _ _ _ h => h) (Or.inl ⟨by rfl, fun W hW => by go_simp⟩) hH ?_
  simp only [Act.put, List.getElem_toArray, List.getElem_cons_zero, List.getElem_cons_succ, List.setIfInBounds_toArray, List.set_cons_zero, List.set_cons_succ]
  refine takeG (i := 9) (v := .int .i64 (m : Int)) rfl (by kernel_rfl) (by kernel_rfl) (by kernel_rfl) (by kernel_rfl) (fun _ _ _ h => h) (Or.inl ⟨by rfl, fun W hW => by obtain ⟨q0, q1, q2⟩ := hW; go_simp⟩) hH ?_
  simp only [Act.put, List.getElem_toArray, List.getElem_cons_zero, List.getElem_cons_succ, List.setIfInBounds_toArray, List.set_cons_zero, List.set_cons_succ]
  refine takeG0 (i := 10) (v := .pointer (some ⟨rb, 1 + a, none⟩)) rfl (by kernel_rfl) (by kernel_rfl) (by kernel_rfl) (by kernel_rfl) (fun _ _ _ h => h) (Or.inl ⟨by rfl, fun W hW => by go_simp⟩) hH ?_
  simp only [Act.put, List.getElem_toArray, List.getElem_cons_zero, List.getElem_cons_succ, List.setIfInBounds_toArray, List.set_cons_zero, List.set_cons_succ]
  refine takeG0 (i := 11) (v := .pointer (some ⟨rb, 1 + a, none⟩)) rfl (by kernel_rfl) (by kernel_rfl) (by kernel_rfl) (by kernel_rfl) (fun _ _ _ h => h) (Or.inl ⟨by rfl, fun W hW => by go_simp⟩) hH ?_
  simp only [Act.put, List.getElem_toArray, List.getElem_cons_zero, List.getElem_cons_succ, List.setIfInBounds_toArray, List.set_cons_zero, List.set_cons_succ]
  refine takeG (i := 12) (v := .int .u32 ra) rfl (by kernel_rfl) (by kernel_rfl) (by kernel_rfl) (by kernel_rfl) (fun _ _ _ h => h) (Or.inl ⟨by rfl, fun W hW => by obtain ⟨q0, q1, q2⟩ := hW; go_simp⟩) hH ?_
  simp only [Act.put, List.getElem_toArray, List.getElem_cons_zero, List.getElem_cons_succ, List.setIfInBounds_toArray, List.set_cons_zero, List.set_cons_succ]
  refine onlyG (i := 13) (by kernel_rfl) rfl (fun K hK => ?_)
  have hgo := fun arr => hG arr W3
  go_simp
  refine hS.mono ?_
  rintro e W4 ⟨rfl, hM4⟩
  go_wp2_with fail
  obtain ⟨d15, d16, d17, d18, d19, d20, d21, d22, d23, d24, d25, d26⟩ := hM4.rn.pt
  have d4 := hM4.rn.reg ha8
  rw [HRA.out] at d4
  have hH4 := And.intro d23 (And.intro d26 d4)
  refine hK.out _ _ hH4 (fun _ => ?_)
  clear hK K d15 d16 d17 d18 d19 d20 d21 d22 d23 d24 d25 d26 d4 hgo
  try simp only [Act.put, List.getElem_toArray, List.getElem_cons_zero, List.getElem_cons_succ, List.setIfInBounds_toArray, List.set_cons_zero, List.set_cons_succ]
  refine takeG0 (i := 14) (v := .pointer (some ⟨rb, 1 + a, none⟩)) rfl (by kernel_rfl) (by kernel_rfl) (by kernel_rfl) (by kernel_rfl) (fun _ _ _ h => h) (Or.inl ⟨by rfl, fun W hW => by go_simp⟩) hH4 ?_
  simp only [Act.put, List.getElem_toArray, List.getElem_cons_zero, List.getElem_cons_succ, List.setIfInBounds_toArray, List.set_cons_zero, List.set_cons_succ]
  have c4 := hM4.rn.reg ha8
  have f4 := hM4.rn.fz (1 + a)
  have hM5 := hM4.set_ hP (1 + a) (.int .u32 v) (fun h => h.setReg ha8 v)
  have hN := note_r hP n (W := W) ⟨9, 0, 0, 0, v, 0, 0, false⟩ hM5 HL.out.2.2.2.1 hrb
  clear hM4 hM5
  refine lastG (by kernel_rfl) rfl (by kernel_rfl) (fun K hK => ?_)
  go_simp
  refine hK.out _ _ ?_
  clear hK K
  go_wp2_with fail
  refine hN.mono ?_
  rintro e W6 ⟨⟨u, rfl⟩, hM6⟩
  have HM6 := Lib.hid hM6
  clear hN hM6 c4 f4
  go_wp2
  go_end0
  rw [HL.out.1, HL.out.2.1]
  exact ⟨⟨_, rfl⟩, HM6.out⟩
set_option maxHeartbeats 4000000 in
theorem asks_swap {σ : Type} {O : Ops σ} {V : Pv} {Inv : σ → (Nat → Prop) → World → Prop} {can : Nat → σ → Prop} (hP : PortOk O V Inv can) (n : Nat) (s : σ) (own : Nat → Prop) (rb : Nat) (t : Th) (a c m : Nat) (ib ik : Int) (W W1 : World)
    (hM : RMoves Inv s own rb t ⟨19, (a : Int), ib, (c : Int), ik⟩ O.size V (m : Int) W W1) (hc : can (n + 3) s) (hrb : rb < W.heap.size) (ha8 : a < 8) (hc8 : c < 8) (hm : m < O.size) :
    Calls Tryd.prog 55 #[.pointer (some ⟨rb, 0, none⟩)] W1 fun e W' => (∃ u, e = .returned u) ∧ RMoves Inv (lockS O (O.load s m).2 t.pc m (O.load s m).1 (t.regs a) true) own rb { t with regs := updR t.regs a (O.load s m).1 } ⟨19, (a : Int), ib, (c : Int), ik⟩ O.size V (m : Int) W W' := by
  obtain ⟨ra, hra⟩ : ∃ ra, t.regs a = ra := ⟨_, rfl⟩
  have HRA := Lib.hid hra
  clear hra
  obtain ⟨v, hv⟩ : ∃ v, (O.load s m).1 = v := ⟨_, rfl⟩
  obtain ⟨s1, hs1⟩ : ∃ s1, (O.load s m).2 = s1 := ⟨_, rfl⟩
  have hcl := hP.cload _ s m hc
  rw [hs1] at hcl
  have HL := Lib.hid (And.intro hv (And.intro hs1 (And.intro hc hcl)))
  clear hv hs1 hc hcl
  have hr1 := reg_r hP a rfl ha8 hM
  clear hM
  go_enter Tryd.func55, Tryd.ntmps55
  go_wp2_with fail
  refine hr1.mono ?_
  rintro e W2 ⟨rfl, hM2⟩
  have i0 := hM2.rn.ic (j := 0) rfl
  dsimp only at i0
  have hlt := hM2.rn.lt
  clear hr1
  have r2 := hM2.rn.reg ha8
  rw [HRA.out] at r2
  obtain ⟨c15, c16, c17, c18, c19, c20, c21, c22, c23, c24, c25, c26⟩ := hM2.rn.pt
  have hG := hP.goes.1
  unfold Goes at hG
  unfold Fv.val at c16
  have HM := Lib.hid hM2
  clear c15 c17 c18 c19 c20 c21 c22 c23 c24 c25 hM2
  go_wp2
  refine startG (fun W' => W'.cell? ⟨rb, 16, none⟩ = some (.func (.func V.load.k) V.load.f V.load.c) ∧ W'.cell? ⟨rb, 26, none⟩ = some (.int .i64 (m : Int)) ∧ W'.cell? ⟨rb, 1 + a, none⟩ = some (.int .u32 ra)) 14 (by kernel_rfl) ?_
  have hH : (fun W' => W'.cell? ⟨rb, 16, none⟩ = some (.func (.func V.load.k) V.load.f V.load.c) ∧ W'.cell? ⟨rb, 26, none⟩ = some (.int .i64 (m : Int)) ∧ W'.cell? ⟨rb, 1 + a, none⟩ = some (.int .u32 ra)) W2.drew := ⟨c16, c26, r2⟩
  have hS := load_r hP (n + 2) m (HM.out.drew hP) HL.out.2.2.1 hrb hm
  rw [HL.out.1, HL.out.2.1] at hS
  clear c16 c26 r2 i0
  generalize W2.drew = W3 at hH hS ⊢
  refine takeG0 (i := 0) (v := .pointer (some ⟨rb, 0, none⟩)) rfl (by kernel_rfl) (by kernel_rfl) (by kernel_rfl) (by kernel_rfl) (fun _ _ _ h => h) (Or.inl ⟨by rfl, fun W hW => by go_simp⟩) hH ?_
  simp only [Act.put, List.getElem_toArray, List.getElem_cons_zero, List.getElem_cons_succ, List.setIfInBounds_toArray, List.set_cons_zero, List.set_cons_succ]
  refine takeG0 (i := 1) (v := .pointer (some ⟨rb, 0, none⟩)) rfl (by kernel_rfl) (by kernel_rfl) (by kernel_rfl) (by kernel_rfl) (fun _ _ _ h => h) (Or.inl ⟨by rfl, fun W hW => by go_simp⟩) hH ?_
  simp only [Act.put, List.getElem_toArray, List.getElem_cons_zero, List.getElem_cons_succ, List.setIfInBounds_toArray, List.set_cons_zero, List.set_cons_succ]
  refine takeG0 (i := 2) (v := .pointer (some ⟨rb, 0, none⟩)) rfl (by kernel_rfl) (by kernel_rfl) (by kernel_rfl) (by kernel_rfl) (fun _ _ _ h => h) (Or.inl ⟨by rfl, fun W hW => by go_simp⟩) hH ?_
  simp only [Act.put, List.getElem_toArray, List.getElem_cons_zero, List.getElem_cons_succ, List.setIfInBounds_toArray, List.set_cons_zero, List.set_cons_succ]
  refine takeG0 (i := 3) (v := .pointer (some ⟨rb, 15, none⟩)) rfl (by kernel_rfl) (by kernel_rfl) (by kernel_rfl) (by kernel_rfl) (fun _ _ _ h => h) (Or.inl ⟨by rfl, fun W hW => by go_simp⟩) hH ?_
  simp only [Act.put, List.getElem_toArray, List.getElem_cons_zero, List.getElem_cons_succ, List.setIfInBounds_toArray, List.set_cons_zero, List.set_cons_succ]
  refine takeG0 (i := 4) (v := .pointer (some ⟨rb, 16, none⟩)) rfl (by kernel_rfl) (by kernel_rfl) (by kernel_rfl) (by kernel_rfl) (fun _ _ _ h => h) (Or.inl ⟨by rfl, fun W hW => by go_simp⟩) hH ?_
  simp only [Act.put, List.getElem_toArray, List.getElem_cons_zero, List.getElem_cons_succ, List.setIfInBounds_toArray, List.set_cons_zero, List.set_cons_succ]
  refine takeG (i := 5) (v := .func (.func V.load.k) V.load.f V.load.c) rfl (by kernel_rfl) (by kernel_rfl) (by kernel_rfl) (by kernel_rfl) (fun _ _ _ h => h) (Or.inl ⟨by rfl, fun W hW => by obtain ⟨q0, q1, q2⟩ := hW; go_simp⟩) hH ?_
  simp only [Act.put, List.getElem_toArray, List.getElem_cons_zero, List.getElem_cons_succ, List.setIfInBounds_toArray, List.set_cons_zero, List.set_cons_succ]
  refine takeG0 (i := 6) (v := .pointer (some ⟨rb, 0, none⟩)) rfl (by kernel_rfl) (by kernel_rfl) (by kernel_rfl) (by kernel_rfl) (fun _ _ _ h => h) (Or.inl ⟨by rfl, fun W hW => by go_simp⟩) hH ?_
  simp only [Act.put, List.getElem_toArray, List.getElem_cons_zero, List.getElem_cons_succ, List.setIfInBounds_toArray, List.set_cons_zero, List.set_cons_succ]
  refine takeG0 (i := 7) (v := .pointer (some ⟨rb, 0, none⟩)) rfl (by kernel_rfl) (by kernel_rfl) (by kernel_rfl) (by kernel_rfl) (fun _ _ _ h => h) (Or.inl ⟨by rfl, fun W hW => by go_simp⟩) hH ?_
  simp only [Act.put, List.getElem_toArray, List.getElem_cons_zero, List.getElem_cons_succ, List.setIfInBounds_toArray, List.set_cons_zero, List.set_cons_succ]
  refine takeG0 (i := 8) (v := .pointer (some ⟨rb, 26, none⟩)) rfl (by kernel_rfl) (by kernel_rfl) (by kernel_rfl) (by kernel_rfl) (fun _ _ _ h => h) (Or.inl ⟨by rfl, fun W hW => by go_simp⟩) hH ?_
  simp only [Act.put, List.getElem_toArray, List.getElem_cons_zero, List.getElem_cons_succ, List.setIfInBounds_toArray, List.set_cons_zero, List.set_cons_succ]
  refine takeG (i := 9) (v := .int .i64 (m : Int)) rfl (by kernel_rfl) (by kernel_rfl) (by kernel_rfl) (by kernel_rfl) (fun _ _ _ h => h) (Or.inl ⟨by rfl, fun W hW => by obtain ⟨q0, q1, q2⟩ := hW; go_simp⟩) hH ?_
  simp only [Act.put, List.getElem_toArray, List.getElem_cons_zero, List.getElem_cons_succ, List.setIfInBounds_toArray, List.set_cons_zero, List.set_cons_succ]
  refine takeG0 (i := 11) (v := .pointer (some ⟨rb, 1 + a, none⟩)) rfl (by kernel_rfl) (by kernel_rfl) (by kernel_rfl) (by kernel_rfl) (fun _ _ _ h => h) (Or.inl ⟨by rfl, fun W hW => by go_simp⟩) hH ?_
  simp only [Act.put, List.getElem_toArray, List.getElem_cons_zero, List.getElem_cons_succ, List.setIfInBounds_toArray, List.set_cons_zero, List.set_cons_succ]
  refine takeG0 (i := 12) (v := .pointer (some ⟨rb, 1 + a, none⟩)) rfl (by kernel_rfl) (by kernel_rfl) (by kernel_rfl) (by kernel_rfl) (fun _ _ _ h => h) (Or.inl ⟨by rfl, fun W hW => by go_simp⟩) hH ?_
  simp only [Act.put, List.getElem_toArray, List.getElem_cons_zero, List.getElem_cons_succ, List.setIfInBounds_toArray, List.set_cons_zero, List.set_cons_succ]
  refine takeG (i := 13) (v := .int .u32 ra) rfl (by kernel_rfl) (by kernel_rfl) (by kernel_rfl) (by kernel_rfl) (fun _ _ _ h => h) (Or.inl ⟨by rfl, fun W hW => by obtain ⟨q0, q1, q2⟩ := hW; go_simp⟩) hH ?_
  simp only [Act.put, List.getElem_toArray, List.getElem_cons_zero, List.getElem_cons_succ, List.setIfInBounds_toArray, List.set_cons_zero, List.set_cons_succ]
  refine onlyG (i := 10) (by kernel_rfl) rfl (fun K hK => ?_)
  have hgo := fun arr => hG arr W3
  go_simp
  refine hS.mono ?_
  rintro e W4 ⟨rfl, hM4⟩
  go_wp2_with fail
  obtain ⟨d15, d16, d17, d18, d19, d20, d21, d22, d23, d24, d25, d26⟩ := hM4.rn.pt
  have d4 := hM4.rn.reg ha8
  rw [HRA.out] at d4
  refine hK.out _ _ ⟨d16, d26, d4⟩ (fun _ => ?_)
  clear hK K d15 d16 d17 d18 d19 d20 d21 d22 d23 d24 d25 d26 d4 hgo
  try simp only [Act.put, List.getElem_toArray, List.getElem_cons_zero, List.getElem_cons_succ, List.setIfInBounds_toArray, List.set_cons_zero, List.set_cons_succ]
  refine lastG (by kernel_rfl) rfl (by kernel_rfl) (fun K hK => ?_)
  have hLk := locked_any hP n s1 own rb t ⟨19, (a : Int), ib, (c : Int), ik⟩ m a v ra true W W4 hM4 HL.out.2.2.2 hrb hm rfl ha8
  clear hM4
  go_simp
  refine hLk.mono ?_
  rintro e W6 ⟨⟨u, rfl⟩, hM6⟩
  go_wp2_with fail
  refine hK.out _ _ ?_
  clear hK K hLk
  have HM6 := Lib.hid hM6
  clear hM6
  go_wp2
  go_end0
  rw [HL.out.1, HL.out.2.1, HRA.out]
  exact ⟨⟨_, rfl⟩, HM6.out⟩
end Go.Proofs.YtjmnogpnjombgaaDoor

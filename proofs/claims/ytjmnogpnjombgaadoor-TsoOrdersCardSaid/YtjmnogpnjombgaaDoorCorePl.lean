/- core.run.plain. -/
import Derived.Test.YtjmnogpnjombgaaDoorCoreA
namespace Go.Proofs.YtjmnogpnjombgaaDoor
open Go.ChangeShapes Go.WideShapes Go.ChangeAt Go.RowKit Go.Deep
set_option linter.unusedVariables false
set_option maxRecDepth 100000
set_option linter.unusedSimpArgs false

/-- What plain does. -/
def plainR {σ : Type} (O : Ops σ) (s : σ) (t : Th) (op a b c : Nat) (k addr : Int) : Th × σ :=
  if op = 1 then ({ t with regs := updR t.regs a k }, s)
  else if op = 2 then ({ t with regs := updR t.regs a (t.regs b) }, s)
  else if op = 18 then (t, O.note s ⟨5, 0, t.pc, addr, 0, 0, 0, false⟩)
  else if op = 22 then (t, O.note s ⟨6, 0, t.pc, addr, t.regs a, 0, 0, false⟩)
  else if op = 27 then (t, O.note s ⟨7, 0, t.pc, addr, t.regs a, 0, k, false⟩)
  else if op = 25 then (t, O.note (O.remote s) ⟨10, 0, t.pc, addr, 0, 0, 0, false⟩)
  else if 3 ≤ op ∧ op ≤ 12 then ({ t with regs := updR t.regs a (aluF op (t.regs b) (t.regs c)) }, s)
  else (t, s)

section
variable {σ : Type} {O : Ops σ} {V : Pv} {Inv : σ → (Nat → Prop) → World → Prop} {can : Nat → σ → Prop}
theorem reg_rb (hP : PortOk O V Inv can) {s : σ} {own : Nat → Prop} {rb : Nat} {t : Th} {i : Ins} {addr : Int} {W W1 : World} (a : Nat) (ha : i.a = (a : Int)) (ha8 : a < 8) (h : RMoves Inv s own rb t i O.size V addr W W1) :
    Calls Tryd.prog 104 #[.pointer (some ⟨rb, 0, none⟩)] W1 fun e W2 => e = .returned (.pointer (some ⟨rb, 1 + a, none⟩)) ∧ RMoves Inv s own rb t i O.size V addr W W2 ∧ Below W1.heap.size W1 W2 :=
  (reg_any rb t i O.size V addr a ha ha8 W1 h.rn).mono fun e W2 ⟨he, q, hq⟩ => ⟨he, hq ▸ h.drewN hP q, hq ▸ (Below.refl _ _).grown (row := none) ⟨rfl, rfl, rfl, Nat.le_refl _, fun _ _ _ => rfl⟩ (Nat.le_refl _) (fun r e => by cases e)⟩
end
set_option maxHeartbeats 4000000 in
theorem plain_set {σ : Type} {O : Ops σ} {V : Pv} {Inv : σ → (Nat → Prop) → World → Prop} {can : Nat → σ → Prop} (hP : PortOk O V Inv can) (n : Nat) (s : σ) (own : Nat → Prop) (rb : Nat) (t : Th) (a b c : Nat) (ik addr : Int) (W W1 : World)
    (hM : RMoves Inv s own rb t ⟨1, (a : Int), (b : Int), (c : Int), ik⟩ O.size V addr W W1) (hc : can (n + 2) s) (hrb : rb < W.heap.size) (ha8 : a < 8) (hb8 : b < 8) (hc8 : c < 8) :
    Calls Tryd.prog 56 #[.pointer (some ⟨rb, 0, none⟩)] W1 fun e W' => (∃ u, e = .returned u) ∧ RMoves Inv s own rb { t with regs := updR t.regs a ik } ⟨1, (a : Int), (b : Int), (c : Int), ik⟩ O.size V addr W W' := by
  have i0 := hM.rn.ic (j := 0) rfl
  have i1 := hM.rn.ic (j := 1) rfl
  have i2 := hM.rn.ic (j := 2) rfl
  have i3 := hM.rn.ic (j := 3) rfl
  have i4 := hM.rn.ic (j := 4) rfl
  have hlt := hM.rn.lt
  dsimp only at i0 i1 i2 i3 i4
  have hM1 := hM.alloc hP (.cells #[.int .i64 1, .int .i64 (a : Int), .int .i64 (b : Int), .int .i64 (c : Int), .int .u32 ik] 54)
  have hX := Blk.new W1 54 #[.int .i64 1, .int .i64 (a : Int), .int .i64 (b : Int), .int .i64 (c : Int), .int .u32 ik]
  have hM0 := hM1.drew hP
  have hX0 := hX.drew
  have HH := Lib.hid (And.intro hM0 hX0)
  clear hM hM1 hX hM0 hX0
  go_enter Tryd.func56, Tryd.ntmps56
  go_wp2
  refine startG (fun W' => Below ((W1.alloc (.cells #[.int .i64 1, .int .i64 (a : Int), .int .i64 (b : Int), .int .i64 (c : Int), .int .u32 ik] 54)).drew).heap.size ((W1.alloc (.cells #[.int .i64 1, .int .i64 (a : Int), .int .i64 (b : Int), .int .i64 (c : Int), .int .u32 ik] 54)).drew) W') 5 (by kernel_rfl) ?_
  obtain ⟨hM0, hX0⟩ := HH.out
  obtain ⟨xb, hxb⟩ : ∃ xb, W1.heap.size = xb := ⟨_, rfl⟩
  rw [hxb] at hX0 ⊢
  generalize (W1.alloc (.cells #[.int .i64 1, .int .i64 (a : Int), .int .i64 (b : Int), .int .i64 (c : Int), .int .u32 ik] 54)).drew = W0 at hM0 hX0 ⊢
  clear hxb HH i0 i1 i2 i3 i4
  have x1 := (hX0.cell 1).trans rfl
  have x2 := (hX0.cell 2).trans rfl
  have x3 := (hX0.cell 3).trans rfl
  have x0 := (hX0.cell 0).trans rfl
  have x4 := (hX0.cell 4).trans rfl
  simp only [List.getElem?_toArray, List.getElem?_cons_zero, List.getElem?_cons_succ] at x0 x1 x2 x3 x4
  have hxl := hX0.lt
  have hH := Below.refl W0.heap.size W0
  refine takeG0 (i := 0) (v := .pointer (some ⟨rb, 0, none⟩)) rfl (by kernel_rfl) (by kernel_rfl) (by kernel_rfl) (by kernel_rfl) (fun _ _ _ h => h) (Or.inl ⟨by rfl, fun W hW => by go_simp⟩) hH ?_
  simp only [Act.put, List.getElem_toArray, List.getElem_cons_zero, List.getElem_cons_succ, List.setIfInBounds_toArray, List.set_cons_zero, List.set_cons_succ]
  refine takeG (i := 2) (v := .pointer (some ⟨xb, 4, none⟩)) rfl (by kernel_rfl) (by kernel_rfl) (by kernel_rfl) (by kernel_rfl) (fun _ _ _ h => h) (Or.inl ⟨by rfl, fun W hW => by go_simp⟩) hH ?_
  simp only [Act.put, List.getElem_toArray, List.getElem_cons_zero, List.getElem_cons_succ, List.setIfInBounds_toArray, List.set_cons_zero, List.set_cons_succ]
  refine takeG (i := 3) (v := .int .u32 ik) rfl (by kernel_rfl) (by kernel_rfl) (by kernel_rfl) (by kernel_rfl) (fun _ _ _ h => h) (Or.inl ⟨by rfl, fun W hW => by have q0 := keepAt hW hxl x4; go_simp⟩) hH ?_
  simp only [Act.put, List.getElem_toArray, List.getElem_cons_zero, List.getElem_cons_succ, List.setIfInBounds_toArray, List.set_cons_zero, List.set_cons_succ]
  refine onlyG (i := 1) (by kernel_rfl) rfl (fun K hK => ?_)
  go_simp
  refine (reg_rb hP a rfl ha8 hM0).mono ?_
  rintro e W2 ⟨rfl, hM2, hb2⟩
  go_wp2_with fail
  refine hK.out _ _ hb2 (fun _ => ?_)
  clear hK K
  try simp only [Act.put, List.getElem_toArray, List.getElem_cons_zero, List.getElem_cons_succ, List.setIfInBounds_toArray, List.set_cons_zero, List.set_cons_succ]
  refine takeG0 (i := 4) (v := .pointer (some ⟨rb, 1 + a, none⟩)) rfl (by kernel_rfl) (by kernel_rfl) (by kernel_rfl) (by kernel_rfl) (fun _ _ _ h => h) (Or.inl ⟨by rfl, fun W hW => by go_simp⟩) hb2 ?_
  simp only [Act.put, List.getElem_toArray, List.getElem_cons_zero, List.getElem_cons_succ, List.setIfInBounds_toArray, List.set_cons_zero, List.set_cons_succ]
  have c5 := hM2.rn.reg ha8
  have f5 := hM2.rn.fz (1 + a)
  have HM5 := Lib.hid (hM2.set_ hP (1 + a) (.int .u32 ik) (fun h => h.setReg ha8 ik))
  refine lastG (by kernel_rfl) rfl (by kernel_rfl) (fun K hK => ?_)
  go_simp
  refine hK.out _ _ ?_
  clear hK K c5 f5
  go_wp2
  go_end0
  exact ⟨⟨_, rfl⟩, HM5.out⟩
set_option maxHeartbeats 4000000 in
theorem plain_move {σ : Type} {O : Ops σ} {V : Pv} {Inv : σ → (Nat → Prop) → World → Prop} {can : Nat → σ → Prop} (hP : PortOk O V Inv can) (n : Nat) (s : σ) (own : Nat → Prop) (rb : Nat) (t : Th) (a b c : Nat) (ik addr : Int) (W W1 : World)
    (hM : RMoves Inv s own rb t ⟨2, (a : Int), (b : Int), (c : Int), ik⟩ O.size V addr W W1) (hc : can (n + 2) s) (hrb : rb < W.heap.size) (ha8 : a < 8) (hb8 : b < 8) (hc8 : c < 8) :
    Calls Tryd.prog 56 #[.pointer (some ⟨rb, 0, none⟩)] W1 fun e W' => (∃ u, e = .returned u) ∧ RMoves Inv s own rb { t with regs := updR t.regs a (t.regs b) } ⟨2, (a : Int), (b : Int), (c : Int), ik⟩ O.size V addr W W' := by
  have i0 := hM.rn.ic (j := 0) rfl
  have i1 := hM.rn.ic (j := 1) rfl
  have i2 := hM.rn.ic (j := 2) rfl
  have i3 := hM.rn.ic (j := 3) rfl
  have i4 := hM.rn.ic (j := 4) rfl
  have hlt := hM.rn.lt
  dsimp only at i0 i1 i2 i3 i4
  have hM1 := hM.alloc hP (.cells #[.int .i64 2, .int .i64 (a : Int), .int .i64 (b : Int), .int .i64 (c : Int), .int .u32 ik] 54)
  have hX := Blk.new W1 54 #[.int .i64 2, .int .i64 (a : Int), .int .i64 (b : Int), .int .i64 (c : Int), .int .u32 ik]
  have hM0 := hM1.drew hP
  have hX0 := hX.drew
  have HH := Lib.hid (And.intro hM0 hX0)
  clear hM hM1 hX hM0 hX0
  go_enter Tryd.func56, Tryd.ntmps56
  go_wp2
  refine startG (fun W' => Below ((W1.alloc (.cells #[.int .i64 2, .int .i64 (a : Int), .int .i64 (b : Int), .int .i64 (c : Int), .int .u32 ik] 54)).drew).heap.size ((W1.alloc (.cells #[.int .i64 2, .int .i64 (a : Int), .int .i64 (b : Int), .int .i64 (c : Int), .int .u32 ik] 54)).drew) W') 11 (by kernel_rfl) ?_
  obtain ⟨hM0, hX0⟩ := HH.out
  obtain ⟨xb, hxb⟩ : ∃ xb, W1.heap.size = xb := ⟨_, rfl⟩
  rw [hxb] at hX0 ⊢
  generalize (W1.alloc (.cells #[.int .i64 2, .int .i64 (a : Int), .int .i64 (b : Int), .int .i64 (c : Int), .int .u32 ik] 54)).drew = W0 at hM0 hX0 ⊢
  clear hxb HH i0 i1 i2 i3 i4
  have x1 := (hX0.cell 1).trans rfl
  have x2 := (hX0.cell 2).trans rfl
  have x3 := (hX0.cell 3).trans rfl
  have x0 := (hX0.cell 0).trans rfl
  have x4 := (hX0.cell 4).trans rfl
  simp only [List.getElem?_toArray, List.getElem?_cons_zero, List.getElem?_cons_succ] at x0 x1 x2 x3 x4
  have hxl := hX0.lt
  have hH := Below.refl W0.heap.size W0
  have rr := hM0.rn.reg hb8
  have hrl := hM0.rn.lt
  obtain ⟨rv, hrv⟩ : ∃ rv, t.regs b = rv := ⟨_, rfl⟩
  rw [hrv] at rr
  have HRV := Lib.hid hrv
  have nb0 : (0 : Int) ≤ (b : Int) := by omega
  have nb8 : (b : Int) < 8 := by omega
  clear hrv
  refine takeG0 (i := 0) (v := .pointer (some ⟨rb, 0, none⟩)) rfl (by kernel_rfl) (by kernel_rfl) (by kernel_rfl) (by kernel_rfl) (fun _ _ _ h => h) (Or.inl ⟨by rfl, fun W hW => by go_simp⟩) hH ?_
  simp only [Act.put, List.getElem_toArray, List.getElem_cons_zero, List.getElem_cons_succ, List.setIfInBounds_toArray, List.set_cons_zero, List.set_cons_succ]
  refine takeG0 (i := 2) (v := .pointer (some ⟨rb, 0, none⟩)) rfl (by kernel_rfl) (by kernel_rfl) (by kernel_rfl) (by kernel_rfl) (fun _ _ _ h => h) (Or.inl ⟨by rfl, fun W hW => by go_simp⟩) hH ?_
  simp only [Act.put, List.getElem_toArray, List.getElem_cons_zero, List.getElem_cons_succ, List.setIfInBounds_toArray, List.set_cons_zero, List.set_cons_succ]
  refine takeG (i := 3) (v := .pointer (some ⟨xb, 2, none⟩)) rfl (by kernel_rfl) (by kernel_rfl) (by kernel_rfl) (by kernel_rfl) (fun _ _ _ h => h) (Or.inl ⟨by rfl, fun W hW => by go_simp⟩) hH ?_
  simp only [Act.put, List.getElem_toArray, List.getElem_cons_zero, List.getElem_cons_succ, List.setIfInBounds_toArray, List.set_cons_zero, List.set_cons_succ]
  refine takeG (i := 4) (v := .int .i64 (b : Int)) rfl (by kernel_rfl) (by kernel_rfl) (by kernel_rfl) (by kernel_rfl) (fun _ _ _ h => h) (Or.inl ⟨by rfl, fun W hW => by have q0 := keepAt hW hxl x2; go_simp⟩) hH ?_
  simp only [Act.put, List.getElem_toArray, List.getElem_cons_zero, List.getElem_cons_succ, List.setIfInBounds_toArray, List.set_cons_zero, List.set_cons_succ]
  refine takeG0 (i := 5) (v := .pointer (some ⟨rb, 0, none⟩)) rfl (by kernel_rfl) (by kernel_rfl) (by kernel_rfl) (by kernel_rfl) (fun _ _ _ h => h) (Or.inl ⟨by rfl, fun W hW => by go_simp⟩) hH ?_
  simp only [Act.put, List.getElem_toArray, List.getElem_cons_zero, List.getElem_cons_succ, List.setIfInBounds_toArray, List.set_cons_zero, List.set_cons_succ]
  refine takeG0 (i := 6) (v := .pointer (some ⟨rb, 0, none⟩)) rfl (by kernel_rfl) (by kernel_rfl) (by kernel_rfl) (by kernel_rfl) (fun _ _ _ h => h) (Or.inl ⟨by rfl, fun W hW => by go_simp⟩) hH ?_
  simp only [Act.put, List.getElem_toArray, List.getElem_cons_zero, List.getElem_cons_succ, List.setIfInBounds_toArray, List.set_cons_zero, List.set_cons_succ]
  refine takeG0 (i := 7) (v := .pointer (some ⟨rb, 1, none⟩)) rfl (by kernel_rfl) (by kernel_rfl) (by kernel_rfl) (by kernel_rfl) (fun _ _ _ h => h) (Or.inl ⟨by rfl, fun W hW => by go_simp⟩) hH ?_
  simp only [Act.put, List.getElem_toArray, List.getElem_cons_zero, List.getElem_cons_succ, List.setIfInBounds_toArray, List.set_cons_zero, List.set_cons_succ]
  refine takeG0 (i := 8) (v := .pointer (some ⟨rb, 1 + b, none⟩)) rfl (by kernel_rfl) (by kernel_rfl) (by kernel_rfl) (by kernel_rfl) (fun _ _ _ h => h) (Or.inl ⟨by rfl, fun W hW => by go_simp⟩) hH ?_
  simp only [Act.put, List.getElem_toArray, List.getElem_cons_zero, List.getElem_cons_succ, List.setIfInBounds_toArray, List.set_cons_zero, List.set_cons_succ]
  refine takeG (i := 9) (v := .int .u32 rv) rfl (by kernel_rfl) (by kernel_rfl) (by kernel_rfl) (by kernel_rfl) (fun _ _ _ h => h) (Or.inl ⟨by rfl, fun W hW => by have q0 := keepAt hW hrl rr; go_simp⟩) hH ?_
  simp only [Act.put, List.getElem_toArray, List.getElem_cons_zero, List.getElem_cons_succ, List.setIfInBounds_toArray, List.set_cons_zero, List.set_cons_succ]
  refine onlyG (i := 1) (by kernel_rfl) rfl (fun K hK => ?_)
  go_simp
  refine (reg_rb hP a rfl ha8 hM0).mono ?_
  rintro e W2 ⟨rfl, hM2, hb2⟩
  go_wp2_with fail
  refine hK.out _ _ hb2 (fun _ => ?_)
  clear hK K
  try simp only [Act.put, List.getElem_toArray, List.getElem_cons_zero, List.getElem_cons_succ, List.setIfInBounds_toArray, List.set_cons_zero, List.set_cons_succ]
  refine takeG0 (i := 10) (v := .pointer (some ⟨rb, 1 + a, none⟩)) rfl (by kernel_rfl) (by kernel_rfl) (by kernel_rfl) (by kernel_rfl) (fun _ _ _ h => h) (Or.inl ⟨by rfl, fun W hW => by go_simp⟩) hb2 ?_
  simp only [Act.put, List.getElem_toArray, List.getElem_cons_zero, List.getElem_cons_succ, List.setIfInBounds_toArray, List.set_cons_zero, List.set_cons_succ]
  have c5 := hM2.rn.reg ha8
  have f5 := hM2.rn.fz (1 + a)
  have HM5 := Lib.hid (hM2.set_ hP (1 + a) (.int .u32 rv) (fun h => h.setReg ha8 rv))
  refine lastG (by kernel_rfl) rfl (by kernel_rfl) (fun K hK => ?_)
  go_simp
  refine hK.out _ _ ?_
  clear hK K c5 f5
  go_wp2
  go_end0
  rw [HRV.out]
  exact ⟨⟨_, rfl⟩, HM5.out⟩
set_option maxHeartbeats 4000000 in
theorem plain_fence {σ : Type} {O : Ops σ} {V : Pv} {Inv : σ → (Nat → Prop) → World → Prop} {can : Nat → σ → Prop} (hP : PortOk O V Inv can) (n : Nat) (s : σ) (own : Nat → Prop) (rb : Nat) (t : Th) (a b c : Nat) (ik addr : Int) (W W1 : World)
    (hM : RMoves Inv s own rb t ⟨18, (a : Int), (b : Int), (c : Int), ik⟩ O.size V addr W W1) (hc : can (n + 2) s) (hrb : rb < W.heap.size) (ha8 : a < 8) (hb8 : b < 8) (hc8 : c < 8) :
    Calls Tryd.prog 56 #[.pointer (some ⟨rb, 0, none⟩)] W1 fun e W' => (∃ u, e = .returned u) ∧ RMoves Inv (O.note s ⟨5, 0, t.pc, addr, 0, 0, 0, false⟩) own rb t ⟨18, (a : Int), (b : Int), (c : Int), ik⟩ O.size V addr W W' := by
  have i0 := hM.rn.ic (j := 0) rfl
  have i1 := hM.rn.ic (j := 1) rfl
  have i2 := hM.rn.ic (j := 2) rfl
  have i3 := hM.rn.ic (j := 3) rfl
  have i4 := hM.rn.ic (j := 4) rfl
  have hlt := hM.rn.lt
  dsimp only at i0 i1 i2 i3 i4
  have hM1 := hM.alloc hP (.cells #[.int .i64 18, .int .i64 (a : Int), .int .i64 (b : Int), .int .i64 (c : Int), .int .u32 ik] 54)
  have hX := Blk.new W1 54 #[.int .i64 18, .int .i64 (a : Int), .int .i64 (b : Int), .int .i64 (c : Int), .int .u32 ik]
  have hN := note_r hP n (W := W) ⟨5, 0, 0, 0, 0, 0, 0, false⟩ hM1 (hP.less (n + 1) s hc) hrb
  clear hM hM1 hX
  go_enter Tryd.func56, Tryd.ntmps56
  go_wp2_with fail
  refine hN.mono ?_
  rintro e W2 ⟨⟨u, rfl⟩, hM2⟩
  have HM2 := Lib.hid hM2
  clear hN hM2 i0 i1 i2 i3 i4
  go_wp2
  go_end0
  exact ⟨⟨_, rfl⟩, HM2.out⟩
set_option maxHeartbeats 4000000 in
theorem plain_out {σ : Type} {O : Ops σ} {V : Pv} {Inv : σ → (Nat → Prop) → World → Prop} {can : Nat → σ → Prop} (hP : PortOk O V Inv can) (n : Nat) (s : σ) (own : Nat → Prop) (rb : Nat) (t : Th) (a b c : Nat) (ik addr : Int) (W W1 : World)
    (hM : RMoves Inv s own rb t ⟨22, (a : Int), (b : Int), (c : Int), ik⟩ O.size V addr W W1) (hc : can (n + 2) s) (hrb : rb < W.heap.size) (ha8 : a < 8) (hb8 : b < 8) (hc8 : c < 8) :
    Calls Tryd.prog 56 #[.pointer (some ⟨rb, 0, none⟩)] W1 fun e W' => (∃ u, e = .returned u) ∧ RMoves Inv (O.note s ⟨6, 0, t.pc, addr, t.regs a, 0, 0, false⟩) own rb t ⟨22, (a : Int), (b : Int), (c : Int), ik⟩ O.size V addr W W' := by
  have i0 := hM.rn.ic (j := 0) rfl
  have i1 := hM.rn.ic (j := 1) rfl
  have i2 := hM.rn.ic (j := 2) rfl
  have i3 := hM.rn.ic (j := 3) rfl
  have i4 := hM.rn.ic (j := 4) rfl
  have hlt := hM.rn.lt
  dsimp only at i0 i1 i2 i3 i4
  have hM1 := hM.alloc hP (.cells #[.int .i64 22, .int .i64 (a : Int), .int .i64 (b : Int), .int .i64 (c : Int), .int .u32 ik] 54)
  have hX := Blk.new W1 54 #[.int .i64 22, .int .i64 (a : Int), .int .i64 (b : Int), .int .i64 (c : Int), .int .u32 ik]
  have hr := reg_r hP a rfl ha8 hM1
  have HC := Lib.hid (hP.less (n + 1) s hc)
  clear hM hM1 hX
  go_enter Tryd.func56, Tryd.ntmps56
  go_wp2_with fail
  refine hr.mono ?_
  rintro e W2 ⟨rfl, hM2⟩
  have c2 := hM2.rn.reg ha8
  obtain ⟨rv, hrv⟩ : ∃ rv, t.regs a = rv := ⟨_, rfl⟩
  rw [hrv] at c2
  have HRV := Lib.hid hrv
  have hN := note_r hP n (W := W) ⟨6, 0, 0, 0, rv, 0, 0, false⟩ hM2 HC.out hrb
  clear hr hM2 i0 i1 i2 i3 i4 hrv
  go_wp2_with fail
  refine hN.mono ?_
  rintro e W3 ⟨⟨u, rfl⟩, hM3⟩
  have HM3 := Lib.hid hM3
  clear hN hM3 c2
  go_wp2
  go_end0
  rw [HRV.out]
  exact ⟨⟨_, rfl⟩, HM3.out⟩
set_option maxHeartbeats 4000000 in
theorem plain_remote {σ : Type} {O : Ops σ} {V : Pv} {Inv : σ → (Nat → Prop) → World → Prop} {can : Nat → σ → Prop} (hP : PortOk O V Inv can) (n : Nat) (s : σ) (own : Nat → Prop) (rb : Nat) (t : Th) (a b c : Nat) (ik addr : Int) (W W1 : World)
    (hM : RMoves Inv s own rb t ⟨25, (a : Int), (b : Int), (c : Int), ik⟩ O.size V addr W W1) (hc : can (n + 2) s) (hrb : rb < W.heap.size) (ha8 : a < 8) (hb8 : b < 8) (hc8 : c < 8) :
    Calls Tryd.prog 56 #[.pointer (some ⟨rb, 0, none⟩)] W1 fun e W' => (∃ u, e = .returned u) ∧ RMoves Inv (O.note (O.remote s) ⟨10, 0, t.pc, addr, 0, 0, 0, false⟩) own rb t ⟨25, (a : Int), (b : Int), (c : Int), ik⟩ O.size V addr W W' := by
  have i0 := hM.rn.ic (j := 0) rfl
  have i1 := hM.rn.ic (j := 1) rfl
  have i2 := hM.rn.ic (j := 2) rfl
  have i3 := hM.rn.ic (j := 3) rfl
  have i4 := hM.rn.ic (j := 4) rfl
  have hlt := hM.rn.lt
  dsimp only at i0 i1 i2 i3 i4
  have hM1 := hM.alloc hP (.cells #[.int .i64 25, .int .i64 (a : Int), .int .i64 (b : Int), .int .i64 (c : Int), .int .u32 ik] 54)
  have hX := Blk.new W1 54 #[.int .i64 25, .int .i64 (a : Int), .int .i64 (b : Int), .int .i64 (c : Int), .int .u32 ik]
  obtain ⟨c15, c16, c17, c18, c19, c20, c21, c22, c23, c24, c25, c26⟩ := hM1.rn.pt
  have hG := hP.goes.2.2.2.2.2.2.2.2.1
  unfold Goes at hG
  unfold Fv.val at c24
  have hS := remote_r hP (n + 1) hM1 hc hrb
  have HC := Lib.hid (hP.cremote (n + 1) s hc)
  have hgo := fun arr => hG arr (W1.alloc (.cells #[.int .i64 25, .int .i64 (a : Int), .int .i64 (b : Int), .int .i64 (c : Int), .int .u32 ik] 54))
  clear hM hM1 hX c15 c16 c17 c18 c19 c20 c21 c22 c23 c25 c26 hG
  go_enter Tryd.func56, Tryd.ntmps56
  go_wp2_with fail
  refine hS.mono ?_
  rintro e W2 ⟨⟨u, rfl⟩, hM2⟩
  have hN := note_r hP n (W := W) ⟨10, 0, 0, 0, 0, 0, 0, false⟩ hM2 HC.out hrb
  clear hS hM2 i0 i1 i2 i3 i4 c24 hgo
  go_wp2_with fail
  refine hN.mono ?_
  rintro e W3 ⟨⟨u, rfl⟩, hM3⟩
  have HM3 := Lib.hid hM3
  clear hN hM3
  go_wp2
  go_end0
  exact ⟨⟨_, rfl⟩, HM3.out⟩
set_option maxHeartbeats 4000000 in
theorem plain_mark {σ : Type} {O : Ops σ} {V : Pv} {Inv : σ → (Nat → Prop) → World → Prop} {can : Nat → σ → Prop} (hP : PortOk O V Inv can) (n : Nat) (s : σ) (own : Nat → Prop) (rb : Nat) (t : Th) (a b c : Nat) (ik addr : Int) (W W1 : World)
    (hM : RMoves Inv s own rb t ⟨27, (a : Int), (b : Int), (c : Int), ik⟩ O.size V addr W W1) (hc : can (n + 2) s) (hrb : rb < W.heap.size) (ha8 : a < 8) (hb8 : b < 8) (hc8 : c < 8) :
    Calls Tryd.prog 56 #[.pointer (some ⟨rb, 0, none⟩)] W1 fun e W' => (∃ u, e = .returned u) ∧ RMoves Inv (O.note s ⟨7, 0, t.pc, addr, t.regs a, 0, ik, false⟩) own rb t ⟨27, (a : Int), (b : Int), (c : Int), ik⟩ O.size V addr W W' := by
  have HC := Lib.hid (hP.less (n + 1) s hc)
  have i0 := hM.rn.ic (j := 0) rfl
  have i1 := hM.rn.ic (j := 1) rfl
  have i2 := hM.rn.ic (j := 2) rfl
  have i3 := hM.rn.ic (j := 3) rfl
  have i4 := hM.rn.ic (j := 4) rfl
  have hlt := hM.rn.lt
  dsimp only at i0 i1 i2 i3 i4
  have hM1 := hM.alloc hP (.cells #[.int .i64 27, .int .i64 (a : Int), .int .i64 (b : Int), .int .i64 (c : Int), .int .u32 ik] 54)
  have hX := Blk.new W1 54 #[.int .i64 27, .int .i64 (a : Int), .int .i64 (b : Int), .int .i64 (c : Int), .int .u32 ik]
  have hM0 := hM1.drew hP
  have hX0 := hX.drew
  have HH := Lib.hid (And.intro hM0 hX0)
  clear hM hM1 hX hM0 hX0
  go_enter Tryd.func56, Tryd.ntmps56
  go_wp2
  refine startG (fun W' => Below ((W1.alloc (.cells #[.int .i64 27, .int .i64 (a : Int), .int .i64 (b : Int), .int .i64 (c : Int), .int .u32 ik] 54)).drew).heap.size ((W1.alloc (.cells #[.int .i64 27, .int .i64 (a : Int), .int .i64 (b : Int), .int .i64 (c : Int), .int .u32 ik] 54)).drew) W') 8 (by kernel_rfl) ?_
  obtain ⟨hM0, hX0⟩ := HH.out
  obtain ⟨xb, hxb⟩ : ∃ xb, W1.heap.size = xb := ⟨_, rfl⟩
  rw [hxb] at hX0 ⊢
  generalize (W1.alloc (.cells #[.int .i64 27, .int .i64 (a : Int), .int .i64 (b : Int), .int .i64 (c : Int), .int .u32 ik] 54)).drew = W0 at hM0 hX0 ⊢
  clear hxb HH i0 i1 i2 i3 i4
  have x1 := (hX0.cell 1).trans rfl
  have x2 := (hX0.cell 2).trans rfl
  have x3 := (hX0.cell 3).trans rfl
  have x0 := (hX0.cell 0).trans rfl
  have x4 := (hX0.cell 4).trans rfl
  simp only [List.getElem?_toArray, List.getElem?_cons_zero, List.getElem?_cons_succ] at x0 x1 x2 x3 x4
  have hxl := hX0.lt
  have hH := Below.refl W0.heap.size W0
  have rr := hM0.rn.reg ha8
  have hrl := hM0.rn.lt
  obtain ⟨rv, hrv⟩ : ∃ rv, t.regs a = rv := ⟨_, rfl⟩
  rw [hrv] at rr
  have HRV := Lib.hid hrv
  clear hrv
  refine takeG0 (i := 0) (v := .pointer (some ⟨rb, 0, none⟩)) rfl (by kernel_rfl) (by kernel_rfl) (by kernel_rfl) (by kernel_rfl) (fun _ _ _ h => h) (Or.inl ⟨by rfl, fun W hW => by go_simp⟩) hH ?_
  simp only [Act.put, List.getElem_toArray, List.getElem_cons_zero, List.getElem_cons_succ, List.setIfInBounds_toArray, List.set_cons_zero, List.set_cons_succ]
  refine takeG0 (i := 1) (v := .pointer (some ⟨rb, 0, none⟩)) rfl (by kernel_rfl) (by kernel_rfl) (by kernel_rfl) (by kernel_rfl) (fun _ _ _ h => h) (Or.inl ⟨by rfl, fun W hW => by go_simp⟩) hH ?_
  simp only [Act.put, List.getElem_toArray, List.getElem_cons_zero, List.getElem_cons_succ, List.setIfInBounds_toArray, List.set_cons_zero, List.set_cons_succ]
  refine takeG0 (i := 5) (v := .pointer (some ⟨xb, 4, none⟩)) rfl (by kernel_rfl) (by kernel_rfl) (by kernel_rfl) (by kernel_rfl) (fun _ _ _ h => h) (Or.inl ⟨by rfl, fun W hW => by go_simp⟩) hH ?_
  simp only [Act.put, List.getElem_toArray, List.getElem_cons_zero, List.getElem_cons_succ, List.setIfInBounds_toArray, List.set_cons_zero, List.set_cons_succ]
  refine takeG (i := 6) (v := .int .u32 ik) rfl (by kernel_rfl) (by kernel_rfl) (by kernel_rfl) (by kernel_rfl) (fun _ _ _ h => h) (Or.inl ⟨by rfl, fun W hW => by have q0 := keepAt hW hxl x4; go_simp⟩) hH ?_
  simp only [Act.put, List.getElem_toArray, List.getElem_cons_zero, List.getElem_cons_succ, List.setIfInBounds_toArray, List.set_cons_zero, List.set_cons_succ]
  refine onlyG (i := 2) (by kernel_rfl) rfl (fun K hK => ?_)
  go_simp
  refine (reg_rb hP a rfl ha8 hM0).mono ?_
  rintro e W2 ⟨rfl, hM2, hb2⟩
  go_wp2_with fail
  refine hK.out _ _ hb2 (fun _ => ?_)
  clear hK K
  try simp only [Act.put, List.getElem_toArray, List.getElem_cons_zero, List.getElem_cons_succ, List.setIfInBounds_toArray, List.set_cons_zero, List.set_cons_succ]
  refine takeG0 (i := 3) (v := .pointer (some ⟨rb, 1 + a, none⟩)) rfl (by kernel_rfl) (by kernel_rfl) (by kernel_rfl) (by kernel_rfl) (fun _ _ _ h => h) (Or.inl ⟨by rfl, fun W hW => by go_simp⟩) hb2 ?_
  simp only [Act.put, List.getElem_toArray, List.getElem_cons_zero, List.getElem_cons_succ, List.setIfInBounds_toArray, List.set_cons_zero, List.set_cons_succ]
  refine takeG (i := 4) (v := .int .u32 rv) rfl (by kernel_rfl) (by kernel_rfl) (by kernel_rfl) (by kernel_rfl) (fun _ _ _ h => h) (Or.inl ⟨by rfl, fun W hW => by have q0 := keepAt hW hrl rr; go_simp⟩) hb2 ?_
  simp only [Act.put, List.getElem_toArray, List.getElem_cons_zero, List.getElem_cons_succ, List.setIfInBounds_toArray, List.set_cons_zero, List.set_cons_succ]
  refine takeG0 (i := 7) (v := .agg #[.int .i64 7, .int .i64 0, .int .i64 0, .int .i64 0, .int .u32 rv, .int .u32 0, .int .u32 ik, .bool false]) rfl (by kernel_rfl) (by kernel_rfl) (by kernel_rfl) (by kernel_rfl) (fun _ _ _ h => h) (Or.inl ⟨by rfl, fun W hW => by go_simp⟩) hb2 ?_
  simp only [Act.put, List.getElem_toArray, List.getElem_cons_zero, List.getElem_cons_succ, List.setIfInBounds_toArray, List.set_cons_zero, List.set_cons_succ]
  refine lastG (by kernel_rfl) rfl (by kernel_rfl) (fun K hK => ?_)
  go_simp
  refine (note_r hP n (W := W) ⟨7, 0, 0, 0, rv, 0, ik, false⟩ hM2 HC.out hrb).mono ?_
  rintro e W3 ⟨⟨u, rfl⟩, hM3⟩
  go_wp2_with fail
  refine hK.out _ _ ?_
  clear hK K
  have HM3 := Lib.hid hM3
  clear hM3
  go_wp2
  go_end0
  rw [HRV.out]
  exact ⟨⟨_, rfl⟩, HM3.out⟩
set_option maxHeartbeats 4000000 in
theorem plain_alu {σ : Type} {O : Ops σ} {V : Pv} {Inv : σ → (Nat → Prop) → World → Prop} {can : Nat → σ → Prop} (hP : PortOk O V Inv can) (n : Nat) (s : σ) (own : Nat → Prop) (rb : Nat) (t : Th) (a b c : Nat) (ik addr : Int) (opn : Nat) (h3 : 3 ≤ opn) (h12 : opn ≤ 12) (W W1 : World)
    (hM : RMoves Inv s own rb t ⟨(opn : Int), (a : Int), (b : Int), (c : Int), ik⟩ O.size V addr W W1) (hc : can (n + 2) s) (hrb : rb < W.heap.size) (ha8 : a < 8) (hb8 : b < 8) (hc8 : c < 8) (hk0 : ∀ r, 0 ≤ t.regs r ∧ t.regs r ≤ 4294967295) :
    Calls Tryd.prog 56 #[.pointer (some ⟨rb, 0, none⟩)] W1 fun e W' => (∃ u, e = .returned u) ∧ RMoves Inv s own rb { t with regs := updR t.regs a (aluF opn (t.regs b) (t.regs c)) } ⟨(opn : Int), (a : Int), (b : Int), (c : Int), ik⟩ O.size V addr W W' := by
  obtain ⟨aw, haw⟩ : ∃ aw, aluF opn (t.regs b) (t.regs c) = aw := ⟨_, rfl⟩
  have hdo := fun W => do_any opn h3 h12 (t.regs b) (t.regs c) (hk0 c).1 (hk0 c).2 W
  rw [haw] at hdo
  have HAW := Lib.hid haw
  have hne : ((opn : Int) == 1) = false ∧ ((opn : Int) == 2) = false ∧ ((opn : Int) == 18) = false ∧ ((opn : Int) == 22) = false ∧ ((opn : Int) == 27) = false ∧ ((opn : Int) == 25) = false := by
    refine ⟨?_, ?_, ?_, ?_, ?_, ?_⟩ <;> (simp; omega)
  obtain ⟨z1, z2, z3, z4, z5, z6⟩ := hne
  have HDO := Lib.hid hdo
  clear hdo haw
  have i0 := hM.rn.ic (j := 0) rfl
  have i1 := hM.rn.ic (j := 1) rfl
  have i2 := hM.rn.ic (j := 2) rfl
  have i3 := hM.rn.ic (j := 3) rfl
  have i4 := hM.rn.ic (j := 4) rfl
  have hlt := hM.rn.lt
  dsimp only at i0 i1 i2 i3 i4
  have hM1 := hM.alloc hP (.cells #[.int .i64 (opn : Int), .int .i64 (a : Int), .int .i64 (b : Int), .int .i64 (c : Int), .int .u32 ik] 54)
  have hX := Blk.new W1 54 #[.int .i64 (opn : Int), .int .i64 (a : Int), .int .i64 (b : Int), .int .i64 (c : Int), .int .u32 ik]
  have hM0 := hM1.drew hP
  have hX0 := hX.drew
  have HH := Lib.hid (And.intro hM0 hX0)
  clear hM hM1 hX hM0 hX0
  go_enter Tryd.func56, Tryd.ntmps56
  go_wp2
  refine startG (fun W' => Below ((W1.alloc (.cells #[.int .i64 (opn : Int), .int .i64 (a : Int), .int .i64 (b : Int), .int .i64 (c : Int), .int .u32 ik] 54)).drew).heap.size ((W1.alloc (.cells #[.int .i64 (opn : Int), .int .i64 (a : Int), .int .i64 (b : Int), .int .i64 (c : Int), .int .u32 ik] 54)).drew) W') 23 (by kernel_rfl) ?_
  obtain ⟨hM0, hX0⟩ := HH.out
  obtain ⟨xb, hxb⟩ : ∃ xb, W1.heap.size = xb := ⟨_, rfl⟩
  rw [hxb] at hX0 ⊢
  generalize (W1.alloc (.cells #[.int .i64 (opn : Int), .int .i64 (a : Int), .int .i64 (b : Int), .int .i64 (c : Int), .int .u32 ik] 54)).drew = W0 at hM0 hX0 ⊢
  clear hxb HH i0 i1 i2 i3 i4
  have x1 := (hX0.cell 1).trans rfl
  have x2 := (hX0.cell 2).trans rfl
  have x3 := (hX0.cell 3).trans rfl
  have x0 := (hX0.cell 0).trans rfl
  have x4 := (hX0.cell 4).trans rfl
  simp only [List.getElem?_toArray, List.getElem?_cons_zero, List.getElem?_cons_succ] at x0 x1 x2 x3 x4
  have hxl := hX0.lt
  have hH := Below.refl W0.heap.size W0
  have rr := hM0.rn.reg hb8
  have rs := hM0.rn.reg hc8
  have hrl := hM0.rn.lt
  obtain ⟨rv, hrv⟩ : ∃ rv, t.regs b = rv := ⟨_, rfl⟩
  obtain ⟨rw', hrw⟩ : ∃ rv, t.regs c = rv := ⟨_, rfl⟩
  rw [hrv] at rr
  rw [hrw] at rs
  have HRV := Lib.hid (And.intro hrv hrw)
  have nb0 : (0 : Int) ≤ (b : Int) := by omega
  have nb8 : (b : Int) < 8 := by omega
  have nc0 : (0 : Int) ≤ (c : Int) := by omega
  have nc8 : (c : Int) < 8 := by omega
  clear hrv hrw
  refine takeG (i := 0) (v := .pointer (some ⟨xb, 0, none⟩)) rfl (by kernel_rfl) (by kernel_rfl) (by kernel_rfl) (by kernel_rfl) (fun _ _ _ h => h) (Or.inl ⟨by rfl, fun W hW => by go_simp⟩) hH ?_
  simp only [Act.put, List.getElem_toArray, List.getElem_cons_zero, List.getElem_cons_succ, List.setIfInBounds_toArray, List.set_cons_zero, List.set_cons_succ]
  refine takeG (i := 1) (v := .int .i64 (opn : Int)) rfl (by kernel_rfl) (by kernel_rfl) (by kernel_rfl) (by kernel_rfl) (fun _ _ _ h => h) (Or.inl ⟨by rfl, fun W hW => by have q0 := keepAt hW hxl x0; go_simp⟩) hH ?_
  simp only [Act.put, List.getElem_toArray, List.getElem_cons_zero, List.getElem_cons_succ, List.setIfInBounds_toArray, List.set_cons_zero, List.set_cons_succ]
  refine takeG (i := 2) (v := .pointer (some ⟨rb, 0, none⟩)) rfl (by kernel_rfl) (by kernel_rfl) (by kernel_rfl) (by kernel_rfl) (fun _ _ _ h => h) (Or.inl ⟨by rfl, fun W hW => by go_simp⟩) hH ?_
  simp only [Act.put, List.getElem_toArray, List.getElem_cons_zero, List.getElem_cons_succ, List.setIfInBounds_toArray, List.set_cons_zero, List.set_cons_succ]
  refine takeG (i := 3) (v := .pointer (some ⟨xb, 2, none⟩)) rfl (by kernel_rfl) (by kernel_rfl) (by kernel_rfl) (by kernel_rfl) (fun _ _ _ h => h) (Or.inl ⟨by rfl, fun W hW => by go_simp⟩) hH ?_
  simp only [Act.put, List.getElem_toArray, List.getElem_cons_zero, List.getElem_cons_succ, List.setIfInBounds_toArray, List.set_cons_zero, List.set_cons_succ]
  refine takeG (i := 4) (v := .int .i64 (b : Int)) rfl (by kernel_rfl) (by kernel_rfl) (by kernel_rfl) (by kernel_rfl) (fun _ _ _ h => h) (Or.inl ⟨by rfl, fun W hW => by have q0 := keepAt hW hxl x2; go_simp⟩) hH ?_
  simp only [Act.put, List.getElem_toArray, List.getElem_cons_zero, List.getElem_cons_succ, List.setIfInBounds_toArray, List.set_cons_zero, List.set_cons_succ]
  refine takeG (i := 5) (v := .pointer (some ⟨rb, 0, none⟩)) rfl (by kernel_rfl) (by kernel_rfl) (by kernel_rfl) (by kernel_rfl) (fun _ _ _ h => h) (Or.inl ⟨by rfl, fun W hW => by go_simp⟩) hH ?_
  simp only [Act.put, List.getElem_toArray, List.getElem_cons_zero, List.getElem_cons_succ, List.setIfInBounds_toArray, List.set_cons_zero, List.set_cons_succ]
  refine takeG (i := 6) (v := .pointer (some ⟨rb, 0, none⟩)) rfl (by kernel_rfl) (by kernel_rfl) (by kernel_rfl) (by kernel_rfl) (fun _ _ _ h => h) (Or.inl ⟨by rfl, fun W hW => by go_simp⟩) hH ?_
  simp only [Act.put, List.getElem_toArray, List.getElem_cons_zero, List.getElem_cons_succ, List.setIfInBounds_toArray, List.set_cons_zero, List.set_cons_succ]
  refine takeG (i := 7) (v := .pointer (some ⟨rb, 1, none⟩)) rfl (by kernel_rfl) (by kernel_rfl) (by kernel_rfl) (by kernel_rfl) (fun _ _ _ h => h) (Or.inl ⟨by rfl, fun W hW => by go_simp⟩) hH ?_
  simp only [Act.put, List.getElem_toArray, List.getElem_cons_zero, List.getElem_cons_succ, List.setIfInBounds_toArray, List.set_cons_zero, List.set_cons_succ]
  refine takeG (i := 8) (v := .pointer (some ⟨rb, 1 + b, none⟩)) rfl (by kernel_rfl) (by kernel_rfl) (by kernel_rfl) (by kernel_rfl) (fun _ _ _ h => h) (Or.inl ⟨by rfl, fun W hW => by go_simp⟩) hH ?_
  simp only [Act.put, List.getElem_toArray, List.getElem_cons_zero, List.getElem_cons_succ, List.setIfInBounds_toArray, List.set_cons_zero, List.set_cons_succ]
  refine takeG (i := 9) (v := .int .u32 rv) rfl (by kernel_rfl) (by kernel_rfl) (by kernel_rfl) (by kernel_rfl) (fun _ _ _ h => h) (Or.inl ⟨by rfl, fun W hW => by have q0 := keepAt hW hrl rr; go_simp⟩) hH ?_
  simp only [Act.put, List.getElem_toArray, List.getElem_cons_zero, List.getElem_cons_succ, List.setIfInBounds_toArray, List.set_cons_zero, List.set_cons_succ]
  refine takeG (i := 10) (v := .pointer (some ⟨rb, 0, none⟩)) rfl (by kernel_rfl) (by kernel_rfl) (by kernel_rfl) (by kernel_rfl) (fun _ _ _ h => h) (Or.inl ⟨by rfl, fun W hW => by go_simp⟩) hH ?_
  simp only [Act.put, List.getElem_toArray, List.getElem_cons_zero, List.getElem_cons_succ, List.setIfInBounds_toArray, List.set_cons_zero, List.set_cons_succ]
  refine takeG (i := 11) (v := .pointer (some ⟨xb, 3, none⟩)) rfl (by kernel_rfl) (by kernel_rfl) (by kernel_rfl) (by kernel_rfl) (fun _ _ _ h => h) (Or.inl ⟨by rfl, fun W hW => by go_simp⟩) hH ?_
  simp only [Act.put, List.getElem_toArray, List.getElem_cons_zero, List.getElem_cons_succ, List.setIfInBounds_toArray, List.set_cons_zero, List.set_cons_succ]
  refine takeG (i := 12) (v := .int .i64 (c : Int)) rfl (by kernel_rfl) (by kernel_rfl) (by kernel_rfl) (by kernel_rfl) (fun _ _ _ h => h) (Or.inl ⟨by rfl, fun W hW => by have q0 := keepAt hW hxl x3; go_simp⟩) hH ?_
  simp only [Act.put, List.getElem_toArray, List.getElem_cons_zero, List.getElem_cons_succ, List.setIfInBounds_toArray, List.set_cons_zero, List.set_cons_succ]
  refine takeG (i := 13) (v := .pointer (some ⟨rb, 0, none⟩)) rfl (by kernel_rfl) (by kernel_rfl) (by kernel_rfl) (by kernel_rfl) (fun _ _ _ h => h) (Or.inl ⟨by rfl, fun W hW => by go_simp⟩) hH ?_
  simp only [Act.put, List.getElem_toArray, List.getElem_cons_zero, List.getElem_cons_succ, List.setIfInBounds_toArray, List.set_cons_zero, List.set_cons_succ]
  refine takeG (i := 14) (v := .pointer (some ⟨rb, 0, none⟩)) rfl (by kernel_rfl) (by kernel_rfl) (by kernel_rfl) (by kernel_rfl) (fun _ _ _ h => h) (Or.inl ⟨by rfl, fun W hW => by go_simp⟩) hH ?_
  simp only [Act.put, List.getElem_toArray, List.getElem_cons_zero, List.getElem_cons_succ, List.setIfInBounds_toArray, List.set_cons_zero, List.set_cons_succ]
  refine takeG (i := 15) (v := .pointer (some ⟨rb, 1, none⟩)) rfl (by kernel_rfl) (by kernel_rfl) (by kernel_rfl) (by kernel_rfl) (fun _ _ _ h => h) (Or.inl ⟨by rfl, fun W hW => by go_simp⟩) hH ?_
  simp only [Act.put, List.getElem_toArray, List.getElem_cons_zero, List.getElem_cons_succ, List.setIfInBounds_toArray, List.set_cons_zero, List.set_cons_succ]
  refine takeG (i := 16) (v := .pointer (some ⟨rb, 1 + c, none⟩)) rfl (by kernel_rfl) (by kernel_rfl) (by kernel_rfl) (by kernel_rfl) (fun _ _ _ h => h) (Or.inl ⟨by rfl, fun W hW => by go_simp⟩) hH ?_
  simp only [Act.put, List.getElem_toArray, List.getElem_cons_zero, List.getElem_cons_succ, List.setIfInBounds_toArray, List.set_cons_zero, List.set_cons_succ]
  refine takeG (i := 17) (v := .int .u32 rw') rfl (by kernel_rfl) (by kernel_rfl) (by kernel_rfl) (by kernel_rfl) (fun _ _ _ h => h) (Or.inl ⟨by rfl, fun W hW => by have q0 := keepAt hW hrl rs; go_simp⟩) hH ?_
  simp only [Act.put, List.getElem_toArray, List.getElem_cons_zero, List.getElem_cons_succ, List.setIfInBounds_toArray, List.set_cons_zero, List.set_cons_succ]
  refine onlyG (i := 18) (by kernel_rfl) rfl (fun K hK => ?_)
  go_simp
  have h0 := HDO.out W0
  rw [HRV.out.1, HRV.out.2] at h0
  refine h0.mono ?_
  rintro e W2 ⟨rfl, hb2⟩
  go_wp2_with fail
  refine hK.out _ _ hb2 (fun _ => ?_)
  clear hK K
  try simp only [Act.put, List.getElem_toArray, List.getElem_cons_zero, List.getElem_cons_succ, List.setIfInBounds_toArray, List.set_cons_zero, List.set_cons_succ]
  refine takeG (i := 19) (v := .tuple #[.int .u32 aw, .bool true]) rfl (by kernel_rfl) (by kernel_rfl) (by kernel_rfl) (by kernel_rfl) (fun _ _ _ h => h) (Or.inl ⟨by rfl, fun W hW => by go_simp⟩) hb2 ?_
  simp only [Act.put, List.getElem_toArray, List.getElem_cons_zero, List.getElem_cons_succ, List.setIfInBounds_toArray, List.set_cons_zero, List.set_cons_succ]
  refine takeG (i := 20) (v := .int .u32 aw) rfl (by kernel_rfl) (by kernel_rfl) (by kernel_rfl) (by kernel_rfl) (fun _ _ _ h => h) (Or.inl ⟨by rfl, fun W hW => by go_simp⟩) hb2 ?_
  simp only [Act.put, List.getElem_toArray, List.getElem_cons_zero, List.getElem_cons_succ, List.setIfInBounds_toArray, List.set_cons_zero, List.set_cons_succ]
  refine takeG (i := 21) (v := .bool true) rfl (by kernel_rfl) (by kernel_rfl) (by kernel_rfl) (by kernel_rfl) (fun _ _ _ h => h) (Or.inl ⟨by rfl, fun W hW => by go_simp⟩) hb2 ?_
  simp only [Act.put, List.getElem_toArray, List.getElem_cons_zero, List.getElem_cons_succ, List.setIfInBounds_toArray, List.set_cons_zero, List.set_cons_succ]
  refine onlyG (i := 22) (by kernel_rfl) rfl (fun K hK => ?_)
  go_simp
  refine hK.out _ _ hb2 (fun _ => ?_)
  clear hK K
  try simp only [Act.put, List.getElem_toArray, List.getElem_cons_zero, List.getElem_cons_succ, List.setIfInBounds_toArray, List.set_cons_zero, List.set_cons_succ]
  have HM2 := Lib.hid (hM0.below hP hb2)
  refine lastG (by kernel_rfl) rfl (by kernel_rfl) (fun K hK => ?_)
  go_simp
  refine hK.out _ _ ?_
  clear hK K x0 x1 x2 x3 x4 rr rs
  have hr := reg_r hP a rfl ha8 HM2.out
  go_wp2_with fail
  refine hr.mono ?_
  rintro e W3 ⟨rfl, hM3⟩
  have c5 := hM3.rn.reg ha8
  have f5 := hM3.rn.fz (1 + a)
  have HM5 := Lib.hid (hM3.set_ hP (1 + a) (.int .u32 aw) (fun h => h.setReg ha8 aw))
  clear hr hM3
  go_wp2
  go_end0
  rw [HAW.out]
  exact ⟨⟨_, rfl⟩, HM5.out⟩
set_option maxHeartbeats 4000000 in
theorem plain_yield {σ : Type} {O : Ops σ} {V : Pv} {Inv : σ → (Nat → Prop) → World → Prop} {can : Nat → σ → Prop} (hP : PortOk O V Inv can) (n : Nat) (s : σ) (own : Nat → Prop) (rb : Nat) (t : Th) (a b c : Nat) (ik addr : Int) (W W1 : World)
    (hM : RMoves Inv s own rb t ⟨26, (a : Int), (b : Int), (c : Int), ik⟩ O.size V addr W W1) (hc : can (n + 2) s) (hrb : rb < W.heap.size) (ha8 : a < 8) (hb8 : b < 8) (hc8 : c < 8) :
    Calls Tryd.prog 56 #[.pointer (some ⟨rb, 0, none⟩)] W1 fun e W' => (∃ u, e = .returned u) ∧ RMoves Inv s own rb t ⟨26, (a : Int), (b : Int), (c : Int), ik⟩ O.size V addr W W' := by
  have i0 := hM.rn.ic (j := 0) rfl
  have i1 := hM.rn.ic (j := 1) rfl
  have i2 := hM.rn.ic (j := 2) rfl
  have i3 := hM.rn.ic (j := 3) rfl
  have i4 := hM.rn.ic (j := 4) rfl
  have hlt := hM.rn.lt
  dsimp only at i0 i1 i2 i3 i4
  have hM1 := hM.alloc hP (.cells #[.int .i64 26, .int .i64 (a : Int), .int .i64 (b : Int), .int .i64 (c : Int), .int .u32 ik] 54)
  have hX := Blk.new W1 54 #[.int .i64 26, .int .i64 (a : Int), .int .i64 (b : Int), .int .i64 (c : Int), .int .u32 ik]
  have hM0 := hM1.drew hP
  have hX0 := hX.drew
  have HH := Lib.hid (And.intro hM0 hX0)
  clear hM hM1 hX hM0 hX0
  go_enter Tryd.func56, Tryd.ntmps56
  go_wp2
  refine startG (fun W' => Below ((W1.alloc (.cells #[.int .i64 26, .int .i64 (a : Int), .int .i64 (b : Int), .int .i64 (c : Int), .int .u32 ik] 54)).drew).heap.size ((W1.alloc (.cells #[.int .i64 26, .int .i64 (a : Int), .int .i64 (b : Int), .int .i64 (c : Int), .int .u32 ik] 54)).drew) W') 23 (by kernel_rfl) ?_
  obtain ⟨hM0, hX0⟩ := HH.out
  obtain ⟨xb, hxb⟩ : ∃ xb, W1.heap.size = xb := ⟨_, rfl⟩
  rw [hxb] at hX0 ⊢
  generalize (W1.alloc (.cells #[.int .i64 26, .int .i64 (a : Int), .int .i64 (b : Int), .int .i64 (c : Int), .int .u32 ik] 54)).drew = W0 at hM0 hX0 ⊢
  clear hxb HH i0 i1 i2 i3 i4
  have x1 := (hX0.cell 1).trans rfl
  have x2 := (hX0.cell 2).trans rfl
  have x3 := (hX0.cell 3).trans rfl
  have x0 := (hX0.cell 0).trans rfl
  have x4 := (hX0.cell 4).trans rfl
  simp only [List.getElem?_toArray, List.getElem?_cons_zero, List.getElem?_cons_succ] at x0 x1 x2 x3 x4
  have hxl := hX0.lt
  have hH := Below.refl W0.heap.size W0
  have rr := hM0.rn.reg hb8
  have rs := hM0.rn.reg hc8
  have hrl := hM0.rn.lt
  obtain ⟨rv, hrv⟩ : ∃ rv, t.regs b = rv := ⟨_, rfl⟩
  obtain ⟨rw', hrw⟩ : ∃ rv, t.regs c = rv := ⟨_, rfl⟩
  rw [hrv] at rr
  rw [hrw] at rs
  have HRV := Lib.hid (And.intro hrv hrw)
  have nb0 : (0 : Int) ≤ (b : Int) := by omega
  have nb8 : (b : Int) < 8 := by omega
  have nc0 : (0 : Int) ≤ (c : Int) := by omega
  have nc8 : (c : Int) < 8 := by omega
  clear hrv hrw
  refine takeG (i := 0) (v := .pointer (some ⟨xb, 0, none⟩)) rfl (by kernel_rfl) (by kernel_rfl) (by kernel_rfl) (by kernel_rfl) (fun _ _ _ h => h) (Or.inl ⟨by rfl, fun W hW => by go_simp⟩) hH ?_
  simp only [Act.put, List.getElem_toArray, List.getElem_cons_zero, List.getElem_cons_succ, List.setIfInBounds_toArray, List.set_cons_zero, List.set_cons_succ]
  refine takeG (i := 1) (v := .int .i64 26) rfl (by kernel_rfl) (by kernel_rfl) (by kernel_rfl) (by kernel_rfl) (fun _ _ _ h => h) (Or.inl ⟨by rfl, fun W hW => by have q0 := keepAt hW hxl x0; go_simp⟩) hH ?_
  simp only [Act.put, List.getElem_toArray, List.getElem_cons_zero, List.getElem_cons_succ, List.setIfInBounds_toArray, List.set_cons_zero, List.set_cons_succ]
  refine takeG (i := 2) (v := .pointer (some ⟨rb, 0, none⟩)) rfl (by kernel_rfl) (by kernel_rfl) (by kernel_rfl) (by kernel_rfl) (fun _ _ _ h => h) (Or.inl ⟨by rfl, fun W hW => by go_simp⟩) hH ?_
  simp only [Act.put, List.getElem_toArray, List.getElem_cons_zero, List.getElem_cons_succ, List.setIfInBounds_toArray, List.set_cons_zero, List.set_cons_succ]
  refine takeG (i := 3) (v := .pointer (some ⟨xb, 2, none⟩)) rfl (by kernel_rfl) (by kernel_rfl) (by kernel_rfl) (by kernel_rfl) (fun _ _ _ h => h) (Or.inl ⟨by rfl, fun W hW => by go_simp⟩) hH ?_
  simp only [Act.put, List.getElem_toArray, List.getElem_cons_zero, List.getElem_cons_succ, List.setIfInBounds_toArray, List.set_cons_zero, List.set_cons_succ]
  refine takeG (i := 4) (v := .int .i64 (b : Int)) rfl (by kernel_rfl) (by kernel_rfl) (by kernel_rfl) (by kernel_rfl) (fun _ _ _ h => h) (Or.inl ⟨by rfl, fun W hW => by have q0 := keepAt hW hxl x2; go_simp⟩) hH ?_
  simp only [Act.put, List.getElem_toArray, List.getElem_cons_zero, List.getElem_cons_succ, List.setIfInBounds_toArray, List.set_cons_zero, List.set_cons_succ]
  refine takeG (i := 5) (v := .pointer (some ⟨rb, 0, none⟩)) rfl (by kernel_rfl) (by kernel_rfl) (by kernel_rfl) (by kernel_rfl) (fun _ _ _ h => h) (Or.inl ⟨by rfl, fun W hW => by go_simp⟩) hH ?_
  simp only [Act.put, List.getElem_toArray, List.getElem_cons_zero, List.getElem_cons_succ, List.setIfInBounds_toArray, List.set_cons_zero, List.set_cons_succ]
  refine takeG (i := 6) (v := .pointer (some ⟨rb, 0, none⟩)) rfl (by kernel_rfl) (by kernel_rfl) (by kernel_rfl) (by kernel_rfl) (fun _ _ _ h => h) (Or.inl ⟨by rfl, fun W hW => by go_simp⟩) hH ?_
  simp only [Act.put, List.getElem_toArray, List.getElem_cons_zero, List.getElem_cons_succ, List.setIfInBounds_toArray, List.set_cons_zero, List.set_cons_succ]
  refine takeG (i := 7) (v := .pointer (some ⟨rb, 1, none⟩)) rfl (by kernel_rfl) (by kernel_rfl) (by kernel_rfl) (by kernel_rfl) (fun _ _ _ h => h) (Or.inl ⟨by rfl, fun W hW => by go_simp⟩) hH ?_
  simp only [Act.put, List.getElem_toArray, List.getElem_cons_zero, List.getElem_cons_succ, List.setIfInBounds_toArray, List.set_cons_zero, List.set_cons_succ]
  refine takeG (i := 8) (v := .pointer (some ⟨rb, 1 + b, none⟩)) rfl (by kernel_rfl) (by kernel_rfl) (by kernel_rfl) (by kernel_rfl) (fun _ _ _ h => h) (Or.inl ⟨by rfl, fun W hW => by go_simp⟩) hH ?_
  simp only [Act.put, List.getElem_toArray, List.getElem_cons_zero, List.getElem_cons_succ, List.setIfInBounds_toArray, List.set_cons_zero, List.set_cons_succ]
  refine takeG (i := 9) (v := .int .u32 rv) rfl (by kernel_rfl) (by kernel_rfl) (by kernel_rfl) (by kernel_rfl) (fun _ _ _ h => h) (Or.inl ⟨by rfl, fun W hW => by have q0 := keepAt hW hrl rr; go_simp⟩) hH ?_
  simp only [Act.put, List.getElem_toArray, List.getElem_cons_zero, List.getElem_cons_succ, List.setIfInBounds_toArray, List.set_cons_zero, List.set_cons_succ]
  refine takeG (i := 10) (v := .pointer (some ⟨rb, 0, none⟩)) rfl (by kernel_rfl) (by kernel_rfl) (by kernel_rfl) (by kernel_rfl) (fun _ _ _ h => h) (Or.inl ⟨by rfl, fun W hW => by go_simp⟩) hH ?_
  simp only [Act.put, List.getElem_toArray, List.getElem_cons_zero, List.getElem_cons_succ, List.setIfInBounds_toArray, List.set_cons_zero, List.set_cons_succ]
  refine takeG (i := 11) (v := .pointer (some ⟨xb, 3, none⟩)) rfl (by kernel_rfl) (by kernel_rfl) (by kernel_rfl) (by kernel_rfl) (fun _ _ _ h => h) (Or.inl ⟨by rfl, fun W hW => by go_simp⟩) hH ?_
  simp only [Act.put, List.getElem_toArray, List.getElem_cons_zero, List.getElem_cons_succ, List.setIfInBounds_toArray, List.set_cons_zero, List.set_cons_succ]
  refine takeG (i := 12) (v := .int .i64 (c : Int)) rfl (by kernel_rfl) (by kernel_rfl) (by kernel_rfl) (by kernel_rfl) (fun _ _ _ h => h) (Or.inl ⟨by rfl, fun W hW => by have q0 := keepAt hW hxl x3; go_simp⟩) hH ?_
  simp only [Act.put, List.getElem_toArray, List.getElem_cons_zero, List.getElem_cons_succ, List.setIfInBounds_toArray, List.set_cons_zero, List.set_cons_succ]
  refine takeG (i := 13) (v := .pointer (some ⟨rb, 0, none⟩)) rfl (by kernel_rfl) (by kernel_rfl) (by kernel_rfl) (by kernel_rfl) (fun _ _ _ h => h) (Or.inl ⟨by rfl, fun W hW => by go_simp⟩) hH ?_
  simp only [Act.put, List.getElem_toArray, List.getElem_cons_zero, List.getElem_cons_succ, List.setIfInBounds_toArray, List.set_cons_zero, List.set_cons_succ]
  refine takeG (i := 14) (v := .pointer (some ⟨rb, 0, none⟩)) rfl (by kernel_rfl) (by kernel_rfl) (by kernel_rfl) (by kernel_rfl) (fun _ _ _ h => h) (Or.inl ⟨by rfl, fun W hW => by go_simp⟩) hH ?_
  simp only [Act.put, List.getElem_toArray, List.getElem_cons_zero, List.getElem_cons_succ, List.setIfInBounds_toArray, List.set_cons_zero, List.set_cons_succ]
  refine takeG (i := 15) (v := .pointer (some ⟨rb, 1, none⟩)) rfl (by kernel_rfl) (by kernel_rfl) (by kernel_rfl) (by kernel_rfl) (fun _ _ _ h => h) (Or.inl ⟨by rfl, fun W hW => by go_simp⟩) hH ?_
  simp only [Act.put, List.getElem_toArray, List.getElem_cons_zero, List.getElem_cons_succ, List.setIfInBounds_toArray, List.set_cons_zero, List.set_cons_succ]
  refine takeG (i := 16) (v := .pointer (some ⟨rb, 1 + c, none⟩)) rfl (by kernel_rfl) (by kernel_rfl) (by kernel_rfl) (by kernel_rfl) (fun _ _ _ h => h) (Or.inl ⟨by rfl, fun W hW => by go_simp⟩) hH ?_
  simp only [Act.put, List.getElem_toArray, List.getElem_cons_zero, List.getElem_cons_succ, List.setIfInBounds_toArray, List.set_cons_zero, List.set_cons_succ]
  refine takeG (i := 17) (v := .int .u32 rw') rfl (by kernel_rfl) (by kernel_rfl) (by kernel_rfl) (by kernel_rfl) (fun _ _ _ h => h) (Or.inl ⟨by rfl, fun W hW => by have q0 := keepAt hW hrl rs; go_simp⟩) hH ?_
  simp only [Act.put, List.getElem_toArray, List.getElem_cons_zero, List.getElem_cons_succ, List.setIfInBounds_toArray, List.set_cons_zero, List.set_cons_succ]
  refine onlyG (i := 18) (by kernel_rfl) rfl (fun K hK => ?_)
  go_simp
  refine (do_no 26 rv rw' (by omega) W0).mono ?_
  rintro e W2 ⟨rfl, hb2⟩
  have hb2 : Below W0.heap.size W0 W2 := hb2 ▸ hH
  go_wp2_with fail
  refine hK.out _ _ hb2 (fun _ => ?_)
  clear hK K
  try simp only [Act.put, List.getElem_toArray, List.getElem_cons_zero, List.getElem_cons_succ, List.setIfInBounds_toArray, List.set_cons_zero, List.set_cons_succ]
  refine takeG (i := 19) (v := .tuple #[.int .u32 0, .bool false]) rfl (by kernel_rfl) (by kernel_rfl) (by kernel_rfl) (by kernel_rfl) (fun _ _ _ h => h) (Or.inl ⟨by rfl, fun W hW => by go_simp⟩) hb2 ?_
  simp only [Act.put, List.getElem_toArray, List.getElem_cons_zero, List.getElem_cons_succ, List.setIfInBounds_toArray, List.set_cons_zero, List.set_cons_succ]
  refine takeG (i := 20) (v := .int .u32 0) rfl (by kernel_rfl) (by kernel_rfl) (by kernel_rfl) (by kernel_rfl) (fun _ _ _ h => h) (Or.inl ⟨by rfl, fun W hW => by go_simp⟩) hb2 ?_
  simp only [Act.put, List.getElem_toArray, List.getElem_cons_zero, List.getElem_cons_succ, List.setIfInBounds_toArray, List.set_cons_zero, List.set_cons_succ]
  refine takeG (i := 21) (v := .bool false) rfl (by kernel_rfl) (by kernel_rfl) (by kernel_rfl) (by kernel_rfl) (fun _ _ _ h => h) (Or.inl ⟨by rfl, fun W hW => by go_simp⟩) hb2 ?_
  simp only [Act.put, List.getElem_toArray, List.getElem_cons_zero, List.getElem_cons_succ, List.setIfInBounds_toArray, List.set_cons_zero, List.set_cons_succ]
  refine onlyG (i := 22) (by kernel_rfl) rfl (fun K hK => ?_)
  go_simp
  refine hK.out _ _ hb2 (fun _ => ?_)
  clear hK K
  try simp only [Act.put, List.getElem_toArray, List.getElem_cons_zero, List.getElem_cons_succ, List.setIfInBounds_toArray, List.set_cons_zero, List.set_cons_succ]
  have HM2 := Lib.hid (hM0.below hP hb2)
  refine lastG (by kernel_rfl) rfl (by kernel_rfl) (fun K hK => ?_)
  go_simp
  refine hK.out _ _ ?_
  clear hK K x0 x1 x2 x3 x4 rr rs
  have HM3 := HM2.out
  have HM4 := Lib.hid HM3
  clear HM3
  go_wp2
  go_end0
  exact ⟨⟨_, rfl⟩, HM4.out⟩
end Go.Proofs.YtjmnogpnjombgaaDoor

/- core.run.asks and plain at any op. -/
import Derived.Test.YtjmnogpnjombgaaDoorCoreAs
namespace Go.Proofs.YtjmnogpnjombgaaDoor
open Go.ChangeShapes Go.WideShapes Go.ChangeAt Go.RowKit Go.Deep
set_option linter.unusedVariables false
set_option maxRecDepth 100000
set_option linter.unusedSimpArgs false

/-- What asks does. -/
def asksR {σ : Type} (O : Ops σ) (s : σ) (t : Th) (op : Int) (a c m : Nat) : Th × σ :=
  if op = 16 then ({ t with regs := updR t.regs a (O.load s m).1 }, O.note (O.load s m).2 ⟨1, 0, t.pc, (m : Int), (O.load s m).1, 0, 0, false⟩)
  else if op = 17 then (t, O.note (O.store s m (t.regs a)) ⟨2, 0, t.pc, (m : Int), t.regs a, 0, 0, false⟩)
  else if op = 19 then ({ t with regs := updR t.regs a (O.load s m).1 }, lockS O (O.load s m).2 t.pc m (O.load s m).1 (t.regs a) true)
  else if op = 20 then ({ t with regs := updR t.regs a (O.load s m).1 }, lockS O (O.load s m).2 t.pc m (O.load s m).1 (((O.load s m).1 + t.regs a) % 4294967296) true)
  else if op = 21 then ({ t with regs := updR t.regs a (O.load s m).1 }, lockS O (O.load s m).2 t.pc m (O.load s m).1 (t.regs c) ((O.load s m).1 == t.regs a))
  else if op = 23 then waitR O s t m a
  else ({ t with regs := updR t.regs a (O.wake s m (t.regs a)).1 }, O.note (O.wake s m (t.regs a)).2 ⟨9, 0, t.pc, (m : Int), (O.wake s m (t.regs a)).1, 0, 0, false⟩)

theorem asks_all {σ : Type} {O : Ops σ} {V : Pv} {Inv : σ → (Nat → Prop) → World → Prop} {can : Nat → σ → Prop} (hP : PortOk O V Inv can) (n : Nat) (s : σ) (own : Nat → Prop) (rb : Nat) (t : Th) (i : Ins) (a c m : Nat) (ha : i.a = (a : Int)) (hcc : i.c = (c : Int)) (W W1 : World)
    (hM : RMoves Inv s own rb t i O.size V (m : Int) W W1) (hc : can (n + 3) s) (hrb : rb < W.heap.size) (ha8 : a < 8) (hc8 : c < 8) (hm : m < O.size) (hk : askB i.op = true) (hroom : i.op = 17 → O.room s = true) (hreg : ∀ r, 0 ≤ t.regs r ∧ t.regs r ≤ 4294967295) :
    Calls Tryd.prog 55 #[.pointer (some ⟨rb, 0, none⟩)] W1 fun e W' => (∃ u, e = .returned u) ∧ RMoves Inv (asksR O s t i.op a c m).2 own rb (asksR O s t i.op a c m).1 i O.size V (m : Int) W W' := by
  obtain ⟨op, ia, ib, ic, ik⟩ := i
  dsimp only at *
  subst ha hcc
  have hk' := of_decide_eq_true hk
  have hc2 := hP.less _ _ hc
  rcases (by omega : op = 16 ∨ op = 17 ∨ op = 19 ∨ op = 20 ∨ op = 21 ∨ op = 23 ∨ op = 24) with rfl | rfl | rfl | rfl | rfl | rfl | rfl
  · exact asks_load hP n s own rb t a c m ib ik W W1 hM hc2 hrb ha8 hc8 hm
  · exact asks_store hP n s own rb t a c m ib ik W W1 hM hc2 hrb ha8 hc8 hm (hroom rfl)
  · exact asks_swap hP n s own rb t a c m ib ik W W1 hM hc hrb ha8 hc8 hm
  · exact asks_fetch hP n s own rb t a c m ib ik W W1 hM hc hrb ha8 hc8 hm
  · exact asks_cas hP n s own rb t a c m ib ik W W1 hM hc hrb ha8 hc8 hm
  · exact asks_wait hP n s own rb t a c m ib ik W W1 hM hc hrb ha8 hc8 hm
  · exact asks_wake hP n s own rb t a c m ib ik W W1 hM hc2 hrb ha8 hc8 hm (hreg a)

theorem plain_all {σ : Type} {O : Ops σ} {V : Pv} {Inv : σ → (Nat → Prop) → World → Prop} {can : Nat → σ → Prop} (hP : PortOk O V Inv can) (n : Nat) (s : σ) (own : Nat → Prop) (rb : Nat) (t : Th) (i : Ins) (a b c : Nat) (addr : Int) (ha : i.a = (a : Int)) (hb : i.b = (b : Int)) (hcc : i.c = (c : Int)) (W W1 : World)
    (hM : RMoves Inv s own rb t i O.size V addr W W1) (hc : can (n + 2) s) (hrb : rb < W.heap.size) (ha8 : a < 8) (hb8 : b < 8) (hc8 : c < 8) (h1 : 1 ≤ i.op) (h28 : i.op < 28) (hk : askB i.op = false) (hj : jmpB i.op = false) (hreg : ∀ r, 0 ≤ t.regs r ∧ t.regs r ≤ 4294967295) :
    Calls Tryd.prog 56 #[.pointer (some ⟨rb, 0, none⟩)] W1 fun e W' => (∃ u, e = .returned u) ∧ RMoves Inv (plainR O s t i.op.toNat a b c i.k addr).2 own rb (plainR O s t i.op.toNat a b c i.k addr).1 i O.size V addr W W' := by
  obtain ⟨op, ia, ib, ic, ik⟩ := i
  dsimp only at *
  subst ha hb hcc
  have hk' := of_decide_eq_false hk
  have hj' := of_decide_eq_false hj
  obtain ⟨o, rfl⟩ : ∃ o : Nat, op = (o : Int) := ⟨op.toNat, by omega⟩
  rw [Int.toNat_natCast]
  rcases (by omega : (3 ≤ o ∧ o ≤ 12) ∨ o = 1 ∨ o = 2 ∨ o = 18 ∨ o = 22 ∨ o = 25 ∨ o = 27 ∨ o = 26) with ⟨g3, g12⟩ | rfl | rfl | rfl | rfl | rfl | rfl | rfl
  · have e : plainR O s t o a b c ik addr = ({ t with regs := updR t.regs a (aluF o (t.regs b) (t.regs c)) }, s) := by
      unfold plainR
      rw [if_neg (by omega), if_neg (by omega), if_neg (by omega), if_neg (by omega), if_neg (by omega), if_neg (by omega), if_pos ⟨g3, g12⟩]
    rw [e]
    exact plain_alu hP n s own rb t a b c ik addr o g3 g12 W W1 hM hc hrb ha8 hb8 hc8 hreg
  · exact plain_set hP n s own rb t a b c ik addr W W1 hM hc hrb ha8 hb8 hc8
  · exact plain_move hP n s own rb t a b c ik addr W W1 hM hc hrb ha8 hb8 hc8
  · exact plain_fence hP n s own rb t a b c ik addr W W1 hM hc hrb ha8 hb8 hc8
  · exact plain_out hP n s own rb t a b c ik addr W W1 hM hc hrb ha8 hb8 hc8
  · exact plain_remote hP n s own rb t a b c ik addr W W1 hM hc hrb ha8 hb8 hc8
  · exact plain_mark hP n s own rb t a b c ik addr W W1 hM hc hrb ha8 hb8 hc8
  · exact plain_yield hP n s own rb t a b c ik addr W W1 hM hc hrb ha8 hb8 hc8

theorem asksR_pc {σ : Type} (O : Ops σ) (s : σ) (t : Th) (op : Int) (a c m : Nat) : (asksR O s t op a c m).1.pc = t.pc := by
  unfold asksR waitR
  repeat' split
  all_goals rfl
theorem plainR_pc {σ : Type} (O : Ops σ) (s : σ) (t : Th) (op a b c : Nat) (k addr : Int) : (plainR O s t op a b c k addr).1.pc = t.pc := by
  unfold plainR
  repeat' split
  all_goals rfl
theorem addrF_u32 (t : Th) (i : Ins) (h0 : 0 ≤ i.k) (h1 : i.k ≤ 4294967295) : 0 ≤ addrF t i ∧ addrF t i ≤ 4294967295 := by
  unfold addrF
  split
  · unfold aluF
    simp
    omega
  · exact ⟨h0, h1⟩
/-- A right instruction's fields. -/
theorem right_fields (i : Ins) (size : Int) (h : rightB i size = true) : 0 ≤ i.op ∧ i.op < 28 ∧ (∃ a : Nat, i.a = (a : Int) ∧ a < 8) ∧ (∃ c : Nat, i.c = (c : Int) ∧ c < 8) ∧ (askB i.op = false → ∃ b : Nat, i.b = (b : Int) ∧ b < 8) ∧ (jmpB i.op = true → i.k ≤ size) := by
  unfold rightB at h
  by_cases ho : 0 ≤ i.op ∧ i.op < 28
  · rw [if_pos ho] at h
    obtain ⟨hA, hB, hC, hK⟩ := of_decide_eq_true h
    have f7 : ∀ (x : Int) (u : Bool), FieldP x u 7 → ∃ a : Nat, x = (a : Int) ∧ a < 8 := fun x u hf => by
      unfold FieldP at hf
      refine ⟨x.toNat, ?_⟩
      cases u
      · rw [if_neg (by simp)] at hf; omega
      · rw [if_pos rfl] at hf; omega
    refine ⟨ho.1, ho.2, f7 _ _ hA, f7 _ _ hC, fun hk => ?_, fun hj => ?_⟩
    · have := List.all_eq_true.1 askB_all i.op.toNat (List.mem_range.2 (by omega))
      rw [show ((i.op.toNat : Nat) : Int) = i.op by omega, hk] at this
      have hm : (kindAt i.op.toNat).M = false := eq_of_beq this
      rw [hm] at hB
      exact f7 _ _ hB
    · have := List.all_eq_true.1 jmpB_all i.op.toNat (List.mem_range.2 (by omega))
      rw [show ((i.op.toNat : Nat) : Int) = i.op by omega, hj] at this
      have hm : (kindAt i.op.toNat).T = true := eq_of_beq this
      rw [if_pos hm] at hK
      exact hK.2
  · rw [if_neg ho] at h
    cases h
end Go.Proofs.YtjmnogpnjombgaaDoor

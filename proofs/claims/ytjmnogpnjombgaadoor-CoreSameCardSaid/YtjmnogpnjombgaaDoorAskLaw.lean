/- law08: what a step asks (plain). -/
import Derived.Test.YtjmnogpnjombgaaDoorOneLaw
namespace Go.Proofs.YtjmnogpnjombgaaDoor
open Go.ChangeShapes Go.WideShapes Go.ChangeAt Go.RowKit Go.Deep
set_option linter.unusedVariables false
set_option maxRecDepth 100000
set_option linter.unusedSimpArgs false

/-- What an instruction that stands in range, and did not fault, asks. -/
def AskOp (t t' : Th) (i : Ins) (a : ByteArray) : Prop :=
  (i.op = 16 ∧ a = ⟨#[108]⟩) ∨ (i.op = 17 ∧ a = ⟨#[115]⟩) ∨ (i.op = 19 ∧ a = ⟨#[108, 120]⟩) ∨ (i.op = 20 ∧ a = ⟨#[108, 120]⟩) ∨
  (i.op = 21 ∧ 0 ≤ i.a ∧ i.a < 8 ∧ (a = ⟨#[108, 120]⟩ ∨ (a = ⟨#[108]⟩ ∧ t'.regs i.a.toNat ≠ t.regs i.a.toNat))) ∨
  (i.op = 23 ∧ ((a = ⟨#[108]⟩ ∧ t'.st = 0) ∨ (a = ⟨#[108, 122]⟩ ∧ t'.st = 1))) ∨ (i.op = 24 ∧ a = ⟨#[119]⟩) ∨ (i.op = 25 ∧ a = ⟨#[114]⟩) ∨
  (i.op ≠ 16 ∧ i.op ≠ 17 ∧ i.op ≠ 19 ∧ i.op ≠ 20 ∧ i.op ≠ 21 ∧ i.op ≠ 23 ∧ i.op ≠ 24 ∧ i.op ≠ 25 ∧ a = ⟨#[]⟩)
def AskOk (t t' : Th) (c : Cd) (s' : Yst) : Prop :=
  (t.st ≠ 0 ∧ t' = t ∧ s'.asks = ⟨#[]⟩ ∧ s'.evs = []) ∨
  (t.st = 0 ∧ t' = t ∧ s'.asks = ⟨#[102]⟩) ∨
  (t.st = 0 ∧ s'.asks = ⟨#[]⟩ ∧ (t.pc < 0 ∨ (c.len : Int) ≤ t.pc)) ∨
  (t.st = 0 ∧ s'.asks = ⟨#[]⟩ ∧ 0 ≤ t.pc ∧ t.pc < (c.len : Int) ∧ t'.st = 3) ∨
  (t.st = 0 ∧ 0 ≤ t.pc ∧ t.pc < (c.len : Int) ∧ t'.st ≠ 3 ∧ AskOp t t' (c.F t.pc.toNat) s'.asks)
theorem yflush_asks (s : Yst) : (yflush s).asks = s.asks := by
  unfold yflush
  split <;> rfl
theorem store_asks (B : YB) (s : Yst) (a : Nat) (ha : a < B.n) (v : Int) : ((yOps B).store s a v).asks = s.asks ++ ⟨#[115]⟩ := by
  show (if a < B.n then _ else s : Yst).asks = _
  rw [if_pos ha]
theorem e_l : (⟨#[]⟩ ++ ⟨#[108]⟩ : ByteArray) = ⟨#[108]⟩ := by rfl
theorem e_s : (⟨#[]⟩ ++ ⟨#[115]⟩ : ByteArray) = ⟨#[115]⟩ := by rfl
theorem e_f : (⟨#[]⟩ ++ ⟨#[102]⟩ : ByteArray) = ⟨#[102]⟩ := by rfl
theorem e_w : (⟨#[]⟩ ++ ⟨#[119]⟩ : ByteArray) = ⟨#[119]⟩ := by rfl
theorem e_r : (⟨#[]⟩ ++ ⟨#[114]⟩ : ByteArray) = ⟨#[114]⟩ := by rfl
theorem e_lx : (⟨#[]⟩ ++ ⟨#[108]⟩ ++ ⟨#[120]⟩ : ByteArray) = ⟨#[108, 120]⟩ := by rfl
theorem e_lz : (⟨#[]⟩ ++ ⟨#[108]⟩ ++ ⟨#[122]⟩ : ByteArray) = ⟨#[108, 122]⟩ := by rfl

theorem ask_ins (B : YB) (s : Yst) (t : Th) (i : Ins) (h0 : s.asks = ⟨#[]⟩) (hst : t.st = 0) (ho : 0 ≤ i.op) (ha : 0 ≤ i.a) (ha8 : i.a < 8) (hm : askB i.op = true → 0 ≤ addrF t i ∧ addrF t i < (B.n : Int)) :
    ((insR (yOps B) s t i).1 = t ∧ (insR (yOps B) s t i).2.asks = ⟨#[102]⟩) ∨ ((insR (yOps B) s t i).1.st ≠ 3 ∧ AskOp t (insR (yOps B) s t i).1 i (insR (yOps B) s t i).2.asks) := by
  have hf : (yflush { s with asks := s.asks ++ ⟨#[102]⟩ }).asks = ⟨#[102]⟩ := by rw [yflush_asks]; show s.asks ++ _ = _; rw [h0, e_f]
  have other : i.op ≠ 16 ∧ i.op ≠ 17 ∧ i.op ≠ 19 ∧ i.op ≠ 20 ∧ i.op ≠ 21 ∧ i.op ≠ 23 ∧ i.op ≠ 24 ∧ i.op ≠ 25 → ∀ t', AskOp t t' i s.asks := fun ⟨a, b, c, d, e, f, g, h⟩ t' =>
    .inr (.inr (.inr (.inr (.inr (.inr (.inr (.inr ⟨a, b, c, d, e, f, g, h, h0⟩)))))))
  unfold insR
  split
  · exact .inl ⟨rfl, hf⟩
  split
  · exact .inl ⟨rfl, hf⟩
  split
  · rename_i h
    exact .inr ⟨by show (2 : Int) ≠ 3; decide, other (by omega) _⟩
  split
  · rename_i hj
    have := of_decide_eq_true hj
    exact .inr ⟨by show t.st ≠ 3; omega, other (by omega) _⟩
  split
  · rename_i hk
    have hk' := of_decide_eq_true hk
    obtain ⟨hm0, hm1⟩ := hm hk
    have hmn : (addrF t i).toNat < B.n := by omega
    have l1 : s.asks ++ ⟨#[108]⟩ = ⟨#[108]⟩ := by rw [h0, e_l]
    have l2 : s.asks ++ ⟨#[108]⟩ ++ ⟨#[120]⟩ = ⟨#[108, 120]⟩ := by rw [h0, e_lx]
    have l3 : s.asks ++ ⟨#[108]⟩ ++ ⟨#[122]⟩ = ⟨#[108, 122]⟩ := by rw [h0, e_lz]
    have l4 : s.asks ++ ⟨#[119]⟩ = ⟨#[119]⟩ := by rw [h0, e_w]
    refine .inr ?_
    unfold asksR
    split
    · rename_i h
      exact ⟨by show t.st ≠ 3; omega, .inl ⟨h, l1⟩⟩
    split
    · rename_i h
      refine ⟨by show t.st ≠ 3; omega, .inr (.inl ⟨h, ?_⟩)⟩
      show ((yOps B).store s _ _).asks = _
      rw [store_asks B s _ hmn, h0, e_s]
    split
    · rename_i h
      exact ⟨by show t.st ≠ 3; omega, .inr (.inr (.inl ⟨h, l2⟩))⟩
    split
    · rename_i h
      exact ⟨by show t.st ≠ 3; omega, .inr (.inr (.inr (.inl ⟨h, l2⟩)))⟩
    split
    · rename_i h
      refine ⟨by show t.st ≠ 3; omega, .inr (.inr (.inr (.inr (.inl ⟨h, ha, ha8, ?_⟩))))⟩
      cases hb : ((yOps B).load s (addrF t i).toNat).1 == t.regs i.a.toNat
      · refine .inr ⟨l1, ?_⟩
        show updR t.regs i.a.toNat ((yOps B).load s (addrF t i).toNat).1 i.a.toNat ≠ _
        unfold updR
        rw [if_pos rfl]
        exact beq_eq_false_iff_ne.1 hb
      · exact .inl l2
    split
    · rename_i h
      unfold waitR
      split
      · exact ⟨by show (1 : Int) ≠ 3; decide, .inr (.inr (.inr (.inr (.inr (.inl ⟨h, .inr ⟨l3, rfl⟩⟩)))))⟩
      · exact ⟨by show t.st ≠ 3; omega, .inr (.inr (.inr (.inr (.inr (.inl ⟨h, .inl ⟨l1, hst⟩⟩)))))⟩
    · rename_i h1 h2 h3 h4 h5 h6
      exact ⟨by show t.st ≠ 3; omega, .inr (.inr (.inr (.inr (.inr (.inr (.inl ⟨by omega, l4⟩))))))⟩
  · rename_i h1 h2 h3 hj hk
    have hk' := of_decide_eq_false (by simpa using hk : askB i.op = false)
    refine .inr ?_
    unfold plainR
    split
    · exact ⟨by show t.st ≠ 3; omega, other (by omega) _⟩
    split
    · exact ⟨by show t.st ≠ 3; omega, other (by omega) _⟩
    split
    · exact ⟨by show t.st ≠ 3; omega, other (by omega) _⟩
    split
    · exact ⟨by show t.st ≠ 3; omega, other (by omega) _⟩
    split
    · exact ⟨by show t.st ≠ 3; omega, other (by omega) _⟩
    split
    · exact ⟨by show t.st ≠ 3; omega, .inr (.inr (.inr (.inr (.inr (.inr (.inr (.inl ⟨by omega, by show s.asks ++ _ = _; rw [h0, e_r]⟩)))))))⟩
    split
    · exact ⟨by show t.st ≠ 3; omega, other (by omega) _⟩
    · exact ⟨by show t.st ≠ 3; omega, other (by omega) _⟩

theorem ask_step (B : YB) (s : Yst) (t : Th) (c : Cd) (h0 : s.asks = ⟨#[]⟩) (h1 : s.evs = []) (hregs : ∀ r, 0 ≤ t.regs r ∧ t.regs r ≤ 4294967295) (hco : c.Ok) : AskOk t (stepR (yOps B) s t c).1 c (stepR (yOps B) s t c).2 := by
  unfold stepR
  split
  · rename_i h
    exact .inl ⟨h, rfl, h0, h1⟩
  rename_i hst
  have hst : t.st = 0 := by simpa using hst
  split
  · rename_i h
    exact .inr (.inr (.inl ⟨hst, h0, h⟩))
  rename_i hpc
  split
  · exact .inr (.inr (.inr (.inl ⟨hst, h0, by omega, by omega, rfl⟩)))
  rename_i hr
  split
  · exact .inr (.inr (.inr (.inl ⟨hst, h0, by omega, by omega, rfl⟩)))
  rename_i hfar
  have hr : rightB (c.F t.pc.toNat) c.len = true := by simpa using hr
  obtain ⟨hf0, hf1, ⟨a, hfa, hfa8⟩, _⟩ := right_fields _ _ hr
  have hi := hco.ins t.pc.toNat (by omega)
  have had : 0 ≤ addrF t (c.F t.pc.toNat) := (addrF_u32 t _ hi.k0 hi.k1).1
  rcases ask_ins B s t (c.F t.pc.toNat) h0 hst (by omega) (by omega) (by omega) (fun hk => ⟨had, by have : ¬ ((yOps B).size : Int) ≤ _ := fun h => hfar ⟨hk, h⟩; have h2 : ((yOps B).size : Int) = (B.n : Int) := rfl; omega⟩) with h | h
  · exact .inr (.inl ⟨hst, h.1, h.2⟩)
  · exact .inr (.inr (.inr (.inr ⟨hst, by omega, by omega, h.1, h.2⟩)))
end Go.Proofs.YtjmnogpnjombgaaDoor

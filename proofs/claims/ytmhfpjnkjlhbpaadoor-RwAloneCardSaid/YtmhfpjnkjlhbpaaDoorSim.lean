/- Two ports that do alike: a step over the one and a step over the other do alike (plain). -/
import Derived.Test.YtmhfpjnkjlhbpaaDoorMOk
namespace Go.Proofs.YtmhfpjnkjlhbpaaDoor
open Go.ChangeShapes Go.WideShapes Go.ChangeAt Go.RowKit Go.Deep
set_option linter.unusedVariables false
set_option maxRecDepth 100000
set_option linter.unusedSimpArgs false

/-- Two ports that do alike, from states in R to states in R'; D: what drains is asked. -/
structure OpsSim {σ τ : Type} (O : Ops σ) (P : Ops τ) (D : Prop) (R R' : σ → τ → Prop) : Prop where
  size : O.size = P.size
  sub : ∀ s u, R s u → R' s u
  load : ∀ s u a, a < O.size → R s u → (O.load s a).1 = (P.load u a).1 ∧ R (O.load s a).2 (P.load u a).2
  store : ∀ s u a v, a < O.size → R s u → R' (O.store s a v) (P.store u a v)
  swap : D → ∀ s u a v, a < O.size → R s u → R (O.swap s a v) (P.swap u a v)
  sleep : D → ∀ s u a, R s u → R (O.sleep s a) (P.sleep u a)
  wake : D → ∀ s u a v, R s u → (O.wake s a v).1 = (P.wake u a v).1 ∧ R (O.wake s a v).2 (P.wake u a v).2
  remote : D → ∀ s u, R s u → R (O.remote s) (P.remote u)
  note : ∀ s u x, R s u → R (O.note s x) (P.note u x)
  note' : ∀ s u x, R' s u → R' (O.note s x) (P.note u x)
section
variable {σ τ : Type} {O : Ops σ} {P : Ops τ} {D : Prop} {R R' : σ → τ → Prop}
theorem lockS_sim (h : OpsSim O P D R R') (hD : D) {s : σ} {u : τ} (hR : R s u) (pc : Int) (m : Nat) (hm : m < O.size) (old v : Int) (ok : Bool) : R (lockS O s pc m old v ok) (lockS P u pc m old v ok) := by
  unfold lockS
  refine h.note _ _ _ ?_
  cases ok
  · exact hR
  · exact h.swap hD _ _ _ _ hm hR
theorem asksR_sim (h : OpsSim O P D R R') {s : σ} {u : τ} (hR : R s u) (t : Th) (op : Int) (a c m : Nat) (hm : m < O.size) (hk : askB op = true) (hd : DrainP op → D) :
    (asksR O s t op a c m).1 = (asksR P u t op a c m).1 ∧ R' (asksR O s t op a c m).2 (asksR P u t op a c m).2 := by
  obtain ⟨l1, l2⟩ := h.load s u m hm hR
  have hk' := of_decide_eq_true hk
  unfold asksR
  rw [l1]
  by_cases c1 : op = 16
  · rw [if_pos c1, if_pos c1]
    exact ⟨rfl, h.sub _ _ (h.note _ _ _ l2)⟩
  rw [if_neg c1, if_neg c1]
  by_cases c2 : op = 17
  · rw [if_pos c2, if_pos c2]
    exact ⟨rfl, h.note' _ _ _ (h.store _ _ _ _ hm hR)⟩
  rw [if_neg c2, if_neg c2]
  have hD : D := hd (by unfold DrainP; omega)
  by_cases c3 : op = 19
  · rw [if_pos c3, if_pos c3]
    exact ⟨rfl, h.sub _ _ (lockS_sim h hD l2 _ _ hm _ _ _)⟩
  rw [if_neg c3, if_neg c3]
  by_cases c4 : op = 20
  · rw [if_pos c4, if_pos c4]
    exact ⟨rfl, h.sub _ _ (lockS_sim h hD l2 _ _ hm _ _ _)⟩
  rw [if_neg c4, if_neg c4]
  by_cases c5 : op = 21
  · rw [if_pos c5, if_pos c5]
    exact ⟨rfl, h.sub _ _ (lockS_sim h hD l2 _ _ hm _ _ _)⟩
  rw [if_neg c5, if_neg c5]
  by_cases c6 : op = 23
  · rw [if_pos c6, if_pos c6]
    unfold waitR
    rw [l1]
    by_cases c7 : (P.load u m).1 = t.regs a
    · rw [if_pos c7, if_pos c7]
      exact ⟨rfl, h.sub _ _ (h.sleep hD _ _ _ (h.note _ _ _ l2))⟩
    · rw [if_neg c7, if_neg c7]
      exact ⟨rfl, h.sub _ _ (h.note _ _ _ l2)⟩
  rw [if_neg c6, if_neg c6]
  obtain ⟨w1, w2⟩ := h.wake hD s u m (t.regs a) hR
  rw [w1]
  exact ⟨rfl, h.sub _ _ (h.note _ _ _ w2)⟩
theorem plainR_sim (h : OpsSim O P D R R') {s : σ} {u : τ} (hR : R s u) (t : Th) (op a b c : Nat) (k addr : Int) (hd : op = 25 → D) :
    (plainR O s t op a b c k addr).1 = (plainR P u t op a b c k addr).1 ∧ R' (plainR O s t op a b c k addr).2 (plainR P u t op a b c k addr).2 := by
  unfold plainR
  by_cases c1 : op = 1
  · rw [if_pos c1, if_pos c1]; exact ⟨rfl, h.sub _ _ hR⟩
  rw [if_neg c1, if_neg c1]
  by_cases c2 : op = 2
  · rw [if_pos c2, if_pos c2]; exact ⟨rfl, h.sub _ _ hR⟩
  rw [if_neg c2, if_neg c2]
  by_cases c3 : op = 18
  · rw [if_pos c3, if_pos c3]; exact ⟨rfl, h.sub _ _ (h.note _ _ _ hR)⟩
  rw [if_neg c3, if_neg c3]
  by_cases c4 : op = 22
  · rw [if_pos c4, if_pos c4]; exact ⟨rfl, h.sub _ _ (h.note _ _ _ hR)⟩
  rw [if_neg c4, if_neg c4]
  by_cases c5 : op = 27
  · rw [if_pos c5, if_pos c5]; exact ⟨rfl, h.sub _ _ (h.note _ _ _ hR)⟩
  rw [if_neg c5, if_neg c5]
  by_cases c6 : op = 25
  · rw [if_pos c6, if_pos c6]; exact ⟨rfl, h.sub _ _ (h.note _ _ _ (h.remote (hd c6) _ _ hR))⟩
  rw [if_neg c6, if_neg c6]
  by_cases c7 : 3 ≤ op ∧ op ≤ 12
  · rw [if_pos c7, if_pos c7]; exact ⟨rfl, h.sub _ _ hR⟩
  rw [if_neg c7, if_neg c7]
  exact ⟨rfl, h.sub _ _ hR⟩
theorem insR_sim (h : OpsSim O P D R R') {s : σ} {u : τ} (hR : R s u) (t : Th) (i : Ins) (hm : askB i.op = true → (addrF t i).toNat < O.size) (he : DrainP i.op → O.empty s = P.empty u ∧ (O.empty s = true → D)) (hr : i.op = 17 → O.room s = P.room u) (hf : R' (O.flush s) (P.flush u)) :
    (insR O s t i).1 = (insR P u t i).1 ∧ R' (insR O s t i).2 (insR P u t i).2 := by
  unfold insR
  by_cases c1 : DrainP i.op ∧ O.empty s = false
  · rw [if_pos c1, if_pos (show DrainP i.op ∧ P.empty u = false from ⟨c1.1, (he c1.1).1 ▸ c1.2⟩)]; exact ⟨rfl, hf⟩
  rw [if_neg c1, if_neg (show ¬ (DrainP i.op ∧ P.empty u = false) from fun q => c1 ⟨q.1, (he q.1).1.trans q.2⟩)]
  have hD : DrainP i.op → D := fun q => (he q).2 (by
    cases e : O.empty s with
    | true => rfl
    | false => exact absurd ⟨q, e⟩ c1)
  by_cases c2 : i.op = 17 ∧ O.room s = false
  · rw [if_pos c2, if_pos (show i.op = 17 ∧ P.room u = false from ⟨c2.1, (hr c2.1) ▸ c2.2⟩)]; exact ⟨rfl, hf⟩
  rw [if_neg c2, if_neg (show ¬ (i.op = 17 ∧ P.room u = false) from fun q => c2 ⟨q.1, (hr q.1).trans q.2⟩)]
  by_cases c3 : i.op = 0
  · rw [if_pos c3, if_pos c3]; exact ⟨rfl, h.sub _ _ (h.note _ _ _ hR)⟩
  rw [if_neg c3, if_neg c3]
  by_cases c4 : jmpB i.op = true
  · rw [if_pos c4, if_pos c4]; exact ⟨rfl, h.sub _ _ hR⟩
  rw [if_neg c4, if_neg c4]
  by_cases c5 : askB i.op = true
  · rw [if_pos c5, if_pos c5]
    obtain ⟨a1, a2⟩ := asksR_sim h hR t i.op i.a.toNat i.c.toNat (addrF t i).toNat (hm c5) c5 hD
    exact ⟨congrArg (fun r : Th => { r with pc := t.pc + 1 }) a1, a2⟩
  rw [if_neg c5, if_neg c5]
  obtain ⟨a1, a2⟩ := plainR_sim h hR t i.op.toNat i.a.toNat i.b.toNat i.c.toNat i.k 0 (fun q => hD (by unfold DrainP; omega))
  exact ⟨congrArg (fun r : Th => { r with pc := t.pc + 1 }) a1, a2⟩
theorem stepR_sim (h : OpsSim O P D R R') {s : σ} {u : τ} (hR : R s u) (t : Th) (c d : Cd) (hl : c.len = d.len) (hF : ∀ i, i < c.len → c.F i = d.F i)
    (ha : t.pc.toNat < c.len → 0 ≤ addrF t (c.F t.pc.toNat)) (he : t.st = 0 → t.pc.toNat < c.len → DrainP (c.F t.pc.toNat).op → O.empty s = P.empty u ∧ (O.empty s = true → D)) (hr : t.st = 0 → t.pc.toNat < c.len → (c.F t.pc.toNat).op = 17 → O.room s = P.room u) (hf : R' (O.flush s) (P.flush u)) :
    (stepR O s t c).1 = (stepR P u t d).1 ∧ R' (stepR O s t c).2 (stepR P u t d).2 := by
  unfold stepR
  by_cases c1 : t.st ≠ 0
  · rw [if_pos c1, if_pos c1]; exact ⟨rfl, h.sub _ _ hR⟩
  rw [if_neg c1, if_neg c1, ← hl]
  by_cases c2 : t.pc < 0 ∨ (c.len : Int) ≤ t.pc
  · rw [if_pos c2, if_pos c2]; exact ⟨rfl, h.sub _ _ (h.note _ _ _ hR)⟩
  rw [if_neg c2, if_neg c2]
  have hp : t.pc.toNat < c.len := by omega
  have hst : t.st = 0 := Decidable.not_not.1 c1
  rw [← hF _ hp, ← h.size]
  by_cases c3 : rightB (c.F t.pc.toNat) c.len = false
  · rw [if_pos c3, if_pos c3]; exact ⟨rfl, h.sub _ _ (h.note _ _ _ hR)⟩
  rw [if_neg c3, if_neg c3]
  by_cases c4 : askB (c.F t.pc.toNat).op = true ∧ (O.size : Int) ≤ addrF t (c.F t.pc.toNat)
  · rw [if_pos c4, if_pos c4]; exact ⟨rfl, h.sub _ _ (h.note _ _ _ hR)⟩
  rw [if_neg c4, if_neg c4]
  exact insR_sim h hR t _ (fun q => by
    have h1 := ha hp
    have h2 : ¬ (O.size : Int) ≤ addrF t (c.F t.pc.toNat) := fun q2 => c4 ⟨q, q2⟩
    omega) (he hst hp) (hr hst hp) hf
end
/-- A pick of one of the threads. -/
theorem tPick_in {B : MB} {s : Mst} (k : Int) (t : Nat) (h : t < s.ths.length) : tPick B s (k, (t : Int)) = if k = 0 then tStep B s t else if k = 1 then tflush t s else if k = 2 then rouseM t s else s := by
  unfold tPick
  rw [if_neg (show ¬ ((t : Int) < 0 ∨ (s.ths.length : Int) ≤ (t : Int)) by omega)]
  simp only [Int.toNat_natCast]
theorem sPick_in {B : MB} {s : Mst} (k : Int) (t : Nat) (h : t < s.ths.length) : sPick B s (k, (t : Int)) = if k = 0 then sStep B { s with who := (t : Int) } t else if k = 2 then rouseM t { s with who := (t : Int) } else { s with who := (t : Int) } := by
  unfold sPick
  rw [if_neg (show ¬ ((t : Int) < 0 ∨ (s.ths.length : Int) ≤ (t : Int)) by omega)]
  simp only [Int.toNat_natCast]
theorem tPick_out {B : MB} {s : Mst} (x : Int × Int) (h : x.2 < 0 ∨ (s.ths.length : Int) ≤ x.2) : tPick B s x = s := by
  unfold tPick
  rw [if_pos h]
theorem sPick_out {B : MB} {s : Mst} (x : Int × Int) (h : x.2 < 0 ∨ (s.ths.length : Int) ≤ x.2) : sPick B s x = s := by
  unfold sPick
  rw [if_pos h]
end Go.Proofs.YtmhfpjnkjlhbpaaDoor

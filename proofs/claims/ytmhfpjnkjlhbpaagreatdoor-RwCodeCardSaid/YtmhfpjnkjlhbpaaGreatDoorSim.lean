/- RwCode. -/
import Derived.Test.YtmhfpjnkjlhbpaaGreatDoorMOk
namespace Go.Proofs.YtmhfpjnkjlhbpaaGreatDoor
open Go.ChangeShapes Go.WideShapes Go.ChangeAt Go.RowKit Go.Deep
set_option linter.unusedVariables false
set_option maxRecDepth 100000
set_option linter.unusedSimpArgs false
structure OpsSim {σ τ : Type} (O : Ops σ) (P : Ops τ) (D : Prop) (R R' : σ → τ → Prop) : Prop where
  size : O.size = P.size
  sub : ∀ s u, R s u → R' s u
  load : ∀ s u a, a < O.size → R s u → (O.load s a).1 = (P.load u a).1 ∧ R (O.load s a).2 (P.load u a).2
  store : ∀ s u a v, a < O.size → R s u → R' (O.store s a v) (P.store u a v)
  swap : D → ∀ s u a v, a < O.size → R s u → R (O.swap s a v) (P.swap u a v)
  sleep : D → ∀ s u a, R s u → R (O.sleep s a) (P.sleep u a)
  wake : D → ∀ s u a v, R s u → (O.wake s a v).1 = (P.wake u a v).1 ∧ R (O.wake s a v).2 (P.wake u a v).2
  remote : D → ∀ s u, R s u → R (O.remote s) (P.remote u)
  note : ∀ s u x, R s u → R (O.note s x) (P.note u x)
  note' : ∀ s u x, R' s u → R' (O.note s x) (P.note u x)
section
variable {σ τ : Type} {O : Ops σ} {P : Ops τ} {D : Prop} {R R' : σ → τ → Prop}
end
theorem tPick_in {B : MB} {s : Mst} (k : Int) (t : Nat) (h : t < s.ths.length) : tPick B s (k, (t : Int)) = if k = 0 then tStep B s t else if k = 1 then tflush t s else if k = 2 then rouseM t s else s := by
  unfold tPick
  rw [if_neg (show ¬ ((t : Int) < 0 ∨ (s.ths.length : Int) ≤ (t : Int)) by omega)]
  simp only [Int.toNat_natCast]
end Go.Proofs.YtmhfpjnkjlhbpaaGreatDoor

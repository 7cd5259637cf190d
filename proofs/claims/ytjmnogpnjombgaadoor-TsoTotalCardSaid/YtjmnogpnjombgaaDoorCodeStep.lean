/- What the reader's steps are where the bytes suffice, and where they do not. -/
import Derived.Test.YtjmnogpnjombgaaDoorCodeInstr
namespace Go.Proofs.YtjmnogpnjombgaaDoor
open Go.RowKit
set_option linter.unusedVariables false
set_option maxRecDepth 100000

theorem numAt_one (Z : Nat → Int) (i : Nat) : numAt Z i 1 = Z i := by simp [numAt]
theorem rstep_ok {Z : Nat → Int} {len size i : Nat} (h : i + size ≤ len) : rstep Z len size (i, false) = (i + size, false) := by
  unfold rstep; rw [rnum_ok h]
theorem rval_ok {Z : Nat → Int} {len size i : Nat} (h : i + size ≤ len) : rval Z len size (i, false) = numAt Z i size := by
  unfold rval; rw [rnum_ok h]
theorem rstep_sh {Z : Nat → Int} {len size i : Nat} : rstep Z len size (i, true) = (i, true) := by
  unfold rstep; rw [rnum_over (.inl rfl)]
theorem rstep_over {Z : Nat → Int} {len size i : Nat} {b : Bool} (h : len < i + size) : rstep Z len size (i, b) = (i, true) := by
  unfold rstep; rw [rnum_over (.inr h)]
theorem rinstr_ok {Z : Nat → Int} {len i : Nat} (h : i + 8 ≤ len) : rinstrS Z len (i, false) = (i + 8, false) ∧ rinstrV Z len (i, false) = .agg #[.int .i64 (Z i), .int .i64 (Z (i + 1)), .int .i64 (Z (i + 2)), .int .i64 (Z (i + 3)), .int .u32 (numAt Z (i + 4) 4)] := by
  have e1 : rstep Z len 1 (i, false) = (i + 1, false) := rstep_ok (by omega)
  have e2 : rstep Z len 1 (i + 1, false) = (i + 2, false) := rstep_ok (by omega)
  have e3 : rstep Z len 1 (i + 2, false) = (i + 3, false) := rstep_ok (by omega)
  have e4 : rstep Z len 1 (i + 3, false) = (i + 4, false) := rstep_ok (by omega)
  have e5 : rstep Z len 4 (i + 4, false) = (i + 8, false) := rstep_ok (by omega)
  constructor
  · unfold rinstrS; rw [e1, e2, e3, e4, e5]
  · unfold rinstrV; rw [e1, e2, e3, e4, rval_ok (by omega), rval_ok (by omega), rval_ok (by omega), rval_ok (by omega), rval_ok (by omega), numAt_one, numAt_one, numAt_one, numAt_one]
theorem rinstr_over {Z : Nat → Int} {len i : Nat} (h : len < i + 8) (hi : i ≤ len) : (rinstrS Z len (i, false)).2 = true := by
  have s0 : ∀ j, rstep Z len 1 (j, true) = (j, true) := fun j => rstep_sh
  have s4 : ∀ j, rstep Z len 4 (j, true) = (j, true) := fun j => rstep_sh
  have ok : ∀ j, j + 1 ≤ len → rstep Z len 1 (j, false) = (j + 1, false) := fun j h => rstep_ok h
  have ov : ∀ j, len < j + 1 → rstep Z len 1 (j, false) = (j, true) := fun j h => rstep_over h
  have ov4 : ∀ j, len < j + 4 → rstep Z len 4 (j, false) = (j, true) := fun j h => rstep_over h
  unfold rinstrS
  rcases (by omega : len < i + 1 ∨ len = i + 1 ∨ len = i + 2 ∨ len = i + 3 ∨ (i + 4 ≤ len ∧ len < i + 8)) with h1 | h1 | h1 | h1 | ⟨h1, h2⟩
  · rw [ov i (by omega), s0, s0, s0, s4]
  · rw [ok i (by omega), ov _ (by omega), s0, s0, s4]
  · rw [ok i (by omega), ok _ (by omega), ov _ (by omega), s0, s4]
  · rw [ok i (by omega), ok _ (by omega), ok _ (by omega), ov _ (by omega), s4]
  · rw [ok i (by omega), ok _ (by omega), ok _ (by omega), ok _ (by omega), ov4 _ (by omega)]
end Go.Proofs.YtjmnogpnjombgaaDoor

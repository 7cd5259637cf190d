/- isa.Right and the document's Right at any instruction; what is wrong with a program first, as a relation. -/
import Derived.Test.YtjmnogpnjombgaaDoorIsaRef
import Derived.Test.YtjmnogpnjombgaaDoorOpen
namespace Go.Proofs.YtjmnogpnjombgaaDoor
open Go.ChangeShapes Go.WideShapes Go.ChangeAt Go.RowKit
set_option linter.unusedVariables false
set_option maxRecDepth 100000

def rightB (i : Ins) (size : Int) : Bool := if 0 ≤ i.op ∧ i.op < 28 then decide (RightP (kindAt i.op.toNat) i.a i.b i.c i.k size) else false

theorem right_any (i : Ins) (size : Int) (ho : i.Ok) (h2 : -9223372036854775808 ≤ size) (h3 : size ≤ 9223372036854775807) (w : World) (ht : Tab w) :
    Calls Tryd.prog 48 #[.agg #[.int .i64 i.op, .int .i64 i.a, .int .i64 i.b, .int .i64 i.c, .int .u32 i.k], .int .i64 size] w fun e w' => e = .returned (.bool (rightB i size)) ∧ Below w.heap.size w w' := by
  obtain ⟨op, a, b, c, k⟩ := i
  unfold rightB
  by_cases h : 0 ≤ op ∧ op < 28
  · rw [if_pos h]
    obtain ⟨j, rfl⟩ : ∃ j : Nat, op = (j : Int) := ⟨op.toNat, by omega⟩
    exact isaRight_in j (by omega) a b c k size ho.k0 ho.k1 h2 h3 w ht
  · rw [if_neg h]
    exact isaRight_out op a b c k size (by omega) w

theorem refRight_any (i : Ins) (size : Int) (ho : i.Ok) (w : World) :
    Calls Tryd.prog 133 #[.agg #[.int .i64 i.op, .int .i64 i.a, .int .i64 i.b, .int .i64 i.c, .int .u32 i.k], .int .i64 size] w fun e w' => e = .returned (.bool (rightB i size)) ∧ Below w.heap.size w w' := by
  obtain ⟨op, a, b, c, k⟩ := i
  unfold rightB
  by_cases h : 0 ≤ op ∧ op < 28
  · rw [if_pos h]
    obtain ⟨j, rfl⟩ : ∃ j : Nat, op = (j : Int) := ⟨op.toNat, by omega⟩
    exact refRight_in j (by omega) a b c k size ho.k0 ho.k1 w
  · rw [if_neg h]
    exact refRight_out op a b c k size (by omega) w

/-- A code in which nothing is wrong. -/
def goodCd (c : Cd) : Prop := c.len ≤ 4000 ∧ ∀ j, j < c.len → rightB (c.F j) c.len = true

/-- What is wrong with a program first. -/
inductive Chk (p : Pg) : Int → Int → Int → Prop
  | args : (p.n < 1 ∨ 8 < p.n ∨ p.room < 1 ∨ 16 < p.room) → Chk p (-1) (-1) 1
  | mem : 1 ≤ p.n → p.n ≤ 8 → 1 ≤ p.room → p.room ≤ 16 → 1024 < p.m → Chk p (-1) (-1) 4
  | long (t : Nat) : 1 ≤ p.n → p.n ≤ 8 → 1 ≤ p.room → p.room ≤ 16 → p.m ≤ 1024 → t < p.n → (∀ s, s < t → goodCd (p.cd s)) → 4000 < (p.cd t).len → Chk p t (-1) 4
  | form (t j : Nat) : 1 ≤ p.n → p.n ≤ 8 → 1 ≤ p.room → p.room ≤ 16 → p.m ≤ 1024 → t < p.n → (∀ s, s < t → goodCd (p.cd s)) → (p.cd t).len ≤ 4000 → j < (p.cd t).len → (∀ i, i < j → rightB ((p.cd t).F i) (p.cd t).len = true) →
      rightB ((p.cd t).F j) (p.cd t).len = false → Chk p t j 3
  | fine : 1 ≤ p.n → p.n ≤ 8 → 1 ≤ p.room → p.room ≤ 16 → p.m ≤ 1024 → (∀ s, s < p.n → goodCd (p.cd s)) → Chk p 0 0 0

/-- The first of those that are none. -/
theorem first_not (q : Nat → Prop) [DecidablePred q] (n : Nat) : (∀ i, i < n → q i) ∨ ∃ k, k < n ∧ ¬ q k ∧ ∀ i, i < k → q i := by
  induction n with
  | zero => exact .inl fun i hi => absurd hi (by omega)
  | succ n ih =>
    rcases ih with h | ⟨k, hk, h1, h2⟩
    · by_cases hn : q n
      · refine .inl fun i hi => ?_
        rcases (by omega : i < n ∨ i = n) with hi | rfl
        · exact h i hi
        · exact hn
      · exact .inr ⟨n, by omega, hn, h⟩
    · exact .inr ⟨k, by omega, h1, h2⟩

theorem chk_some (p : Pg) : ∃ t j e, Chk p t j e := by
  by_cases h0 : p.n < 1 ∨ 8 < p.n ∨ p.room < 1 ∨ 16 < p.room
  · exact ⟨_, _, _, .args h0⟩
  · have a1 : 1 ≤ p.n := by omega
    have a2 : p.n ≤ 8 := by omega
    have a3 : 1 ≤ p.room := by omega
    have a4 : p.room ≤ 16 := by omega
    by_cases h1 : 1024 < p.m
    · exact ⟨_, _, _, .mem a1 a2 a3 a4 h1⟩
    · have a5 : p.m ≤ 1024 := by omega
      classical
      rcases first_not (fun s => goodCd (p.cd s)) p.n with h | ⟨t, ht, hb, hg⟩
      · exact ⟨_, _, _, .fine a1 a2 a3 a4 a5 h⟩
      · by_cases hl : 4000 < (p.cd t).len
        · exact ⟨_, _, _, .long t a1 a2 a3 a4 a5 ht hg hl⟩
        · rcases first_not (fun j => rightB ((p.cd t).F j) (p.cd t).len = true) (p.cd t).len with h | ⟨j, hj, hr, hi⟩
          · exact absurd ⟨by omega, h⟩ hb
          · exact ⟨_, _, _, .form t j a1 a2 a3 a4 a5 ht hg (by omega) hj hi (by simpa using hr)⟩
end Go.Proofs.YtjmnogpnjombgaaDoor

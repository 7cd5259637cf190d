/- The contracts of the reader's number, small and instr. -/
import Derived.Test.YtjmnogpnjombgaaDoorMem
import Derived.Deep.QuietTactic
import Derived.BigQuiet
namespace Go.Proofs.YtjmnogpnjombgaaDoor
open Go.RowKit
set_option linter.unusedVariables false
set_option maxRecDepth 100000

/-- The number of so many bytes at a place, the lowest first. -/
def numAt (Z : Nat → Int) (at_ : Nat) : Nat → Int
  | 0 => 0
  | s + 1 => Z at_ + 256 * numAt Z (at_ + 1) s

/-- The reader's block. -/
def Rd (w : World) (r : Nat) (A : Option Addr) (len cap at_ : Nat) (sh : Bool) : Prop := Blk w r 141 #[.slice A len cap, .int .i64 at_, .bool sh]

theorem num_short (r : Nat) (A : Option Addr) (len cap at_ size : Nat) (w : World) (hr : Rd w r A len cap at_ true) :
    Calls Tryd.prog 119 #[.pointer (some ⟨r, 0, none⟩), .int .i64 size] w fun e w' => e = .returned (.int .u32 0) ∧ ∃ n, w' = (w.drewN n).setCell ⟨r, 2, none⟩ (.bool true) := by
  have c0 := hr.cell 0
  have c1 := hr.cell 1
  have c2 := hr.cell 2
  have f2 := hr.frozen 2
  simp only [List.getElem?_toArray, List.getElem?_cons_zero, List.getElem?_cons_succ] at c0 c1 c2
  go_enter Tryd.func119, Tryd.ntmps119
  go_wp2
  go_quiet (fail)
  go_wp2
  go_ret
  exact ⟨rfl, _, rfl⟩

theorem num_over (r : Nat) (A : Option Addr) (len cap at_ size : Nat) (w : World) (hr : Rd w r A len cap at_ false) (hat : at_ ≤ len) (hl : len ≤ 1000000) (hs : size ≤ 4) (hov : len < at_ + size) :
    Calls Tryd.prog 119 #[.pointer (some ⟨r, 0, none⟩), .int .i64 size] w fun e w' => e = .returned (.int .u32 0) ∧ ∃ n, w' = (w.drewN n).setCell ⟨r, 2, none⟩ (.bool true) := by
  have c0 := hr.cell 0
  have c1 := hr.cell 1
  have c2 := hr.cell 2
  have f2 := hr.frozen 2
  simp only [List.getElem?_toArray, List.getElem?_cons_zero, List.getElem?_cons_succ] at c0 c1 c2
  have hlt : (len : Int) - (at_ : Int) < (size : Int) := by omega
  have hw1 : IntKind.i64.wrap ((len : Int) - (at_ : Int)) = (len : Int) - (at_ : Int) := IntWalk.i64_in _ (by omega)
  go_enter Tryd.func119, Tryd.ntmps119
  go_wp2
  go_quiet (fail)
  go_wp2
  go_ret
  exact ⟨rfl, _, rfl⟩

theorem or_byte (m z : Int) (h0 : 0 ≤ m) (h1 : m < 16777216) (h2 : 0 ≤ z) (h3 : z ≤ 255) : bits BinOp.or IntKind.u32 (m * 256 % 4294967296) z = z + 256 * m := by
  obtain ⟨a, rfl⟩ : ∃ a : Nat, m = a := ⟨m.toNat, by omega⟩
  obtain ⟨b, rfl⟩ : ∃ b : Nat, z = b := ⟨z.toNat, by omega⟩
  rw [show (a : Int) * 256 % 4294967296 = ((a * 256 : Nat) : Int) from by omega]
  show IntKind.u32.wrap ((BitVec.ofInt 32 ((a * 256 : Nat) : Int) ||| BitVec.ofInt 32 (b : Int)).toNat : Int) = _
  rw [BitVec.toNat_or, BitVec.ofInt_natCast, BitVec.ofInt_natCast, BitVec.toNat_ofNat, BitVec.toNat_ofNat, Nat.mod_eq_of_lt (by omega), Nat.mod_eq_of_lt (by omega)]
  have h := Nat.shiftLeft_add_eq_or_of_lt (i := 8) (b := b) (by omega) a
  rw [Nat.shiftLeft_eq] at h
  rw [show (2 : Nat) ^ 8 = 256 from rfl] at h
  rw [← h]
  simp [IntKind.wrap, IntKind.bits, IntKind.signed]
  omega
theorem numAt_lt (Z : Nat → Int) : ∀ (s at_ : Nat), (∀ i, i < at_ + s → 0 ≤ Z i ∧ Z i ≤ 255) → 0 ≤ numAt Z at_ s ∧ numAt Z at_ s < 256 ^ s
  | 0, at_, _ => by simp [numAt]
  | s + 1, at_, h => by
    have h1 := numAt_lt Z s (at_ + 1) (fun i hi => h i (by omega))
    have h2 := h at_ (by omega)
    rw [numAt, Int.pow_succ]
    omega

set_option maxHeartbeats 400000 in
theorem num_ok (r : Nat) (A : Option Addr) (len cap at_ size : Nat) (Z : Nat → Int) (w : World) (hr : Rd w r A len cap at_ false) (hl : len ≤ 1000000) (hs : size ≤ 4) (hov : at_ + size ≤ len)
    (hsl : Sl w A len (fun i => .int .u8 (Z i))) (hz : ∀ i, i < len → 0 ≤ Z i ∧ Z i ≤ 255) :
    Calls Tryd.prog 119 #[.pointer (some ⟨r, 0, none⟩), .int .i64 size] w fun e w' => e = .returned (.int .u32 (numAt Z at_ size)) ∧ ∃ n, w' = (w.drewN n).setCell ⟨r, 1, none⟩ (.int .i64 ((at_ + size : Nat) : Int)) := by
  have c0 := hr.cell 0
  have c1 := hr.cell 1
  have c2 := hr.cell 2
  have f1 := hr.frozen 1
  simp only [List.getElem?_toArray, List.getElem?_cons_zero, List.getElem?_cons_succ] at c0 c1 c2
  have hlt : ¬ (len : Int) - (at_ : Int) < (size : Int) := by omega
  have hlt' : decide ((len : Int) - (at_ : Int) < (size : Int)) = false := by simp; omega
  have hw1 : IntKind.i64.wrap ((len : Int) - (at_ : Int)) = (len : Int) - (at_ : Int) := IntWalk.i64_in _ (by omega)
  go_enter Tryd.func119, Tryd.ntmps119
  go_wp2
  go_quiet (fail)
  go_wp2
  go_loopw [5, 6] (fun n v wr => ∃ k : Nat, k ≤ size ∧ v = .int .i64 ((k : Int) - 1) ∧ n = .int .u32 (numAt Z (at_ + k) (size - k)) ∧ ∃ q, wr = w.drewN q) (fun _ v _ => (intOf v + 1).toNat)
  case atStart => exact ⟨size, Nat.le_refl _, rfl, by rw [Nat.sub_self]; rfl, _, rfl⟩
  case round =>
    obtain ⟨k, hk, rfl, rfl, q, rfl⟩ := hrel
    by_cases hk0 : k = 0
    · subst hk0
      go_wp2
      go_ret
      exact ⟨rfl, _, rfl⟩
    · obtain ⟨j, rfl⟩ : ∃ j, k = j + 1 := ⟨k - 1, by omega⟩
      obtain ⟨b, off, rfl, hbW, hcW⟩ := hsl (by omega)
      have hc0 := hcW (at_ + j) (by omega)
      have hz0 := hz (at_ + j) (by omega)
      have hj : ((j + 1 : Nat) : Int) - 1 = (j : Int) := by omega
      rw [hj]
      have hw2 : IntKind.i64.wrap ((at_ : Int) + (j : Int)) = (at_ : Int) + (j : Int) := IntWalk.i64_in _ (by omega)
      have hw3 : 0 ≤ (at_ : Int) + (j : Int) := by omega
      have hw4 : ((at_ : Int) + (j : Int)).toNat = at_ + j := by omega
      have hw5 : (at_ : Int) + (j : Int) < (len : Int) := by omega
      have hm := numAt_lt Z (size - (j + 1)) (at_ + (j + 1)) (fun i hi => hz i (by omega))
      have hm2 : numAt Z (at_ + j) (size - j) = Z (at_ + j) + 256 * numAt Z (at_ + (j + 1)) (size - (j + 1)) := by
        rw [show size - j = (size - (j + 1)) + 1 from by omega, numAt]; rfl
      have hm3 : numAt Z (at_ + (j + 1)) (size - (j + 1)) < 16777216 := by
        have : (256 : Int) ^ (size - (j + 1)) ≤ 256 ^ 3 := by
          have h := Nat.pow_le_pow_right (show 256 > 0 by omega) (show size - (j + 1) ≤ 3 by omega)
          have h2 : ((256 ^ (size - (j + 1)) : Nat) : Int) ≤ ((256 ^ 3 : Nat) : Int) := by omega
          simpa using h2
        omega
      have HM := Lib.hid (And.intro hm.1 (And.intro hm2 hm3))
      clear hm hm2 hm3
      go_wp2
      go_quiet (fail)
      go_wp2
      obtain ⟨hm1, hm2, hm3⟩ := HM.out
      refine ⟨⟨j, by omega, rfl, ?_, _, rfl⟩, by simp [intOf]⟩
      rw [or_byte _ _ hm1 hm3 hz0.1 hz0.2, hm2]
end Go.Proofs.YtjmnogpnjombgaaDoor

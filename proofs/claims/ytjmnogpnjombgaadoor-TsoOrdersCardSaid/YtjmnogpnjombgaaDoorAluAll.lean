/- alu.Do at every op. -/
import Derived.Test.YtjmnogpnjombgaaDoorBase
import Derived.Laws.EntriesVeiled
namespace Go.Proofs.YtjmnogpnjombgaaDoor
open Go.ChangeShapes Go.WideShapes Go.ChangeAt Go.RowKit
set_option linter.unusedVariables false
set_option maxRecDepth 100000
set_option linter.unusedSimpArgs false

/-- What an operation makes of two words. -/
def aluF (op : Nat) (a b : Int) : Int :=
  if op = 3 then (a + b) % 4294967296
  else if op = 4 then (a - b) % 4294967296
  else if op = 5 then a * b % 4294967296
  else if op = 6 then bits .and .u32 a b
  else if op = 7 then bits .or .u32 a b
  else if op = 8 then bits .xor .u32 a b
  else if op = 9 then a * 2 ^ (b % 32).toNat % 4294967296
  else if op = 10 then a / 2 ^ (b % 32).toNat
  else if op = 11 then (if a < b then 1 else 0)
  else if op = 12 then (if a = b then 1 else 0)
  else 0
theorem aluF_add (a b : Int) : aluF 3 a b = (a + b) % 4294967296 := rfl
theorem aluF_sub (a b : Int) : aluF 4 a b = (a - b) % 4294967296 := rfl
theorem aluF_mul (a b : Int) : aluF 5 a b = a * b % 4294967296 := rfl
theorem aluF_and (a b : Int) : aluF 6 a b = bits .and .u32 a b := rfl
theorem aluF_or (a b : Int) : aluF 7 a b = bits .or .u32 a b := rfl
theorem aluF_xor (a b : Int) : aluF 8 a b = bits .xor .u32 a b := rfl
theorem aluF_shl (a b : Int) : aluF 9 a b = a * 2 ^ (b % 32).toNat % 4294967296 := rfl
theorem aluF_shr (a b : Int) : aluF 10 a b = a / 2 ^ (b % 32).toNat := rfl
theorem aluF_less (a b : Int) : aluF 11 a b = (if a < b then 1 else 0) := rfl
theorem aluF_same (a b : Int) : aluF 12 a b = (if a = b then 1 else 0) := rfl
theorem alu_is (op : Int) (w : World) : Calls Tryd.prog 121 #[.int .i64 op] w fun e w' => e = .returned (.bool (decide (3 ≤ op ∧ op ≤ 12))) ∧ w = w' := by
  by_cases h : 3 ≤ op
  · by_cases h2 : op ≤ 12
    · rw [decide_eq_true (⟨h, h2⟩ : 3 ≤ op ∧ op ≤ 12)]
      go_enter Tryd.func121, Tryd.ntmps121
      go_wp2
      go_ret
      exact ⟨rfl, rfl⟩
    · rw [decide_eq_false (fun h' : 3 ≤ op ∧ op ≤ 12 => h2 h'.2)]
      go_enter Tryd.func121, Tryd.ntmps121
      go_wp2
      go_ret
      exact ⟨rfl, rfl⟩
  · rw [decide_eq_false (fun h' : 3 ≤ op ∧ op ≤ 12 => h h'.1)]
    go_enter Tryd.func121, Tryd.ntmps121
    go_wp2
    go_ret
    exact ⟨rfl, rfl⟩
theorem abit_any (q : Bool) (w : World) : Calls Tryd.prog 151 #[.bool q] w fun e w' => e = .returned (.int .u32 (if q = true then 1 else 0)) ∧ w = w' := by
  cases q
  · go_enter Tryd.func151, Tryd.ntmps151
    go_wp2
    go_ret
    exact ⟨rfl, rfl⟩
  · go_enter Tryd.func151, Tryd.ntmps151
    go_wp2
    go_ret
    exact ⟨rfl, rfl⟩
theorem word_add (a b : Int) (h0 : 0 ≤ b) (h1 : b ≤ 4294967295) (w : World) : Calls Tryd.prog 122 #[.int .u32 a, .int .u32 b] w fun e w' => e = .returned (.int .u32 (aluF 3 a b)) ∧ w = w' := by
  go_enter Tryd.func122, Tryd.ntmps122
  go_wp2
  go_ret
  exact ⟨rfl, rfl⟩
theorem word_sub (a b : Int) (h0 : 0 ≤ b) (h1 : b ≤ 4294967295) (w : World) : Calls Tryd.prog 123 #[.int .u32 a, .int .u32 b] w fun e w' => e = .returned (.int .u32 (aluF 4 a b)) ∧ w = w' := by
  go_enter Tryd.func123, Tryd.ntmps123
  go_wp2
  go_ret
  exact ⟨rfl, rfl⟩
theorem word_mul (a b : Int) (h0 : 0 ≤ b) (h1 : b ≤ 4294967295) (w : World) : Calls Tryd.prog 124 #[.int .u32 a, .int .u32 b] w fun e w' => e = .returned (.int .u32 (aluF 5 a b)) ∧ w = w' := by
  go_enter Tryd.func124, Tryd.ntmps124
  go_wp2
  go_ret
  exact ⟨rfl, rfl⟩
theorem word_and (a b : Int) (h0 : 0 ≤ b) (h1 : b ≤ 4294967295) (w : World) : Calls Tryd.prog 125 #[.int .u32 a, .int .u32 b] w fun e w' => e = .returned (.int .u32 (aluF 6 a b)) ∧ w = w' := by
  go_enter Tryd.func125, Tryd.ntmps125
  go_wp2
  go_ret
  exact ⟨rfl, rfl⟩
theorem word_or (a b : Int) (h0 : 0 ≤ b) (h1 : b ≤ 4294967295) (w : World) : Calls Tryd.prog 126 #[.int .u32 a, .int .u32 b] w fun e w' => e = .returned (.int .u32 (aluF 7 a b)) ∧ w = w' := by
  go_enter Tryd.func126, Tryd.ntmps126
  go_wp2
  go_ret
  exact ⟨rfl, rfl⟩
theorem word_xor (a b : Int) (h0 : 0 ≤ b) (h1 : b ≤ 4294967295) (w : World) : Calls Tryd.prog 127 #[.int .u32 a, .int .u32 b] w fun e w' => e = .returned (.int .u32 (aluF 8 a b)) ∧ w = w' := by
  go_enter Tryd.func127, Tryd.ntmps127
  go_wp2
  go_ret
  exact ⟨rfl, rfl⟩
theorem word_shl (a b : Int) (h0 : 0 ≤ b) (h1 : b ≤ 4294967295) (w : World) : Calls Tryd.prog 128 #[.int .u32 a, .int .u32 b] w fun e w' => e = .returned (.int .u32 (aluF 9 a b)) ∧ w = w' := by
  go_enter Tryd.func128, Tryd.ntmps128
  go_wp2
  go_ret
  exact ⟨rfl, rfl⟩
theorem word_shr (a b : Int) (h0 : 0 ≤ b) (h1 : b ≤ 4294967295) (w : World) : Calls Tryd.prog 129 #[.int .u32 a, .int .u32 b] w fun e w' => e = .returned (.int .u32 (aluF 10 a b)) ∧ w = w' := by
  go_enter Tryd.func129, Tryd.ntmps129
  go_wp2
  go_ret
  exact ⟨rfl, rfl⟩
theorem word_less (a b : Int) (h0 : 0 ≤ b) (h1 : b ≤ 4294967295) (w : World) : Calls Tryd.prog 130 #[.int .u32 a, .int .u32 b] w fun e w' => e = .returned (.int .u32 (aluF 11 a b)) ∧ w = w' := by
  by_cases h : a < b
  · have e1 : aluF 11 a b = 1 := by rw [aluF_less, if_pos h]
    have hb : decide (a < b) = true := by simpa using h
    have HE := Lib.hid e1
    clear h e1
    go_enter Tryd.func130, Tryd.ntmps130
    go_wp2_with fail
    refine (abit_any true _).mono ?_
    rintro e w1 ⟨rfl, rfl⟩
    go_wp2
    go_ret
    exact ⟨by rw [HE.out]; rfl, rfl⟩
  · have e1 : aluF 11 a b = 0 := by rw [aluF_less, if_neg h]
    have hb : decide (a < b) = false := by simpa using h
    have HE := Lib.hid e1
    clear h e1
    go_enter Tryd.func130, Tryd.ntmps130
    go_wp2_with fail
    refine (abit_any false _).mono ?_
    rintro e w1 ⟨rfl, rfl⟩
    go_wp2
    go_ret
    exact ⟨by rw [HE.out]; rfl, rfl⟩
theorem word_same (a b : Int) (h0 : 0 ≤ b) (h1 : b ≤ 4294967295) (w : World) : Calls Tryd.prog 131 #[.int .u32 a, .int .u32 b] w fun e w' => e = .returned (.int .u32 (aluF 12 a b)) ∧ w = w' := by
  by_cases h : a = b
  · have e1 : aluF 12 a b = 1 := by rw [aluF_same, if_pos h]
    have hb : (a == b) = true := by simpa using h
    have HE := Lib.hid e1
    clear h e1
    go_enter Tryd.func131, Tryd.ntmps131
    go_wp2_with fail
    refine (abit_any true _).mono ?_
    rintro e w1 ⟨rfl, rfl⟩
    go_wp2
    go_ret
    exact ⟨by rw [HE.out]; rfl, rfl⟩
  · have e1 : aluF 12 a b = 0 := by rw [aluF_same, if_neg h]
    have hb : (a == b) = false := by simpa using h
    have HE := Lib.hid e1
    clear h e1
    go_enter Tryd.func131, Tryd.ntmps131
    go_wp2_with fail
    refine (abit_any false _).mono ?_
    rintro e w1 ⟨rfl, rfl⟩
    go_wp2
    go_ret
    exact ⟨by rw [HE.out]; rfl, rfl⟩
theorem do_3 (a b : Int) (h0 : 0 ≤ b) (h1 : b ≤ 4294967295) (w : World) : Calls Tryd.prog 103 #[.int .i64 3, .int .u32 a, .int .u32 b] w fun e w' => e = .returned (.tuple #[.int .u32 (aluF 3 a b), .bool true]) ∧ Below w.heap.size w w' := by
  have hw := fun w' => word_add a b h0 h1 w'
  generalize aluF 3 a b = r at hw ⊢
  go_enter Tryd.func103, Tryd.ntmps103
  go_wp2_with fail
  refine (alu_is 3 _).mono ?_
  rintro e w' ⟨rfl, rfl⟩
  go_wp2_with fail
  refine (hw _).mono ?_
  rintro e w1 ⟨rfl, rfl⟩
  go_wp2
  go_ret2
  exact ⟨rfl, (Below.refl _ _).alloc (Nat.le_refl _) _⟩
theorem do_4 (a b : Int) (h0 : 0 ≤ b) (h1 : b ≤ 4294967295) (w : World) : Calls Tryd.prog 103 #[.int .i64 4, .int .u32 a, .int .u32 b] w fun e w' => e = .returned (.tuple #[.int .u32 (aluF 4 a b), .bool true]) ∧ Below w.heap.size w w' := by
  have hw := fun w' => word_sub a b h0 h1 w'
  generalize aluF 4 a b = r at hw ⊢
  go_enter Tryd.func103, Tryd.ntmps103
  go_wp2_with fail
  refine (alu_is 4 _).mono ?_
  rintro e w' ⟨rfl, rfl⟩
  go_wp2_with fail
  refine (hw _).mono ?_
  rintro e w1 ⟨rfl, rfl⟩
  go_wp2
  go_ret2
  exact ⟨rfl, (Below.refl _ _).alloc (Nat.le_refl _) _⟩
theorem do_5 (a b : Int) (h0 : 0 ≤ b) (h1 : b ≤ 4294967295) (w : World) : Calls Tryd.prog 103 #[.int .i64 5, .int .u32 a, .int .u32 b] w fun e w' => e = .returned (.tuple #[.int .u32 (aluF 5 a b), .bool true]) ∧ Below w.heap.size w w' := by
  have hw := fun w' => word_mul a b h0 h1 w'
  generalize aluF 5 a b = r at hw ⊢
  go_enter Tryd.func103, Tryd.ntmps103
  go_wp2_with fail
  refine (alu_is 5 _).mono ?_
  rintro e w' ⟨rfl, rfl⟩
  go_wp2_with fail
  refine (hw _).mono ?_
  rintro e w1 ⟨rfl, rfl⟩
  go_wp2
  go_ret2
  exact ⟨rfl, (Below.refl _ _).alloc (Nat.le_refl _) _⟩
theorem do_6 (a b : Int) (h0 : 0 ≤ b) (h1 : b ≤ 4294967295) (w : World) : Calls Tryd.prog 103 #[.int .i64 6, .int .u32 a, .int .u32 b] w fun e w' => e = .returned (.tuple #[.int .u32 (aluF 6 a b), .bool true]) ∧ Below w.heap.size w w' := by
  have hw := fun w' => word_and a b h0 h1 w'
  generalize aluF 6 a b = r at hw ⊢
  go_enter Tryd.func103, Tryd.ntmps103
  go_wp2_with fail
  refine (alu_is 6 _).mono ?_
  rintro e w' ⟨rfl, rfl⟩
  go_wp2_with fail
  refine (hw _).mono ?_
  rintro e w1 ⟨rfl, rfl⟩
  go_wp2
  go_ret2
  exact ⟨rfl, (Below.refl _ _).alloc (Nat.le_refl _) _⟩
theorem do_7 (a b : Int) (h0 : 0 ≤ b) (h1 : b ≤ 4294967295) (w : World) : Calls Tryd.prog 103 #[.int .i64 7, .int .u32 a, .int .u32 b] w fun e w' => e = .returned (.tuple #[.int .u32 (aluF 7 a b), .bool true]) ∧ Below w.heap.size w w' := by
  have hw := fun w' => word_or a b h0 h1 w'
  generalize aluF 7 a b = r at hw ⊢
  go_enter Tryd.func103, Tryd.ntmps103
  go_wp2_with fail
  refine (alu_is 7 _).mono ?_
  rintro e w' ⟨rfl, rfl⟩
  go_wp2_with fail
  refine (hw _).mono ?_
  rintro e w1 ⟨rfl, rfl⟩
  go_wp2
  go_ret2
  exact ⟨rfl, (Below.refl _ _).alloc (Nat.le_refl _) _⟩
theorem do_8 (a b : Int) (h0 : 0 ≤ b) (h1 : b ≤ 4294967295) (w : World) : Calls Tryd.prog 103 #[.int .i64 8, .int .u32 a, .int .u32 b] w fun e w' => e = .returned (.tuple #[.int .u32 (aluF 8 a b), .bool true]) ∧ Below w.heap.size w w' := by
  have hw := fun w' => word_xor a b h0 h1 w'
  generalize aluF 8 a b = r at hw ⊢
  go_enter Tryd.func103, Tryd.ntmps103
  go_wp2_with fail
  refine (alu_is 8 _).mono ?_
  rintro e w' ⟨rfl, rfl⟩
  go_wp2_with fail
  refine (hw _).mono ?_
  rintro e w1 ⟨rfl, rfl⟩
  go_wp2
  go_ret2
  exact ⟨rfl, (Below.refl _ _).alloc (Nat.le_refl _) _⟩
theorem do_9 (a b : Int) (h0 : 0 ≤ b) (h1 : b ≤ 4294967295) (w : World) : Calls Tryd.prog 103 #[.int .i64 9, .int .u32 a, .int .u32 b] w fun e w' => e = .returned (.tuple #[.int .u32 (aluF 9 a b), .bool true]) ∧ Below w.heap.size w w' := by
  have hw := fun w' => word_shl a b h0 h1 w'
  generalize aluF 9 a b = r at hw ⊢
  go_enter Tryd.func103, Tryd.ntmps103
  go_wp2_with fail
  refine (alu_is 9 _).mono ?_
  rintro e w' ⟨rfl, rfl⟩
  go_wp2_with fail
  refine (hw _).mono ?_
  rintro e w1 ⟨rfl, rfl⟩
  go_wp2
  go_ret2
  exact ⟨rfl, (Below.refl _ _).alloc (Nat.le_refl _) _⟩
theorem do_10 (a b : Int) (h0 : 0 ≤ b) (h1 : b ≤ 4294967295) (w : World) : Calls Tryd.prog 103 #[.int .i64 10, .int .u32 a, .int .u32 b] w fun e w' => e = .returned (.tuple #[.int .u32 (aluF 10 a b), .bool true]) ∧ Below w.heap.size w w' := by
  have hw := fun w' => word_shr a b h0 h1 w'
  generalize aluF 10 a b = r at hw ⊢
  go_enter Tryd.func103, Tryd.ntmps103
  go_wp2_with fail
  refine (alu_is 10 _).mono ?_
  rintro e w' ⟨rfl, rfl⟩
  go_wp2_with fail
  refine (hw _).mono ?_
  rintro e w1 ⟨rfl, rfl⟩
  go_wp2
  go_ret2
  exact ⟨rfl, (Below.refl _ _).alloc (Nat.le_refl _) _⟩
theorem do_11 (a b : Int) (h0 : 0 ≤ b) (h1 : b ≤ 4294967295) (w : World) : Calls Tryd.prog 103 #[.int .i64 11, .int .u32 a, .int .u32 b] w fun e w' => e = .returned (.tuple #[.int .u32 (aluF 11 a b), .bool true]) ∧ Below w.heap.size w w' := by
  have hw := fun w' => word_less a b h0 h1 w'
  generalize aluF 11 a b = r at hw ⊢
  go_enter Tryd.func103, Tryd.ntmps103
  go_wp2_with fail
  refine (alu_is 11 _).mono ?_
  rintro e w' ⟨rfl, rfl⟩
  go_wp2_with fail
  refine (hw _).mono ?_
  rintro e w1 ⟨rfl, rfl⟩
  go_wp2
  go_ret2
  exact ⟨rfl, (Below.refl _ _).alloc (Nat.le_refl _) _⟩
theorem do_12 (a b : Int) (h0 : 0 ≤ b) (h1 : b ≤ 4294967295) (w : World) : Calls Tryd.prog 103 #[.int .i64 12, .int .u32 a, .int .u32 b] w fun e w' => e = .returned (.tuple #[.int .u32 (aluF 12 a b), .bool true]) ∧ Below w.heap.size w w' := by
  have hw := fun w' => word_same a b h0 h1 w'
  generalize aluF 12 a b = r at hw ⊢
  go_enter Tryd.func103, Tryd.ntmps103
  go_wp2_with fail
  refine (alu_is 12 _).mono ?_
  rintro e w' ⟨rfl, rfl⟩
  go_wp2_with fail
  refine (hw _).mono ?_
  rintro e w1 ⟨rfl, rfl⟩
  go_wp2
  go_ret2
  exact ⟨rfl, (Below.refl _ _).alloc (Nat.le_refl _) _⟩
/-- Any operation of two words. -/
theorem do_any (op : Nat) (h3 : 3 ≤ op) (h12 : op ≤ 12) (a b : Int) (h0 : 0 ≤ b) (h1 : b ≤ 4294967295) (w : World) : Calls Tryd.prog 103 #[.int .i64 (op : Int), .int .u32 a, .int .u32 b] w fun e w' => e = .returned (.tuple #[.int .u32 (aluF op a b), .bool true]) ∧ Below w.heap.size w w' := by
  rcases (by omega : op = 3 ∨ op = 4 ∨ op = 5 ∨ op = 6 ∨ op = 7 ∨ op = 8 ∨ op = 9 ∨ op = 10 ∨ op = 11 ∨ op = 12) with rfl | rfl | rfl | rfl | rfl | rfl | rfl | rfl | rfl | rfl
  · exact do_3 a b h0 h1 w
  · exact do_4 a b h0 h1 w
  · exact do_5 a b h0 h1 w
  · exact do_6 a b h0 h1 w
  · exact do_7 a b h0 h1 w
  · exact do_8 a b h0 h1 w
  · exact do_9 a b h0 h1 w
  · exact do_10 a b h0 h1 w
  · exact do_11 a b h0 h1 w
  · exact do_12 a b h0 h1 w
theorem do_no (op a b : Int) (h : op < 3 ∨ 12 < op) (w : World) : Calls Tryd.prog 103 #[.int .i64 op, .int .u32 a, .int .u32 b] w fun e w' => e = .returned (.tuple #[.int .u32 0, .bool false]) ∧ w = w' := by
  have hb : decide (3 ≤ op ∧ op ≤ 12) = false := decide_eq_false (by omega)
  go_enter Tryd.func103, Tryd.ntmps103
  go_wp2_with fail
  refine (alu_is op _).mono ?_
  rw [hb]
  rintro e w' ⟨rfl, rfl⟩
  go_wp2
  go_ret2
  exact ⟨rfl, rfl⟩
end Go.Proofs.YtjmnogpnjombgaaDoor

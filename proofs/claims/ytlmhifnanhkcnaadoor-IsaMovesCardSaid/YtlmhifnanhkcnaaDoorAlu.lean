/- alu.Do at Add. -/
import Derived.Test.YtlmhifnanhkcnaaDoorBase
import Derived.Laws.EntriesVeiled
namespace Go.Proofs.YtlmhifnanhkcnaaDoor
open Go.ChangeShapes Go.WideShapes Go.ChangeAt Go.RowKit
set_option linter.unusedVariables false

def add32 (a b : Int) : Int := IntKind.u32.wrap (a + b)

theorem add32_bd (a b : Int) : 0 ≤ add32 a b ∧ add32 a b ≤ 4294967295 := by unfold add32; rw [IntKind.wrap_u32]; omega

theorem alu_is (op : Int) (w : World) : Calls Tryd.prog 41 #[.int .i64 op] w fun e w' => e = .returned (.bool (decide (3 ≤ op ∧ op ≤ 12))) ∧ w = w' := by
  by_cases h : 3 ≤ op
  · by_cases h2 : op ≤ 12
    · rw [decide_eq_true (⟨h, h2⟩ : 3 ≤ op ∧ op ≤ 12)]
      go_enter Tryd.func41, Tryd.ntmps41
      go_wp2
      go_ret
      exact ⟨rfl, rfl⟩
    · rw [decide_eq_false (fun h' : 3 ≤ op ∧ op ≤ 12 => h2 h'.2)]
      go_enter Tryd.func41, Tryd.ntmps41
      go_wp2
      go_ret
      exact ⟨rfl, rfl⟩
  · rw [decide_eq_false (fun h' : 3 ≤ op ∧ op ≤ 12 => h h'.1)]
    go_enter Tryd.func41, Tryd.ntmps41
    go_wp2
    go_ret
    exact ⟨rfl, rfl⟩

theorem word_add (a b : Int) (w : World) : Calls Tryd.prog 42 #[.int .u32 a, .int .u32 b] w fun e w' => e = .returned (.int .u32 (add32 a b)) ∧ w = w' := by
  go_enter Tryd.func42, Tryd.ntmps42
  go_wp2
  go_ret
  exact ⟨rfl, rfl⟩

theorem do_add (a b : Int) (w : World) : Calls Tryd.prog 32 #[.int .i64 3, .int .u32 a, .int .u32 b] w fun e w' => e = .returned (.tuple #[.int .u32 (add32 a b), .bool true]) ∧ Below w.heap.size w w' := by
  go_enter Tryd.func32, Tryd.ntmps32
  go_wp2_with fail
  refine (alu_is 3 _).mono ?_
  rintro e w' ⟨rfl, rfl⟩
  go_wp2_with fail
  refine (word_add a b _).mono ?_
  rintro e w1 ⟨rfl, rfl⟩
  go_wp2
  go_ret2
  exact ⟨rfl, (Below.refl _ _).alloc (Nat.le_refl _) _⟩
end Go.Proofs.YtlmhifnanhkcnaaDoor

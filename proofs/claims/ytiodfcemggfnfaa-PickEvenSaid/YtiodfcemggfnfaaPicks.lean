/- The contracts of pick.Of, pick.Byte and of the anchor 'awake': what each returns, for every argument. -/
import Derived.Test.YtiodfcemggfnfaaBase
namespace Go.Proofs.Ytiodfcemggfnfaa
open Go.RowKit
set_option linter.unusedVariables false

theorem of_any (b : Int) (h0 : 0 ≤ b) (h1 : b ≤ 255) (w : World) :
    Calls Try.prog 10 #[.int .u8 b] w fun e w' => e = .returned (.agg #[.int .i64 (b / 8 % 3), .int .i64 (b % 8)]) ∧ Below w.heap.size w w' := by
  go_enter Try.func10, Try.ntmps10
  go_wp2
  exact bodyPost_ret (v := .agg #[.int .i64 (b / 8 % 3), .int .i64 (b % 8)]) (by simp [results, Try.results10, go_sem]) rfl ⟨rfl, (Below.refl _ _).alloc (Nat.le_refl _) _⟩

theorem byte_yes (k v : Int) (h0 : 0 ≤ k) (h1 : k < 3) (h2 : 0 ≤ v) (h3 : v < 8) (w : World) :
    Calls Try.prog 11 #[.agg #[.int .i64 k, .int .i64 v]] w fun e w' => e = .returned (.tuple #[.int .u8 (k * 8 + v), .bool true]) ∧ Below w.heap.size w w' := by
  go_enter Try.func11, Try.ntmps11
  go_wp2
  go_ret2
  exact ⟨rfl, (Below.refl _ _).alloc (Nat.le_refl _) _⟩

theorem byte_no (k v : Int) (h : k < 0 ∨ 3 ≤ k ∨ v < 0 ∨ 8 ≤ v) (w : World) :
    Calls Try.prog 11 #[.agg #[.int .i64 k, .int .i64 v]] w fun e w' => e = .returned (.tuple #[.int .u8 0, .bool false]) ∧ Below w.heap.size w w' := by
  by_cases h0 : k < 0
  · go_enter Try.func11, Try.ntmps11
    go_wp2
    go_ret2
    exact ⟨rfl, (Below.refl _ _).alloc (Nat.le_refl _) _⟩
  by_cases h1 : 3 ≤ k
  · go_enter Try.func11, Try.ntmps11
    go_wp2
    go_ret2
    exact ⟨rfl, (Below.refl _ _).alloc (Nat.le_refl _) _⟩
  by_cases h2 : v < 0
  · go_enter Try.func11, Try.ntmps11
    go_wp2
    go_ret2
    exact ⟨rfl, (Below.refl _ _).alloc (Nat.le_refl _) _⟩
  have h3 : 8 ≤ v := by omega
  · go_enter Try.func11, Try.ntmps11
    go_wp2
    go_ret2
    exact ⟨rfl, (Below.refl _ _).alloc (Nat.le_refl _) _⟩

theorem awake_any (w : World) :
    Calls Try.prog 9 #[] w fun e w' => e = .returned (.bool true) ∧ Below w.heap.size w w' := by
  go_enter Try.func9, Try.ntmps9
  go_wp2_with (first | (go_at_call 11; refine (byte_yes _ _ (by omega) (by omega) (by omega) (by omega) _).mono ?_; rintro e w1 ⟨rfl, hb1⟩) | (go_at_call 10; refine (of_any _ (by omega) (by omega) _).mono ?_; rintro e w2 ⟨rfl, hb2⟩))
  go_ret
  exact ⟨rfl, step_below hb1 hb2⟩
end Go.Proofs.Ytiodfcemggfnfaa

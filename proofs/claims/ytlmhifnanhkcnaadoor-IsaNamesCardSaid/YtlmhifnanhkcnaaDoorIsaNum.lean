/- isa.Number, Jumps, Asks, Drains. -/
import Derived.Test.YtlmhifnanhkcnaaDoorIsaRight
import Derived.Deep.MidRow
namespace Go.Proofs.YtlmhifnanhkcnaaDoor
open Go.ChangeShapes Go.WideShapes Go.ChangeAt Go.RowKit
set_option linter.unusedVariables false


theorem tab_range (w : World) (ht : Tab w) : w.rangeAt 1 0 (nmL.map Value.string) := by
  intro j v hv
  have hl : nmL.length = 28 := by decide
  have hj : j < 28 := by
    have := (List.getElem?_eq_some_iff.1 hv).1
    simpa [hl] using this
  rw [Nat.zero_add]
  rw [ht.2.2 j hj, ← hv]
  unfold nmS
  simp [List.getElem?_map, List.getD_eq_getElem?_getD, List.getElem?_eq_getElem (show j < nmL.length by omega)]

theorem idx_names (k : Nat) (hk : k < 28) (w : World) : (Instr.index 64 (Value.agg (nmL.map Value.string).toArray) (.int .i64 (k : Int))).run Tryd.prog w = .ok (.string (nmS k)) w := by
  have hl : nmL.length = 28 := by decide
  have hx : (nmL.map Value.string).toArray[k]? = some (.string (nmS k)) := by
    unfold nmS
    simp [List.getElem?_map, List.getD_eq_getElem?_getD, List.getElem?_eq_getElem (show k < nmL.length by omega)]
  have hp : (part 9 (nmL.map Value.string).toArray k).run Tryd.prog w = .ok (.string (nmS k)) w := by
    simp [part, isAgg, run_underlying Tryd.underlying9, hx]
  simp [Instr.index, asIntOf, run_underlying Tryd.underlying64]
  rw [if_pos hk]
  exact hp

def nmOne : Bool := (List.range 28).all fun i => (List.range 28).all fun k => ((nmS k).toList == (nmS i).toList) == decide (k = i)
theorem nmOnes : nmOne = true := by decide +kernel
theorem nm_ne {k i : Nat} (hk : k < 28) (hi : i < 28) (h : k ≠ i) : ((nmS k).toList == (nmS i).toList) = false := by
  have h1 := List.all_eq_true.1 (List.all_eq_true.1 nmOnes i (List.mem_range.2 hi)) k (List.mem_range.2 hk)
  simpa [h] using h1

theorem number_found (i : Nat) (hi : i < 28) (w : World) (ht : Tab w) :
    Calls Tryd.prog 16 #[.string (nmS i)] w fun e w' => e = .returned (.tuple #[.int .i64 (i : Int), .bool true]) ∧ Below w.heap.size w w' := by
  have hix := fun k (hk : k < 28) wx => idx_names k hk wx
  have HX := Lib.hid hix
  clear hix
  go_enter Tryd.func16, Tryd.ntmps16
  go_wp2_with (refine wpList_load_mid rfl 64 _ rfl 1 0 rfl (nmL.map Value.string) _ (tab_range w ht) Tryd.underlying64 rfl (by kernel_rfl) ?_)
  generalize (Value.agg (nmL.map Value.string).toArray) = V at *
  go_loopw [7] (fun v wr => ∃ k : Nat, k ≤ i ∧ v = .int .i64 k ∧ wr = w) (fun v _ => i - (intOf v).toNat)
  case atStart => exact ⟨0, Nat.zero_le _, rfl, rfl⟩
  case round =>
    obtain ⟨k, hk, rfl, rfl⟩ := hrel
    have h28 : (k : Int) < 28 := by omega
    have hx := HX.out k (by omega)
    by_cases hki : k < i
    · have hne := nm_ne (k := k) (i := i) (by omega) hi (by omega)
      go_wp2
      go_roundw
      case rel => exact ⟨k + 1, by omega, by go_num, by trivial⟩
      case measure => simp [intOf]; omega
    · obtain rfl : k = i := by omega
      go_wp2
      go_ret2
      exact ⟨rfl, Below.refl _ _⟩

theorem number_none (s : ByteArray) (hs : ∀ k, k < 28 → ((nmS k).toList == s.toList) = false) (w : World) (ht : Tab w) :
    Calls Tryd.prog 16 #[.string s] w fun e w' => e = .returned (.tuple #[.int .i64 0, .bool false]) ∧ Below w.heap.size w w' := by
  have hix := fun k (hk : k < 28) wx => idx_names k hk wx
  have HX := Lib.hid hix
  have HS := Lib.hid hs
  clear hix hs
  go_enter Tryd.func16, Tryd.ntmps16
  go_wp2_with (refine wpList_load_mid rfl 64 _ rfl 1 0 rfl (nmL.map Value.string) _ (tab_range w ht) Tryd.underlying64 rfl (by kernel_rfl) ?_)
  generalize (Value.agg (nmL.map Value.string).toArray) = V at *
  go_loopw [7] (fun v wr => ∃ k : Nat, k ≤ 28 ∧ v = .int .i64 k ∧ wr = w) (fun v _ => 28 - (intOf v).toNat)
  case atStart => exact ⟨0, Nat.zero_le _, rfl, rfl⟩
  case round =>
    obtain ⟨k, hk, rfl, rfl⟩ := hrel
    by_cases hki : k < 28
    · have h28 : (k : Int) < 28 := by omega
      have hx := HX.out k hki
      have hne := HS.out k hki
      go_wp2
      go_roundw
      case rel => exact ⟨k + 1, by omega, by go_num, by trivial⟩
      case measure => simp [intOf]; omega
    · obtain rfl : k = 28 := by omega
      go_wp2
      go_ret2
      exact ⟨rfl, Below.refl _ _⟩
end Go.Proofs.YtlmhifnanhkcnaaDoor

/- The anchor 'awake' of layer 3 returns true. -/
import Derived.Test.YtlmhifnanhkcnaaDoorCodePut
import Derived.Laws.BytesArg
namespace Go.Proofs.YtlmhifnanhkcnaaDoor
open Go.RowKit
set_option linter.unusedVariables false

/-- Bytes that are owned, as a string. -/
theorem conv_own {w : World} {base g cap n : Nat} {xs : List Int} (h : w.ownsRow base 5 1 (.slice (some ⟨g, 0, none⟩) n cap) n (xs.map (Value.int .u8))) :
    (convert 50 9 (.slice (some ⟨g, 0, none⟩) n cap)).run Tryd.prog w = .ok (.string (strOfNums xs)) w := by
  have hl : xs.length = n := by simpa using h.1
  refine run_convert_bytes_arg w 50 5 Tryd.underlying50 Tryd.underlying5 g 0 n cap xs hl (fun i hi => ?_) 9 Tryd.underlying9
  rw [Nat.zero_add, h.cellAt i (by omega)]
  simp [List.getD, List.getElem?_eq_getElem (show i < xs.length by omega)]

theorem awake_any (w : World) : Calls Tryd.prog 24 #[] w fun e w' => e = .returned (.bool true) ∧ Below w.heap.size w w' := by
  go_enter Tryd.func24, Tryd.ntmps24
  go_wp2_with fail
  refine (put_yes 1 1 0 0 258 (by unfold inByte; omega) (by unfold inByte; omega) (by unfold inByte; omega) (by unfold inByte; omega) (by omega) (by omega) _).mono ?_
  rintro e w1 ⟨g, cap, rfl, hown, hb⟩
  have hc := conv_own hown
  rw [show strOfNums (instrBytes 1 1 0 0 258) = { data := #[1, 1, 0, 0, 2, 1, 0, 0] } from by decide +kernel] at hc
  go_wp2
  go_ret
  exact ⟨rfl, hb⟩
end Go.Proofs.YtlmhifnanhkcnaaDoor

/- pick.Of. -/
import Derived.Test.YtjmnogpnjombgaaDoorMem
namespace Go.Proofs.YtjmnogpnjombgaaDoor
open Go.ChangeShapes Go.WideShapes Go.ChangeAt Go.RowKit
set_option linter.unusedVariables false
set_option maxRecDepth 100000

theorem of_any (b : Int) (h0 : 0 ≤ b) (h1 : b ≤ 255) (w : World) :
    Calls Tryd.prog 99 #[.int .u8 b] w fun e w' => e = .returned (.agg #[.int .i64 (b / 8 % 3), .int .i64 (b % 8)]) ∧ Below w.heap.size w w' := by
  go_enter Tryd.func99, Tryd.ntmps99
  go_wp2
  exact bodyPost_ret (v := .agg #[.int .i64 (b / 8 % 3), .int .i64 (b % 8)]) (by simp [results, Tryd.results99, go_sem]) rfl ⟨rfl, (Below.refl _ _).alloc (Nat.le_refl _) _⟩

end Go.Proofs.YtjmnogpnjombgaaDoor

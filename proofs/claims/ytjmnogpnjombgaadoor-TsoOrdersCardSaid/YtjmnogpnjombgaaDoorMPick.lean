/- The machines in plain Lean: what a pick does. -/
import Derived.Test.YtjmnogpnjombgaaDoorMPlain
import Derived.Test.YtjmnogpnjombgaaDoorCoreStep
namespace Go.Proofs.YtjmnogpnjombgaaDoor
open Go.ChangeShapes Go.WideShapes Go.ChangeAt Go.RowKit Go.Deep
set_option linter.unusedVariables false
set_option maxRecDepth 100000
set_option linter.unusedSimpArgs false

/-- What a pick does: with buffers. -/
def tStep (B : MB) (s : Mst) (t : Nat) : Mst := let r := stepR (tOps B t) s (s.ths.getD t tha) (B.codes.getD t cdd); { r.2 with ths := r.2.ths.set t r.1 }
def tPick (B : MB) (s : Mst) (x : Int × Int) : Mst :=
  if x.2 < 0 ∨ (s.ths.length : Int) ≤ x.2 then s else if x.1 = 0 then tStep B s x.2.toNat else if x.1 = 1 then tflush x.2.toNat s else if x.1 = 2 then rouseM x.2.toNat s else s
def sStep (B : MB) (s : Mst) (t : Nat) : Mst := let r := stepR (sOps B) s (s.ths.getD t tha) (B.codes.getD t cdd); { r.2 with ths := r.2.ths.set t r.1 }
def sPick (B : MB) (s : Mst) (x : Int × Int) : Mst :=
  if x.2 < 0 ∨ (s.ths.length : Int) ≤ x.2 then s else if x.1 = 0 then sStep B { s with who := x.2 } x.2.toNat else if x.1 = 2 then rouseM x.2.toNat { s with who := x.2 } else { s with who := x.2 }

end Go.Proofs.YtjmnogpnjombgaaDoor

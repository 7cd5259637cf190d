/-
  No cell of these rows narrows 'for every input' (looked for: loops, veiled, ifaces, maps, wideKeys, modest, calm, conditions, laid).
  DERIVED. THE GIVEN ROWS OF THIS SEAT. 8 by the template 'for every input the law returns true; each argument reads behind the call as it read before'; 0 by the template 'total and deterministic' (their statements: YtaanmamgmjhegaaTotals.lean).
  GIVEN WITH THE SEED: the statements are not yours to turn. If you find one false, say at which input.
  Laid BY PROGRAM, IN A SANDBOX (cutbox-rows.mjs): the forced cells as the released guide's own fill.sh prints them over the translation f5524edb2cc9d099… (all of the seat's roots in one cut). By AI agents, Wed Nov 11 2026. No macro, syntax, notation, axiom, sorry.
-/
import Derived.Test.YtaanmamgmjhegaaChecked
import GoSem.Claim
import GoSem.ClaimJoined
import GoSem.ClaimMapViews
import Derived.JoinedTies
import Derived.KernelRfl
namespace Go.Proofs.Ytaanmamgmjhegaa
/- THE CELL 'sum', in the pinned program and in every row, IS THE sha256 OF THE DUMP (.gsa) THAT YtaanmamgmjhegaaProg.lean LOADS. Nothing in Lean hashes anything: it is a label: what it is worth is what the hold of that sum in a sandbox is worth. -/
noncomputable def Try.pinned : Pinned := { name := "ytaanmamgmjhegaa", sum := "f5524edb2cc9d0996e587eea5c9bb70111e8a74ec3aa9561237f506f6cf77c8d", checked := Try.checked }
namespace Rows
def none {H : Type} : Left H := { results := [], args := [] }

/-- 'deadlatchlaw05.BufOrder': WHATEVER THE INPUT: true; the input reads as it did. -/
def bufOrderSpec : ChangeSpec := { name := "bufOrder", fn := fun _ => fun
  | [d1, d2] => { results := [.lit (.bool true)], args := [d1, d2] }
  | _ => none }
def bufOrderRow : OpenClaim := { program := "ytaanmamgmjhegaa", sum := "f5524edb2cc9d0996e587eea5c9bb70111e8a74ec3aa9561237f506f6cf77c8d", func := "deadlatch/deadlatchlaw05.BufOrder", spec := "bufOrder", apart := false }
def BufOrderSaid : Prop := bufOrderRow.holds Try.pinned (OpenSpec.ofChange bufOrderSpec)

/-- ITS FALSE NEIGHBOUR: 'it returns false'. Refute it at one input. -/
def bufOrderWrong : ChangeSpec := { name := "bufOrder", fn := fun _ => fun
  | [d1, d2] => { results := [.lit (.bool false)], args := [d1, d2] }
  | _ => none }
def BufOrderWrongFalsely : Prop := bufOrderRow.holds Try.pinned (OpenSpec.ofChange bufOrderWrong)

/-- 'deadlatchlaw05.BufPlays': WHATEVER THE INPUT: true; the input reads as it did. -/
def bufPlaysSpec : ChangeSpec := { name := "bufPlays", fn := fun _ => fun
  | [d1, d2, d3] => { results := [.lit (.bool true)], args := [d1, d2, d3] }
  | _ => none }
def bufPlaysRow : OpenClaim := { program := "ytaanmamgmjhegaa", sum := "f5524edb2cc9d0996e587eea5c9bb70111e8a74ec3aa9561237f506f6cf77c8d", func := "deadlatch/deadlatchlaw05.BufPlays", spec := "bufPlays", apart := false }
def BufPlaysSaid : Prop := bufPlaysRow.holds Try.pinned (OpenSpec.ofChange bufPlaysSpec)

/-- ITS FALSE NEIGHBOUR: 'it returns false'. Refute it at one input. -/
def bufPlaysWrong : ChangeSpec := { name := "bufPlays", fn := fun _ => fun
  | [d1, d2, d3] => { results := [.lit (.bool false)], args := [d1, d2, d3] }
  | _ => none }
def BufPlaysWrongFalsely : Prop := bufPlaysRow.holds Try.pinned (OpenSpec.ofChange bufPlaysWrong)

/-- 'deadlatchlaw05.BufDrains': WHATEVER THE INPUT: true; the input reads as it did. -/
def bufDrainsSpec : ChangeSpec := { name := "bufDrains", fn := fun _ => fun
  | [d1, d2] => { results := [.lit (.bool true)], args := [d1, d2] }
  | _ => none }
def bufDrainsRow : OpenClaim := { program := "ytaanmamgmjhegaa", sum := "f5524edb2cc9d0996e587eea5c9bb70111e8a74ec3aa9561237f506f6cf77c8d", func := "deadlatch/deadlatchlaw05.BufDrains", spec := "bufDrains", apart := false }
def BufDrainsSaid : Prop := bufDrainsRow.holds Try.pinned (OpenSpec.ofChange bufDrainsSpec)

/-- ITS FALSE NEIGHBOUR: 'it returns false'. Refute it at one input. -/
def bufDrainsWrong : ChangeSpec := { name := "bufDrains", fn := fun _ => fun
  | [d1, d2] => { results := [.lit (.bool false)], args := [d1, d2] }
  | _ => none }
def BufDrainsWrongFalsely : Prop := bufDrainsRow.holds Try.pinned (OpenSpec.ofChange bufDrainsWrong)

/-- 'deadlatchlaw05.BufKeeps': WHATEVER THE INPUT: true; the input reads as it did. -/
def bufKeepsSpec : ChangeSpec := { name := "bufKeeps", fn := fun _ => fun
  | [d1, d2, d3] => { results := [.lit (.bool true)], args := [d1, d2, d3] }
  | _ => none }
def bufKeepsRow : OpenClaim := { program := "ytaanmamgmjhegaa", sum := "f5524edb2cc9d0996e587eea5c9bb70111e8a74ec3aa9561237f506f6cf77c8d", func := "deadlatch/deadlatchlaw05.BufKeeps", spec := "bufKeeps", apart := false }
def BufKeepsSaid : Prop := bufKeepsRow.holds Try.pinned (OpenSpec.ofChange bufKeepsSpec)

/-- ITS FALSE NEIGHBOUR: 'it returns false'. Refute it at one input. -/
def bufKeepsWrong : ChangeSpec := { name := "bufKeeps", fn := fun _ => fun
  | [d1, d2, d3] => { results := [.lit (.bool false)], args := [d1, d2, d3] }
  | _ => none }
def BufKeepsWrongFalsely : Prop := bufKeepsRow.holds Try.pinned (OpenSpec.ofChange bufKeepsWrong)

/-- 'deadlatchlaw06.KernOrder': WHATEVER THE INPUT: true; the input reads as it did. -/
def kernOrderSpec : ChangeSpec := { name := "kernOrder", fn := fun _ => fun
  | [d1, d2, d3] => { results := [.lit (.bool true)], args := [d1, d2, d3] }
  | _ => none }
def kernOrderRow : OpenClaim := { program := "ytaanmamgmjhegaa", sum := "f5524edb2cc9d0996e587eea5c9bb70111e8a74ec3aa9561237f506f6cf77c8d", func := "deadlatch/deadlatchlaw06.KernOrder", spec := "kernOrder", unfollowed := true, recurses := true, apart := false }
def KernOrderSaid : Prop := kernOrderRow.holds Try.pinned (OpenSpec.ofChange kernOrderSpec)

/-- ITS FALSE NEIGHBOUR: 'it returns false'. Refute it at one input. -/
def kernOrderWrong : ChangeSpec := { name := "kernOrder", fn := fun _ => fun
  | [d1, d2, d3] => { results := [.lit (.bool false)], args := [d1, d2, d3] }
  | _ => none }
def KernOrderWrongFalsely : Prop := kernOrderRow.holds Try.pinned (OpenSpec.ofChange kernOrderWrong)

/-- 'deadlatchlaw06.KernApart': WHATEVER THE INPUT: true; the input reads as it did. -/
def kernApartSpec : ChangeSpec := { name := "kernApart", fn := fun _ => fun
  | [d1, d2, d3] => { results := [.lit (.bool true)], args := [d1, d2, d3] }
  | _ => none }
def kernApartRow : OpenClaim := { program := "ytaanmamgmjhegaa", sum := "f5524edb2cc9d0996e587eea5c9bb70111e8a74ec3aa9561237f506f6cf77c8d", func := "deadlatch/deadlatchlaw06.KernApart", spec := "kernApart", unfollowed := true, recurses := true, apart := false }
def KernApartSaid : Prop := kernApartRow.holds Try.pinned (OpenSpec.ofChange kernApartSpec)

/-- ITS FALSE NEIGHBOUR: 'it returns false'. Refute it at one input. -/
def kernApartWrong : ChangeSpec := { name := "kernApart", fn := fun _ => fun
  | [d1, d2, d3] => { results := [.lit (.bool false)], args := [d1, d2, d3] }
  | _ => none }
def KernApartWrongFalsely : Prop := kernApartRow.holds Try.pinned (OpenSpec.ofChange kernApartWrong)

/-- 'deadlatchlaw06.KernPlays': WHATEVER THE INPUT: true; the input reads as it did. -/
def kernPlaysSpec : ChangeSpec := { name := "kernPlays", fn := fun _ => fun
  | [d1, d2] => { results := [.lit (.bool true)], args := [d1, d2] }
  | _ => none }
def kernPlaysRow : OpenClaim := { program := "ytaanmamgmjhegaa", sum := "f5524edb2cc9d0996e587eea5c9bb70111e8a74ec3aa9561237f506f6cf77c8d", func := "deadlatch/deadlatchlaw06.KernPlays", spec := "kernPlays", unfollowed := true, recurses := true, apart := false }
def KernPlaysSaid : Prop := kernPlaysRow.holds Try.pinned (OpenSpec.ofChange kernPlaysSpec)

/-- ITS FALSE NEIGHBOUR: 'it returns false'. Refute it at one input. -/
def kernPlaysWrong : ChangeSpec := { name := "kernPlays", fn := fun _ => fun
  | [d1, d2] => { results := [.lit (.bool false)], args := [d1, d2] }
  | _ => none }
def KernPlaysWrongFalsely : Prop := kernPlaysRow.holds Try.pinned (OpenSpec.ofChange kernPlaysWrong)

/-- 'deadlatchlaw06.KernRouses': WHATEVER THE INPUT: true; the input reads as it did. -/
def kernRousesSpec : ChangeSpec := { name := "kernRouses", fn := fun _ => fun
  | [d1, d2, d3] => { results := [.lit (.bool true)], args := [d1, d2, d3] }
  | _ => none }
def kernRousesRow : OpenClaim := { program := "ytaanmamgmjhegaa", sum := "f5524edb2cc9d0996e587eea5c9bb70111e8a74ec3aa9561237f506f6cf77c8d", func := "deadlatch/deadlatchlaw06.KernRouses", spec := "kernRouses", unfollowed := true, recurses := true, apart := false }
def KernRousesSaid : Prop := kernRousesRow.holds Try.pinned (OpenSpec.ofChange kernRousesSpec)

/-- ITS FALSE NEIGHBOUR: 'it returns false'. Refute it at one input. -/
def kernRousesWrong : ChangeSpec := { name := "kernRouses", fn := fun _ => fun
  | [d1, d2, d3] => { results := [.lit (.bool false)], args := [d1, d2, d3] }
  | _ => none }
def KernRousesWrongFalsely : Prop := kernRousesRow.holds Try.pinned (OpenSpec.ofChange kernRousesWrong)

/- THE SECOND FORM. 'bulk': how many values and letters a reading holds, each counted each time it is reached (what is shared counts as often as it is met; a slice's spare places count too). A statement '..UptoSaid' is the law's where the arguments, and the package variables that the reading takes, are together of bulk at most 1048576: NARROWER than '..Said'. Prove '..Said' where nothing that the law and all that it calls make is longer than what came in: it says more and counts as full. Else prove '..UptoSaid'. A law counts once. -/
mutual
def uptoBulk {H : Type} : DataW H → Nat
  | .lit (.string bytes) => bytes.length + 1
  | .lit _ => 1
  | .nil => 1
  | .ptr d => uptoBulk d + 1
  | .slice elems spare => uptoBulkAll elems + uptoBulkAll spare + 1
  | .agg parts => uptoBulkAll parts + 1
  | .iface _ d => uptoBulk d + 1
  | .map entries => uptoBulkEntries entries + 1
  | .held _ => 1
def uptoBulkAll {H : Type} : List (DataW H) → Nat
  | [] => 0
  | d :: r => uptoBulk d + uptoBulkAll r
def uptoBulkEntries {H : Type} : List (Lit × DataW H) → Nat
  | [] => 0
  | x :: r => uptoBulkEntry x + uptoBulkEntries r
def uptoBulkEntry {H : Type} : Lit × DataW H → Nat
  | (.string bytes, d) => bytes.length + uptoBulk d + 1
  | (_, d) => uptoBulk d + 1
 end
def uptoSmall : (H : Type) → List (DataW H) → Bool := fun _ ds => decide (uptoBulkAll ds ≤ 1048576)
def OpenSpec.upto (s : _root_.Go.ChangeSpec) : _root_.Go.OpenSpec := { _root_.Go.OpenSpec.ofChange s with cond := some uptoSmall }

/-- 'deadlatchlaw05.BufOrder', WHERE WHAT IT READS IS OF BULK AT MOST 1048576: true; the input reads as it did. -/
def bufOrderUptoRow : OpenClaim := { program := "ytaanmamgmjhegaa", sum := "f5524edb2cc9d0996e587eea5c9bb70111e8a74ec3aa9561237f506f6cf77c8d", func := "deadlatch/deadlatchlaw05.BufOrder", spec := "bufOrder", apart := false, narrowed := true }
def BufOrderUptoSaid : Prop := bufOrderUptoRow.holds Try.pinned (OpenSpec.upto bufOrderSpec)

/-- 'deadlatchlaw05.BufPlays', WHERE WHAT IT READS IS OF BULK AT MOST 1048576: true; the input reads as it did. -/
def bufPlaysUptoRow : OpenClaim := { program := "ytaanmamgmjhegaa", sum := "f5524edb2cc9d0996e587eea5c9bb70111e8a74ec3aa9561237f506f6cf77c8d", func := "deadlatch/deadlatchlaw05.BufPlays", spec := "bufPlays", apart := false, narrowed := true }
def BufPlaysUptoSaid : Prop := bufPlaysUptoRow.holds Try.pinned (OpenSpec.upto bufPlaysSpec)

/-- 'deadlatchlaw05.BufDrains', WHERE WHAT IT READS IS OF BULK AT MOST 1048576: true; the input reads as it did. -/
def bufDrainsUptoRow : OpenClaim := { program := "ytaanmamgmjhegaa", sum := "f5524edb2cc9d0996e587eea5c9bb70111e8a74ec3aa9561237f506f6cf77c8d", func := "deadlatch/deadlatchlaw05.BufDrains", spec := "bufDrains", apart := false, narrowed := true }
def BufDrainsUptoSaid : Prop := bufDrainsUptoRow.holds Try.pinned (OpenSpec.upto bufDrainsSpec)

/-- 'deadlatchlaw05.BufKeeps', WHERE WHAT IT READS IS OF BULK AT MOST 1048576: true; the input reads as it did. -/
def bufKeepsUptoRow : OpenClaim := { program := "ytaanmamgmjhegaa", sum := "f5524edb2cc9d0996e587eea5c9bb70111e8a74ec3aa9561237f506f6cf77c8d", func := "deadlatch/deadlatchlaw05.BufKeeps", spec := "bufKeeps", apart := false, narrowed := true }
def BufKeepsUptoSaid : Prop := bufKeepsUptoRow.holds Try.pinned (OpenSpec.upto bufKeepsSpec)

/-- 'deadlatchlaw06.KernOrder', WHERE WHAT IT READS IS OF BULK AT MOST 1048576: true; the input reads as it did. -/
def kernOrderUptoRow : OpenClaim := { program := "ytaanmamgmjhegaa", sum := "f5524edb2cc9d0996e587eea5c9bb70111e8a74ec3aa9561237f506f6cf77c8d", func := "deadlatch/deadlatchlaw06.KernOrder", spec := "kernOrder", unfollowed := true, recurses := true, apart := false, narrowed := true }
def KernOrderUptoSaid : Prop := kernOrderUptoRow.holds Try.pinned (OpenSpec.upto kernOrderSpec)

/-- 'deadlatchlaw06.KernApart', WHERE WHAT IT READS IS OF BULK AT MOST 1048576: true; the input reads as it did. -/
def kernApartUptoRow : OpenClaim := { program := "ytaanmamgmjhegaa", sum := "f5524edb2cc9d0996e587eea5c9bb70111e8a74ec3aa9561237f506f6cf77c8d", func := "deadlatch/deadlatchlaw06.KernApart", spec := "kernApart", unfollowed := true, recurses := true, apart := false, narrowed := true }
def KernApartUptoSaid : Prop := kernApartUptoRow.holds Try.pinned (OpenSpec.upto kernApartSpec)

/-- 'deadlatchlaw06.KernPlays', WHERE WHAT IT READS IS OF BULK AT MOST 1048576: true; the input reads as it did. -/
def kernPlaysUptoRow : OpenClaim := { program := "ytaanmamgmjhegaa", sum := "f5524edb2cc9d0996e587eea5c9bb70111e8a74ec3aa9561237f506f6cf77c8d", func := "deadlatch/deadlatchlaw06.KernPlays", spec := "kernPlays", unfollowed := true, recurses := true, apart := false, narrowed := true }
def KernPlaysUptoSaid : Prop := kernPlaysUptoRow.holds Try.pinned (OpenSpec.upto kernPlaysSpec)

/-- 'deadlatchlaw06.KernRouses', WHERE WHAT IT READS IS OF BULK AT MOST 1048576: true; the input reads as it did. -/
def kernRousesUptoRow : OpenClaim := { program := "ytaanmamgmjhegaa", sum := "f5524edb2cc9d0996e587eea5c9bb70111e8a74ec3aa9561237f506f6cf77c8d", func := "deadlatch/deadlatchlaw06.KernRouses", spec := "kernRouses", unfollowed := true, recurses := true, apart := false, narrowed := true }
def KernRousesUptoSaid : Prop := kernRousesUptoRow.holds Try.pinned (OpenSpec.upto kernRousesSpec)

end Rows
end Go.Proofs.Ytaanmamgmjhegaa

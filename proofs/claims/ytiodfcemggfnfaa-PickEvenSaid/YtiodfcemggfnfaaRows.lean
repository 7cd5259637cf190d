/-
  No cell of these rows narrows 'for every input' (looked for: loops, veiled, ifaces, maps, wideKeys, modest, calm, conditions, laid).
  DERIVED. THE GIVEN ROWS OF THIS SEAT. 6 by the template 'for every input the law returns true; each argument reads behind the call as it read before'; 0 by the template 'total and deterministic' (their statements: YtiodfcemggfnfaaTotals.lean).
  GIVEN WITH THE SEED: the statements are not yours to turn. If you find one false, say at which input.
  Laid BY PROGRAM, IN A SANDBOX (cutbox-rows.mjs): the forced cells as the released guide's own fill.sh prints them over the translation 8964bda46299e017… (all of the seat's roots in one cut). By AI agents, Wed Nov 11 2026. No macro, syntax, notation, axiom, sorry.
-/
import Derived.Test.YtiodfcemggfnfaaChecked
import GoSem.Claim
import GoSem.ClaimJoined
import GoSem.ClaimMapViews
import Derived.JoinedTies
import Derived.KernelRfl
namespace Go.Proofs.Ytiodfcemggfnfaa
/- THE CELL 'sum', in the pinned program and in every row, IS THE sha256 OF THE DUMP (.gsa) THAT YtiodfcemggfnfaaProg.lean LOADS. Nothing in Lean hashes anything: it is a label: what it is worth is what the hold of that sum in a sandbox is worth. -/
noncomputable def Try.pinned : Pinned := { name := "ytiodfcemggfnfaa", sum := "8964bda46299e017a5190fd5cd5f9cdc0a2d1b3a1a7c637463abdd08822a6e66", checked := Try.checked }
namespace Rows
def none {H : Type} : Left H := { results := [], args := [] }

/-- 'deadlatchlaw07.PickBytes': WHATEVER THE INPUT: true; the input reads as it did. -/
def pickBytesSpec : ChangeSpec := { name := "pickBytes", fn := fun _ => fun
  | [d1, d2] => { results := [.lit (.bool true)], args := [d1, d2] }
  | _ => none }
def pickBytesRow : OpenClaim := { program := "ytiodfcemggfnfaa", sum := "8964bda46299e017a5190fd5cd5f9cdc0a2d1b3a1a7c637463abdd08822a6e66", func := "deadlatch/deadlatchlaw07.PickBytes", spec := "pickBytes", apart := false }
def PickBytesSaid : Prop := pickBytesRow.holds Try.pinned (OpenSpec.ofChange pickBytesSpec)

/-- ITS FALSE NEIGHBOUR: 'it returns false'. Refute it at one input. -/
def pickBytesWrong : ChangeSpec := { name := "pickBytes", fn := fun _ => fun
  | [d1, d2] => { results := [.lit (.bool false)], args := [d1, d2] }
  | _ => none }
def PickBytesWrongFalsely : Prop := pickBytesRow.holds Try.pinned (OpenSpec.ofChange pickBytesWrong)

/-- 'deadlatchlaw07.PickReads': WHATEVER THE INPUT: true; the input reads as it did. -/
def pickReadsSpec : ChangeSpec := { name := "pickReads", fn := fun _ => fun
  | [d] => { results := [.lit (.bool true)], args := [d] }
  | _ => none }
def pickReadsRow : OpenClaim := { program := "ytiodfcemggfnfaa", sum := "8964bda46299e017a5190fd5cd5f9cdc0a2d1b3a1a7c637463abdd08822a6e66", func := "deadlatch/deadlatchlaw07.PickReads", spec := "pickReads", apart := false }
def PickReadsSaid : Prop := pickReadsRow.holds Try.pinned (OpenSpec.ofChange pickReadsSpec)

/-- ITS FALSE NEIGHBOUR: 'it returns false'. Refute it at one input. -/
def pickReadsWrong : ChangeSpec := { name := "pickReads", fn := fun _ => fun
  | [d] => { results := [.lit (.bool false)], args := [d] }
  | _ => none }
def PickReadsWrongFalsely : Prop := pickReadsRow.holds Try.pinned (OpenSpec.ofChange pickReadsWrong)

/-- 'deadlatchlaw07.PickFair': WHATEVER THE INPUT: true; the input reads as it did. -/
def pickFairSpec : ChangeSpec := { name := "pickFair", fn := fun _ => fun
  | [d1, d2, d3] => { results := [.lit (.bool true)], args := [d1, d2, d3] }
  | _ => none }
def pickFairRow : OpenClaim := { program := "ytiodfcemggfnfaa", sum := "8964bda46299e017a5190fd5cd5f9cdc0a2d1b3a1a7c637463abdd08822a6e66", func := "deadlatch/deadlatchlaw07.PickFair", spec := "pickFair", apart := false }
def PickFairSaid : Prop := pickFairRow.holds Try.pinned (OpenSpec.ofChange pickFairSpec)

/-- ITS FALSE NEIGHBOUR: 'it returns false'. Refute it at one input. -/
def pickFairWrong : ChangeSpec := { name := "pickFair", fn := fun _ => fun
  | [d1, d2, d3] => { results := [.lit (.bool false)], args := [d1, d2, d3] }
  | _ => none }
def PickFairWrongFalsely : Prop := pickFairRow.holds Try.pinned (OpenSpec.ofChange pickFairWrong)

/-- 'deadlatchlaw07.PickEven': WHATEVER THE INPUT: true; the input reads as it did. -/
def pickEvenSpec : ChangeSpec := { name := "pickEven", fn := fun _ => fun
  | [d1, d2, d3, d4] => { results := [.lit (.bool true)], args := [d1, d2, d3, d4] }
  | _ => none }
def pickEvenRow : OpenClaim := { program := "ytiodfcemggfnfaa", sum := "8964bda46299e017a5190fd5cd5f9cdc0a2d1b3a1a7c637463abdd08822a6e66", func := "deadlatch/deadlatchlaw07.PickEven", spec := "pickEven", unfollowed := true, recurses := true, apart := false }
def PickEvenSaid : Prop := pickEvenRow.holds Try.pinned (OpenSpec.ofChange pickEvenSpec)

/-- ITS FALSE NEIGHBOUR: 'it returns false'. Refute it at one input. -/
def pickEvenWrong : ChangeSpec := { name := "pickEven", fn := fun _ => fun
  | [d1, d2, d3, d4] => { results := [.lit (.bool false)], args := [d1, d2, d3, d4] }
  | _ => none }
def PickEvenWrongFalsely : Prop := pickEvenRow.holds Try.pinned (OpenSpec.ofChange pickEvenWrong)

/-- 'deadlatchlaw07.PickTrue': WHATEVER THE INPUT: true; the input reads as it did. -/
def pickTrueSpec : ChangeSpec := { name := "pickTrue", fn := fun _ => fun
  | [d1, d2, d3, d4] => { results := [.lit (.bool true)], args := [d1, d2, d3, d4] }
  | _ => none }
def pickTrueRow : OpenClaim := { program := "ytiodfcemggfnfaa", sum := "8964bda46299e017a5190fd5cd5f9cdc0a2d1b3a1a7c637463abdd08822a6e66", func := "deadlatch/deadlatchlaw07.PickTrue", spec := "pickTrue", unfollowed := true, recurses := true, apart := false }
def PickTrueSaid : Prop := pickTrueRow.holds Try.pinned (OpenSpec.ofChange pickTrueSpec)

/-- ITS FALSE NEIGHBOUR: 'it returns false'. Refute it at one input. -/
def pickTrueWrong : ChangeSpec := { name := "pickTrue", fn := fun _ => fun
  | [d1, d2, d3, d4] => { results := [.lit (.bool false)], args := [d1, d2, d3, d4] }
  | _ => none }
def PickTrueWrongFalsely : Prop := pickTrueRow.holds Try.pinned (OpenSpec.ofChange pickTrueWrong)

/-- 'deadlatchlaw07.PickWide': WHATEVER THE INPUT: true; the input reads as it did. -/
def pickWideSpec : ChangeSpec := { name := "pickWide", fn := fun _ => fun
  | [d1, d2, d3, d4, d5, d6] => { results := [.lit (.bool true)], args := [d1, d2, d3, d4, d5, d6] }
  | _ => none }
def pickWideRow : OpenClaim := { program := "ytiodfcemggfnfaa", sum := "8964bda46299e017a5190fd5cd5f9cdc0a2d1b3a1a7c637463abdd08822a6e66", func := "deadlatch/deadlatchlaw07.PickWide", spec := "pickWide", unfollowed := true, recurses := true, apart := false }
def PickWideSaid : Prop := pickWideRow.holds Try.pinned (OpenSpec.ofChange pickWideSpec)

/-- ITS FALSE NEIGHBOUR: 'it returns false'. Refute it at one input. -/
def pickWideWrong : ChangeSpec := { name := "pickWide", fn := fun _ => fun
  | [d1, d2, d3, d4, d5, d6] => { results := [.lit (.bool false)], args := [d1, d2, d3, d4, d5, d6] }
  | _ => none }
def PickWideWrongFalsely : Prop := pickWideRow.holds Try.pinned (OpenSpec.ofChange pickWideWrong)

/- THE SECOND FORM. 'bulk': how many values and letters a reading holds, each counted each time it is reached (what is shared counts as often as it is met; a slice's spare places count too). A statement '..UptoSaid' is the law's where the arguments, and the package variables that the reading takes, are together of bulk at most 1048576: NARROWER than '..Said'. Prove '..Said' where nothing that the law and all that it calls make is longer than what came in: it says more and counts as full. Else prove '..UptoSaid'. A law counts once. -/
mutual
def uptoBulk {H : Type} : DataW H → Nat
  | .lit (.string bytes) => bytes.length + 1
  | .lit _ => 1
  | .nil => 1
  | .ptr d => uptoBulk d + 1
  | .slice elems spare => uptoBulkAll elems + uptoBulkAll spare + 1
  | .agg parts => uptoBulkAll parts + 1
  | .iface _ d => uptoBulk d + 1
  | .map entries => uptoBulkEntries entries + 1
  | .held _ => 1
def uptoBulkAll {H : Type} : List (DataW H) → Nat
  | [] => 0
  | d :: r => uptoBulk d + uptoBulkAll r
def uptoBulkEntries {H : Type} : List (Lit × DataW H) → Nat
  | [] => 0
  | x :: r => uptoBulkEntry x + uptoBulkEntries r
def uptoBulkEntry {H : Type} : Lit × DataW H → Nat
  | (.string bytes, d) => bytes.length + uptoBulk d + 1
  | (_, d) => uptoBulk d + 1
 end
def uptoSmall : (H : Type) → List (DataW H) → Bool := fun _ ds => decide (uptoBulkAll ds ≤ 1048576)
def OpenSpec.upto (s : _root_.Go.ChangeSpec) : _root_.Go.OpenSpec := { _root_.Go.OpenSpec.ofChange s with cond := some uptoSmall }

/-- 'deadlatchlaw07.PickBytes', WHERE WHAT IT READS IS OF BULK AT MOST 1048576: true; the input reads as it did. -/
def pickBytesUptoRow : OpenClaim := { program := "ytiodfcemggfnfaa", sum := "8964bda46299e017a5190fd5cd5f9cdc0a2d1b3a1a7c637463abdd08822a6e66", func := "deadlatch/deadlatchlaw07.PickBytes", spec := "pickBytes", apart := false, narrowed := true }
def PickBytesUptoSaid : Prop := pickBytesUptoRow.holds Try.pinned (OpenSpec.upto pickBytesSpec)

/-- 'deadlatchlaw07.PickReads', WHERE WHAT IT READS IS OF BULK AT MOST 1048576: true; the input reads as it did. -/
def pickReadsUptoRow : OpenClaim := { program := "ytiodfcemggfnfaa", sum := "8964bda46299e017a5190fd5cd5f9cdc0a2d1b3a1a7c637463abdd08822a6e66", func := "deadlatch/deadlatchlaw07.PickReads", spec := "pickReads", apart := false, narrowed := true }
def PickReadsUptoSaid : Prop := pickReadsUptoRow.holds Try.pinned (OpenSpec.upto pickReadsSpec)

/-- 'deadlatchlaw07.PickFair', WHERE WHAT IT READS IS OF BULK AT MOST 1048576: true; the input reads as it did. -/
def pickFairUptoRow : OpenClaim := { program := "ytiodfcemggfnfaa", sum := "8964bda46299e017a5190fd5cd5f9cdc0a2d1b3a1a7c637463abdd08822a6e66", func := "deadlatch/deadlatchlaw07.PickFair", spec := "pickFair", apart := false, narrowed := true }
def PickFairUptoSaid : Prop := pickFairUptoRow.holds Try.pinned (OpenSpec.upto pickFairSpec)

/-- 'deadlatchlaw07.PickEven', WHERE WHAT IT READS IS OF BULK AT MOST 1048576: true; the input reads as it did. -/
def pickEvenUptoRow : OpenClaim := { program := "ytiodfcemggfnfaa", sum := "8964bda46299e017a5190fd5cd5f9cdc0a2d1b3a1a7c637463abdd08822a6e66", func := "deadlatch/deadlatchlaw07.PickEven", spec := "pickEven", unfollowed := true, recurses := true, apart := false, narrowed := true }
def PickEvenUptoSaid : Prop := pickEvenUptoRow.holds Try.pinned (OpenSpec.upto pickEvenSpec)

/-- 'deadlatchlaw07.PickTrue', WHERE WHAT IT READS IS OF BULK AT MOST 1048576: true; the input reads as it did. -/
def pickTrueUptoRow : OpenClaim := { program := "ytiodfcemggfnfaa", sum := "8964bda46299e017a5190fd5cd5f9cdc0a2d1b3a1a7c637463abdd08822a6e66", func := "deadlatch/deadlatchlaw07.PickTrue", spec := "pickTrue", unfollowed := true, recurses := true, apart := false, narrowed := true }
def PickTrueUptoSaid : Prop := pickTrueUptoRow.holds Try.pinned (OpenSpec.upto pickTrueSpec)

/-- 'deadlatchlaw07.PickWide', WHERE WHAT IT READS IS OF BULK AT MOST 1048576: true; the input reads as it did. -/
def pickWideUptoRow : OpenClaim := { program := "ytiodfcemggfnfaa", sum := "8964bda46299e017a5190fd5cd5f9cdc0a2d1b3a1a7c637463abdd08822a6e66", func := "deadlatch/deadlatchlaw07.PickWide", spec := "pickWide", unfollowed := true, recurses := true, apart := false, narrowed := true }
def PickWideUptoSaid : Prop := pickWideUptoRow.holds Try.pinned (OpenSpec.upto pickWideSpec)

end Rows
end Go.Proofs.Ytiodfcemggfnfaa

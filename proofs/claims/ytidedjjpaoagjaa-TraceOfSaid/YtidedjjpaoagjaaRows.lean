/-
  No cell of these rows narrows 'for every input' (looked for: loops, veiled, ifaces, maps, wideKeys, modest, calm, conditions, laid).
  DERIVED. THE GIVEN ROWS OF THIS SEAT. 5 by the template 'for every input the law returns true; each argument reads behind the call as it read before'; 0 by the template 'total and deterministic' (their statements: YtidedjjpaoagjaaTotals.lean).
  GIVEN WITH THE SEED: the statements are not yours to turn. If you find one false, say at which input.
  Laid BY PROGRAM, IN A SANDBOX (cutbox-rows.mjs): the forced cells as the released guide's own fill.sh prints them over the translation ec15bd87967073ae… (all of the seat's roots in one cut). By AI agents, Wed Nov 11 2026. No macro, syntax, notation, axiom, sorry.
-/
import Derived.Test.YtidedjjpaoagjaaChecked
import GoSem.Claim
import GoSem.ClaimJoined
import GoSem.ClaimMapViews
import Derived.JoinedTies
import Derived.KernelRfl
namespace Go.Proofs.Ytidedjjpaoagjaa
/- THE CELL 'sum', in the pinned program and in every row, IS THE sha256 OF THE DUMP (.gsa) THAT YtidedjjpaoagjaaProg.lean LOADS. Nothing in Lean hashes anything: it is a label: what it is worth is what the hold of that sum in a sandbox is worth. -/
noncomputable def Try.pinned : Pinned := { name := "ytidedjjpaoagjaa", sum := "ec15bd87967073aee8682dc598188183f6e4b4fa6bde9172aabd42c818675c2d", checked := Try.checked }
namespace Rows
def none {H : Type} : Left H := { results := [], args := [] }

/-- 'deadlatchlaw11.TraceOf': WHATEVER THE INPUT: true; the input reads as it did. -/
def traceOfSpec : ChangeSpec := { name := "traceOf", fn := fun _ => fun
  | [d1, d2, d3] => { results := [.lit (.bool true)], args := [d1, d2, d3] }
  | _ => none }
def traceOfRow : OpenClaim := { program := "ytidedjjpaoagjaa", sum := "ec15bd87967073aee8682dc598188183f6e4b4fa6bde9172aabd42c818675c2d", func := "deadlatch/deadlatchlaw11.TraceOf", spec := "traceOf", unfollowed := true, recurses := true, apart := false }
def TraceOfSaid : Prop := traceOfRow.holds Try.pinned (OpenSpec.ofChange traceOfSpec)

/-- ITS FALSE NEIGHBOUR: 'it returns false'. Refute it at one input. -/
def traceOfWrong : ChangeSpec := { name := "traceOf", fn := fun _ => fun
  | [d1, d2, d3] => { results := [.lit (.bool false)], args := [d1, d2, d3] }
  | _ => none }
def TraceOfWrongFalsely : Prop := traceOfRow.holds Try.pinned (OpenSpec.ofChange traceOfWrong)

/-- 'deadlatchlaw11.TraceCalls': WHATEVER THE INPUT: true; the input reads as it did. -/
def traceCallsSpec : ChangeSpec := { name := "traceCalls", fn := fun _ => fun
  | [d] => { results := [.lit (.bool true)], args := [d] }
  | _ => none }
def traceCallsRow : OpenClaim := { program := "ytidedjjpaoagjaa", sum := "ec15bd87967073aee8682dc598188183f6e4b4fa6bde9172aabd42c818675c2d", func := "deadlatch/deadlatchlaw11.TraceCalls", spec := "traceCalls", unfollowed := true, recurses := true, apart := false }
def TraceCallsSaid : Prop := traceCallsRow.holds Try.pinned (OpenSpec.ofChange traceCallsSpec)

/-- ITS FALSE NEIGHBOUR: 'it returns false'. Refute it at one input. -/
def traceCallsWrong : ChangeSpec := { name := "traceCalls", fn := fun _ => fun
  | [d] => { results := [.lit (.bool false)], args := [d] }
  | _ => none }
def TraceCallsWrongFalsely : Prop := traceCallsRow.holds Try.pinned (OpenSpec.ofChange traceCallsWrong)

/-- 'deadlatchlaw11.TraceApart': WHATEVER THE INPUT: true; the input reads as it did. -/
def traceApartSpec : ChangeSpec := { name := "traceApart", fn := fun _ => fun
  | [d] => { results := [.lit (.bool true)], args := [d] }
  | _ => none }
def traceApartRow : OpenClaim := { program := "ytidedjjpaoagjaa", sum := "ec15bd87967073aee8682dc598188183f6e4b4fa6bde9172aabd42c818675c2d", func := "deadlatch/deadlatchlaw11.TraceApart", spec := "traceApart", unfollowed := true, recurses := true, apart := false }
def TraceApartSaid : Prop := traceApartRow.holds Try.pinned (OpenSpec.ofChange traceApartSpec)

/-- ITS FALSE NEIGHBOUR: 'it returns false'. Refute it at one input. -/
def traceApartWrong : ChangeSpec := { name := "traceApart", fn := fun _ => fun
  | [d] => { results := [.lit (.bool false)], args := [d] }
  | _ => none }
def TraceApartWrongFalsely : Prop := traceApartRow.holds Try.pinned (OpenSpec.ofChange traceApartWrong)

/-- 'deadlatchlaw11.TraceJoins': WHATEVER THE INPUT: true; the input reads as it did. -/
def traceJoinsSpec : ChangeSpec := { name := "traceJoins", fn := fun _ => fun
  | [d1, d2, d3] => { results := [.lit (.bool true)], args := [d1, d2, d3] }
  | _ => none }
def traceJoinsRow : OpenClaim := { program := "ytidedjjpaoagjaa", sum := "ec15bd87967073aee8682dc598188183f6e4b4fa6bde9172aabd42c818675c2d", func := "deadlatch/deadlatchlaw11.TraceJoins", spec := "traceJoins", unfollowed := true, recurses := true, apart := false }
def TraceJoinsSaid : Prop := traceJoinsRow.holds Try.pinned (OpenSpec.ofChange traceJoinsSpec)

/-- ITS FALSE NEIGHBOUR: 'it returns false'. Refute it at one input. -/
def traceJoinsWrong : ChangeSpec := { name := "traceJoins", fn := fun _ => fun
  | [d1, d2, d3] => { results := [.lit (.bool false)], args := [d1, d2, d3] }
  | _ => none }
def TraceJoinsWrongFalsely : Prop := traceJoinsRow.holds Try.pinned (OpenSpec.ofChange traceJoinsWrong)

/-- 'deadlatchlaw11.TraceOuts': WHATEVER THE INPUT: true; the input reads as it did. -/
def traceOutsSpec : ChangeSpec := { name := "traceOuts", fn := fun _ => fun
  | [d1, d2, d3] => { results := [.lit (.bool true)], args := [d1, d2, d3] }
  | _ => none }
def traceOutsRow : OpenClaim := { program := "ytidedjjpaoagjaa", sum := "ec15bd87967073aee8682dc598188183f6e4b4fa6bde9172aabd42c818675c2d", func := "deadlatch/deadlatchlaw11.TraceOuts", spec := "traceOuts", unfollowed := true, recurses := true, apart := false }
def TraceOutsSaid : Prop := traceOutsRow.holds Try.pinned (OpenSpec.ofChange traceOutsSpec)

/-- ITS FALSE NEIGHBOUR: 'it returns false'. Refute it at one input. -/
def traceOutsWrong : ChangeSpec := { name := "traceOuts", fn := fun _ => fun
  | [d1, d2, d3] => { results := [.lit (.bool false)], args := [d1, d2, d3] }
  | _ => none }
def TraceOutsWrongFalsely : Prop := traceOutsRow.holds Try.pinned (OpenSpec.ofChange traceOutsWrong)

/- THE SECOND FORM. 'bulk': how many values and letters a reading holds, each counted each time it is reached (what is shared counts as often as it is met; a slice's spare places count too). A statement '..UptoSaid' is the law's where the arguments, and the package variables that the reading takes, are together of bulk at most 1048576: NARROWER than '..Said'. Prove '..Said' where nothing that the law and all that it calls make is longer than what came in: it says more and counts as full. Else prove '..UptoSaid'. A law counts once. -/
mutual
def uptoBulk {H : Type} : DataW H → Nat
  | .lit (.string bytes) => bytes.length + 1
  | .lit _ => 1
  | .nil => 1
  | .ptr d => uptoBulk d + 1
  | .slice elems spare => uptoBulkAll elems + uptoBulkAll spare + 1
  | .agg parts => uptoBulkAll parts + 1
  | .iface _ d => uptoBulk d + 1
  | .map entries => uptoBulkEntries entries + 1
  | .held _ => 1
def uptoBulkAll {H : Type} : List (DataW H) → Nat
  | [] => 0
  | d :: r => uptoBulk d + uptoBulkAll r
def uptoBulkEntries {H : Type} : List (Lit × DataW H) → Nat
  | [] => 0
  | x :: r => uptoBulkEntry x + uptoBulkEntries r
def uptoBulkEntry {H : Type} : Lit × DataW H → Nat
  | (.string bytes, d) => bytes.length + uptoBulk d + 1
  | (_, d) => uptoBulk d + 1
 end
def uptoSmall : (H : Type) → List (DataW H) → Bool := fun _ ds => decide (uptoBulkAll ds ≤ 1048576)
def OpenSpec.upto (s : _root_.Go.ChangeSpec) : _root_.Go.OpenSpec := { _root_.Go.OpenSpec.ofChange s with cond := some uptoSmall }

/-- 'deadlatchlaw11.TraceOf', WHERE WHAT IT READS IS OF BULK AT MOST 1048576: true; the input reads as it did. -/
def traceOfUptoRow : OpenClaim := { program := "ytidedjjpaoagjaa", sum := "ec15bd87967073aee8682dc598188183f6e4b4fa6bde9172aabd42c818675c2d", func := "deadlatch/deadlatchlaw11.TraceOf", spec := "traceOf", unfollowed := true, recurses := true, apart := false, narrowed := true }
def TraceOfUptoSaid : Prop := traceOfUptoRow.holds Try.pinned (OpenSpec.upto traceOfSpec)

/-- 'deadlatchlaw11.TraceCalls', WHERE WHAT IT READS IS OF BULK AT MOST 1048576: true; the input reads as it did. -/
def traceCallsUptoRow : OpenClaim := { program := "ytidedjjpaoagjaa", sum := "ec15bd87967073aee8682dc598188183f6e4b4fa6bde9172aabd42c818675c2d", func := "deadlatch/deadlatchlaw11.TraceCalls", spec := "traceCalls", unfollowed := true, recurses := true, apart := false, narrowed := true }
def TraceCallsUptoSaid : Prop := traceCallsUptoRow.holds Try.pinned (OpenSpec.upto traceCallsSpec)

/-- 'deadlatchlaw11.TraceApart', WHERE WHAT IT READS IS OF BULK AT MOST 1048576: true; the input reads as it did. -/
def traceApartUptoRow : OpenClaim := { program := "ytidedjjpaoagjaa", sum := "ec15bd87967073aee8682dc598188183f6e4b4fa6bde9172aabd42c818675c2d", func := "deadlatch/deadlatchlaw11.TraceApart", spec := "traceApart", unfollowed := true, recurses := true, apart := false, narrowed := true }
def TraceApartUptoSaid : Prop := traceApartUptoRow.holds Try.pinned (OpenSpec.upto traceApartSpec)

/-- 'deadlatchlaw11.TraceJoins', WHERE WHAT IT READS IS OF BULK AT MOST 1048576: true; the input reads as it did. -/
def traceJoinsUptoRow : OpenClaim := { program := "ytidedjjpaoagjaa", sum := "ec15bd87967073aee8682dc598188183f6e4b4fa6bde9172aabd42c818675c2d", func := "deadlatch/deadlatchlaw11.TraceJoins", spec := "traceJoins", unfollowed := true, recurses := true, apart := false, narrowed := true }
def TraceJoinsUptoSaid : Prop := traceJoinsUptoRow.holds Try.pinned (OpenSpec.upto traceJoinsSpec)

/-- 'deadlatchlaw11.TraceOuts', WHERE WHAT IT READS IS OF BULK AT MOST 1048576: true; the input reads as it did. -/
def traceOutsUptoRow : OpenClaim := { program := "ytidedjjpaoagjaa", sum := "ec15bd87967073aee8682dc598188183f6e4b4fa6bde9172aabd42c818675c2d", func := "deadlatch/deadlatchlaw11.TraceOuts", spec := "traceOuts", unfollowed := true, recurses := true, apart := false, narrowed := true }
def TraceOutsUptoSaid : Prop := traceOutsUptoRow.holds Try.pinned (OpenSpec.upto traceOutsSpec)

end Rows
end Go.Proofs.Ytidedjjpaoagjaa

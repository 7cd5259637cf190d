/-
  NARROWER THAN 'FOR EVERY INPUT', by the rows' own cells (each row's printed sentence says how): IsaRights: laid · IsaNames: laid · IsaChecks: laid · IsaMoves: laid · CodeWrites: laid · CodeReads: laid · CodeBack: laid · CodeAgain: laid.
  DERIVED. THE GIVEN ROWS OF THIS SEAT. 8 by the template 'for every input the law returns true; each argument reads behind the call as it read before'; 0 by the template 'total and deterministic' (their statements: YtlmhifnanhkcnaaDoorTotals.lean).
  GIVEN WITH THE SEED: the statements are not yours to turn. If you find one false, say at which input.
  Laid BY PROGRAM, IN A SANDBOX (cutbox-rows.mjs): the forced cells as the released guide's own fill.sh prints them over the translation 39edf00184800d0c… (all of the seat's roots in one cut). By AI agents, Wed Nov 11 2026. No macro, syntax, notation, axiom, sorry.
-/
import Derived.Test.YtlmhifnanhkcnaaDoorChecked
import GoSem.Claim
import GoSem.ClaimJoined
import GoSem.ClaimMapViews
import Derived.JoinedTies
import Derived.KernelRfl
namespace Go.Proofs.YtlmhifnanhkcnaaDoor
/- THE CELL 'sum', in the pinned program and in every row, IS THE sha256 OF THE DUMP (.gsa) THAT YtlmhifnanhkcnaaDoorProg.lean LOADS. Nothing in Lean hashes anything: it is a label: what it is worth is what the hold of that sum in a sandbox is worth. -/
noncomputable def Tryd.pinned : Pinned := { name := "ytlmhifnanhkcnaadoor", sum := "39edf00184800d0c6a317e873d3dfd683ec4b087bea552a8282e212307577a79", checked := Tryd.checked }
namespace Rows
def none {H : Type} : Left H := { results := [], args := [] }

/- WHAT THE LISTED PACKAGE-LEVEL VARIABLES READ AS WHEN THE CALL BEGINS. Each datum BY PROGRAM (the guide's laid-datum.mjs) off the statement by which the dump's own 'gosem.cut.vars' lays the variable. In a bare row this is a premise. The card (YtlmhifnanhkcnaaDoorCards.lean) ties it to the program's text. -/
def laid_deadlatch_isa_uses {H : Type} : DataW H := .agg [.lit (.int .i64 0), .lit (.int .i64 17), .lit (.int .i64 3), .lit (.int .i64 7), .lit (.int .i64 7), .lit (.int .i64 7), .lit (.int .i64 7), .lit (.int .i64 7), .lit (.int .i64 7), .lit (.int .i64 7), .lit (.int .i64 7), .lit (.int .i64 7), .lit (.int .i64 7), .lit (.int .i64 32), .lit (.int .i64 33), .lit (.int .i64 33), .lit (.int .i64 25), .lit (.int .i64 25), .lit (.int .i64 0), .lit (.int .i64 25), .lit (.int .i64 25), .lit (.int .i64 29), .lit (.int .i64 1), .lit (.int .i64 25), .lit (.int .i64 25), .lit (.int .i64 0), .lit (.int .i64 0), .lit (.int .i64 17)]
def laid_deadlatch_isa_names {H : Type} : DataW H := .agg [.lit (.string [104, 97, 108, 116]), .lit (.string [115, 101, 116]), .lit (.string [109, 111, 118, 101]), .lit (.string [97, 100, 100]), .lit (.string [115, 117, 98]), .lit (.string [109, 117, 108]), .lit (.string [97, 110, 100]), .lit (.string [111, 114]), .lit (.string [120, 111, 114]), .lit (.string [115, 104, 108]), .lit (.string [115, 104, 114]), .lit (.string [108, 101, 115, 115]), .lit (.string [115, 97, 109, 101]), .lit (.string [106, 117, 109, 112]), .lit (.string [122, 101, 114, 111]), .lit (.string [115, 111, 109, 101]), .lit (.string [108, 111, 97, 100]), .lit (.string [115, 116, 111, 114, 101]), .lit (.string [102, 101, 110, 99, 101]), .lit (.string [115, 119, 97, 112]), .lit (.string [102, 101, 116, 99, 104]), .lit (.string [99, 97, 115]), .lit (.string [111, 117, 116]), .lit (.string [119, 97, 105, 116]), .lit (.string [119, 97, 107, 101]), .lit (.string [114, 101, 109, 111, 116, 101]), .lit (.string [121, 105, 101, 108, 100]), .lit (.string [109, 97, 114, 107])]

/-- 'deadlatchlaw02.IsaRights': WHATEVER THE INPUT: true; the input reads as it did. -/
def isaRightsSpec : ChangeSpec := { name := "isaRights", fn := fun _ => fun
  | [d1, d2] => { results := [.lit (.bool true)], args := [d1, d2] }
  | _ => none }
def isaRightsRow : OpenClaim := { program := "ytlmhifnanhkcnaadoor", sum := "39edf00184800d0c6a317e873d3dfd683ec4b087bea552a8282e212307577a79", func := "deadlatch/deadlatchlaw02.IsaRights", spec := "isaRights", named := ["deadlatch/isa.uses", "deadlatch/isa.names"], apart := false, laid := [("deadlatch/isa.uses", laid_deadlatch_isa_uses), ("deadlatch/isa.names", laid_deadlatch_isa_names)] }
def IsaRightsSaid : Prop := isaRightsRow.holds Tryd.pinned (OpenSpec.ofChange isaRightsSpec)

/-- ITS FALSE NEIGHBOUR: 'it returns false'. Refute it at one input. -/
def isaRightsWrong : ChangeSpec := { name := "isaRights", fn := fun _ => fun
  | [d1, d2] => { results := [.lit (.bool false)], args := [d1, d2] }
  | _ => none }
def IsaRightsWrongFalsely : Prop := isaRightsRow.holds Tryd.pinned (OpenSpec.ofChange isaRightsWrong)

/-- 'deadlatchlaw02.IsaNames': WHATEVER THE INPUT: true; the input reads as it did. -/
def isaNamesSpec : ChangeSpec := { name := "isaNames", fn := fun _ => fun
  | [d1, d2] => { results := [.lit (.bool true)], args := [d1, d2] }
  | _ => none }
def isaNamesRow : OpenClaim := { program := "ytlmhifnanhkcnaadoor", sum := "39edf00184800d0c6a317e873d3dfd683ec4b087bea552a8282e212307577a79", func := "deadlatch/deadlatchlaw02.IsaNames", spec := "isaNames", named := ["deadlatch/isa.uses", "deadlatch/isa.names"], apart := false, laid := [("deadlatch/isa.uses", laid_deadlatch_isa_uses), ("deadlatch/isa.names", laid_deadlatch_isa_names)] }
def IsaNamesSaid : Prop := isaNamesRow.holds Tryd.pinned (OpenSpec.ofChange isaNamesSpec)

/-- ITS FALSE NEIGHBOUR: 'it returns false'. Refute it at one input. -/
def isaNamesWrong : ChangeSpec := { name := "isaNames", fn := fun _ => fun
  | [d1, d2] => { results := [.lit (.bool false)], args := [d1, d2] }
  | _ => none }
def IsaNamesWrongFalsely : Prop := isaNamesRow.holds Tryd.pinned (OpenSpec.ofChange isaNamesWrong)

/-- 'deadlatchlaw02.IsaChecks': WHATEVER THE INPUT: true; the input reads as it did. -/
def isaChecksSpec : ChangeSpec := { name := "isaChecks", fn := fun _ => fun
  | [d] => { results := [.lit (.bool true)], args := [d] }
  | _ => none }
def isaChecksRow : OpenClaim := { program := "ytlmhifnanhkcnaadoor", sum := "39edf00184800d0c6a317e873d3dfd683ec4b087bea552a8282e212307577a79", func := "deadlatch/deadlatchlaw02.IsaChecks", spec := "isaChecks", named := ["deadlatch/isa.uses", "deadlatch/isa.names"], apart := false, laid := [("deadlatch/isa.uses", laid_deadlatch_isa_uses), ("deadlatch/isa.names", laid_deadlatch_isa_names)] }
def IsaChecksSaid : Prop := isaChecksRow.holds Tryd.pinned (OpenSpec.ofChange isaChecksSpec)

/-- ITS FALSE NEIGHBOUR: 'it returns false'. Refute it at one input. -/
def isaChecksWrong : ChangeSpec := { name := "isaChecks", fn := fun _ => fun
  | [d] => { results := [.lit (.bool false)], args := [d] }
  | _ => none }
def IsaChecksWrongFalsely : Prop := isaChecksRow.holds Tryd.pinned (OpenSpec.ofChange isaChecksWrong)

/-- 'deadlatchlaw02.IsaMoves': WHATEVER THE INPUT: true; the input reads as it did. -/
def isaMovesSpec : ChangeSpec := { name := "isaMoves", fn := fun _ => fun
  | [d1, d2] => { results := [.lit (.bool true)], args := [d1, d2] }
  | _ => none }
def isaMovesRow : OpenClaim := { program := "ytlmhifnanhkcnaadoor", sum := "39edf00184800d0c6a317e873d3dfd683ec4b087bea552a8282e212307577a79", func := "deadlatch/deadlatchlaw02.IsaMoves", spec := "isaMoves", unfollowed := true, recurses := true, named := ["deadlatch/isa.uses", "deadlatch/isa.names"], apart := false, laid := [("deadlatch/isa.uses", laid_deadlatch_isa_uses), ("deadlatch/isa.names", laid_deadlatch_isa_names)] }
def IsaMovesSaid : Prop := isaMovesRow.holds Tryd.pinned (OpenSpec.ofChange isaMovesSpec)

/-- ITS FALSE NEIGHBOUR: 'it returns false'. Refute it at one input. -/
def isaMovesWrong : ChangeSpec := { name := "isaMoves", fn := fun _ => fun
  | [d1, d2] => { results := [.lit (.bool false)], args := [d1, d2] }
  | _ => none }
def IsaMovesWrongFalsely : Prop := isaMovesRow.holds Tryd.pinned (OpenSpec.ofChange isaMovesWrong)

/-- 'deadlatchlaw03.CodeWrites': WHATEVER THE INPUT: true; the input reads as it did. -/
def codeWritesSpec : ChangeSpec := { name := "codeWrites", fn := fun _ => fun
  | [d] => { results := [.lit (.bool true)], args := [d] }
  | _ => none }
def codeWritesRow : OpenClaim := { program := "ytlmhifnanhkcnaadoor", sum := "39edf00184800d0c6a317e873d3dfd683ec4b087bea552a8282e212307577a79", func := "deadlatch/deadlatchlaw03.CodeWrites", spec := "codeWrites", named := ["deadlatch/isa.uses", "deadlatch/isa.names"], apart := false, laid := [("deadlatch/isa.uses", laid_deadlatch_isa_uses), ("deadlatch/isa.names", laid_deadlatch_isa_names)] }
def CodeWritesSaid : Prop := codeWritesRow.holds Tryd.pinned (OpenSpec.ofChange codeWritesSpec)

/-- ITS FALSE NEIGHBOUR: 'it returns false'. Refute it at one input. -/
def codeWritesWrong : ChangeSpec := { name := "codeWrites", fn := fun _ => fun
  | [d] => { results := [.lit (.bool false)], args := [d] }
  | _ => none }
def CodeWritesWrongFalsely : Prop := codeWritesRow.holds Tryd.pinned (OpenSpec.ofChange codeWritesWrong)

/-- 'deadlatchlaw03.CodeReads': WHATEVER THE INPUT: true; the input reads as it did. -/
def codeReadsSpec : ChangeSpec := { name := "codeReads", fn := fun _ => fun
  | [d] => { results := [.lit (.bool true)], args := [d] }
  | _ => none }
def codeReadsRow : OpenClaim := { program := "ytlmhifnanhkcnaadoor", sum := "39edf00184800d0c6a317e873d3dfd683ec4b087bea552a8282e212307577a79", func := "deadlatch/deadlatchlaw03.CodeReads", spec := "codeReads", named := ["deadlatch/isa.uses", "deadlatch/isa.names"], apart := false, laid := [("deadlatch/isa.uses", laid_deadlatch_isa_uses), ("deadlatch/isa.names", laid_deadlatch_isa_names)] }
def CodeReadsSaid : Prop := codeReadsRow.holds Tryd.pinned (OpenSpec.ofChange codeReadsSpec)

/-- ITS FALSE NEIGHBOUR: 'it returns false'. Refute it at one input. -/
def codeReadsWrong : ChangeSpec := { name := "codeReads", fn := fun _ => fun
  | [d] => { results := [.lit (.bool false)], args := [d] }
  | _ => none }
def CodeReadsWrongFalsely : Prop := codeReadsRow.holds Tryd.pinned (OpenSpec.ofChange codeReadsWrong)

/-- 'deadlatchlaw03.CodeBack': WHATEVER THE INPUT: true; the input reads as it did. -/
def codeBackSpec : ChangeSpec := { name := "codeBack", fn := fun _ => fun
  | [d1, d2, d3] => { results := [.lit (.bool true)], args := [d1, d2, d3] }
  | _ => none }
def codeBackRow : OpenClaim := { program := "ytlmhifnanhkcnaadoor", sum := "39edf00184800d0c6a317e873d3dfd683ec4b087bea552a8282e212307577a79", func := "deadlatch/deadlatchlaw03.CodeBack", spec := "codeBack", named := ["deadlatch/isa.uses", "deadlatch/isa.names"], apart := false, laid := [("deadlatch/isa.uses", laid_deadlatch_isa_uses), ("deadlatch/isa.names", laid_deadlatch_isa_names)] }
def CodeBackSaid : Prop := codeBackRow.holds Tryd.pinned (OpenSpec.ofChange codeBackSpec)

/-- ITS FALSE NEIGHBOUR: 'it returns false'. Refute it at one input. -/
def codeBackWrong : ChangeSpec := { name := "codeBack", fn := fun _ => fun
  | [d1, d2, d3] => { results := [.lit (.bool false)], args := [d1, d2, d3] }
  | _ => none }
def CodeBackWrongFalsely : Prop := codeBackRow.holds Tryd.pinned (OpenSpec.ofChange codeBackWrong)

/-- 'deadlatchlaw03.CodeAgain': WHATEVER THE INPUT: true; the input reads as it did. -/
def codeAgainSpec : ChangeSpec := { name := "codeAgain", fn := fun _ => fun
  | [d] => { results := [.lit (.bool true)], args := [d] }
  | _ => none }
def codeAgainRow : OpenClaim := { program := "ytlmhifnanhkcnaadoor", sum := "39edf00184800d0c6a317e873d3dfd683ec4b087bea552a8282e212307577a79", func := "deadlatch/deadlatchlaw03.CodeAgain", spec := "codeAgain", named := ["deadlatch/isa.uses", "deadlatch/isa.names"], apart := false, laid := [("deadlatch/isa.uses", laid_deadlatch_isa_uses), ("deadlatch/isa.names", laid_deadlatch_isa_names)] }
def CodeAgainSaid : Prop := codeAgainRow.holds Tryd.pinned (OpenSpec.ofChange codeAgainSpec)

/-- ITS FALSE NEIGHBOUR: 'it returns false'. Refute it at one input. -/
def codeAgainWrong : ChangeSpec := { name := "codeAgain", fn := fun _ => fun
  | [d] => { results := [.lit (.bool false)], args := [d] }
  | _ => none }
def CodeAgainWrongFalsely : Prop := codeAgainRow.holds Tryd.pinned (OpenSpec.ofChange codeAgainWrong)

/- THE SECOND FORM. 'bulk': how many values and letters a reading holds, each counted each time it is reached (what is shared counts as often as it is met; a slice's spare places count too). A statement '..UptoSaid' is the law's where the arguments, and the package variables that the reading takes, are together of bulk at most 1048576: NARROWER than '..Said'. Prove '..Said' where nothing that the law and all that it calls make is longer than what came in: it says more and counts as full. Else prove '..UptoSaid'. A law counts once. -/
mutual
def uptoBulk {H : Type} : DataW H → Nat
  | .lit (.string bytes) => bytes.length + 1
  | .lit _ => 1
  | .nil => 1
  | .ptr d => uptoBulk d + 1
  | .slice elems spare => uptoBulkAll elems + uptoBulkAll spare + 1
  | .agg parts => uptoBulkAll parts + 1
  | .iface _ d => uptoBulk d + 1
  | .map entries => uptoBulkEntries entries + 1
  | .held _ => 1
def uptoBulkAll {H : Type} : List (DataW H) → Nat
  | [] => 0
  | d :: r => uptoBulk d + uptoBulkAll r
def uptoBulkEntries {H : Type} : List (Lit × DataW H) → Nat
  | [] => 0
  | x :: r => uptoBulkEntry x + uptoBulkEntries r
def uptoBulkEntry {H : Type} : Lit × DataW H → Nat
  | (.string bytes, d) => bytes.length + uptoBulk d + 1
  | (_, d) => uptoBulk d + 1
 end
def uptoSmall : (H : Type) → List (DataW H) → Bool := fun _ ds => decide (uptoBulkAll ds ≤ 1048576)
def OpenSpec.upto (s : _root_.Go.ChangeSpec) : _root_.Go.OpenSpec := { _root_.Go.OpenSpec.ofChange s with cond := some uptoSmall }

/-- 'deadlatchlaw02.IsaRights', WHERE WHAT IT READS IS OF BULK AT MOST 1048576: true; the input reads as it did. -/
def isaRightsUptoRow : OpenClaim := { program := "ytlmhifnanhkcnaadoor", sum := "39edf00184800d0c6a317e873d3dfd683ec4b087bea552a8282e212307577a79", func := "deadlatch/deadlatchlaw02.IsaRights", spec := "isaRights", named := ["deadlatch/isa.uses", "deadlatch/isa.names"], apart := false, laid := [("deadlatch/isa.uses", laid_deadlatch_isa_uses), ("deadlatch/isa.names", laid_deadlatch_isa_names)], narrowed := true }
def IsaRightsUptoSaid : Prop := isaRightsUptoRow.holds Tryd.pinned (OpenSpec.upto isaRightsSpec)

/-- 'deadlatchlaw02.IsaNames', WHERE WHAT IT READS IS OF BULK AT MOST 1048576: true; the input reads as it did. -/
def isaNamesUptoRow : OpenClaim := { program := "ytlmhifnanhkcnaadoor", sum := "39edf00184800d0c6a317e873d3dfd683ec4b087bea552a8282e212307577a79", func := "deadlatch/deadlatchlaw02.IsaNames", spec := "isaNames", named := ["deadlatch/isa.uses", "deadlatch/isa.names"], apart := false, laid := [("deadlatch/isa.uses", laid_deadlatch_isa_uses), ("deadlatch/isa.names", laid_deadlatch_isa_names)], narrowed := true }
def IsaNamesUptoSaid : Prop := isaNamesUptoRow.holds Tryd.pinned (OpenSpec.upto isaNamesSpec)

/-- 'deadlatchlaw02.IsaChecks', WHERE WHAT IT READS IS OF BULK AT MOST 1048576: true; the input reads as it did. -/
def isaChecksUptoRow : OpenClaim := { program := "ytlmhifnanhkcnaadoor", sum := "39edf00184800d0c6a317e873d3dfd683ec4b087bea552a8282e212307577a79", func := "deadlatch/deadlatchlaw02.IsaChecks", spec := "isaChecks", named := ["deadlatch/isa.uses", "deadlatch/isa.names"], apart := false, laid := [("deadlatch/isa.uses", laid_deadlatch_isa_uses), ("deadlatch/isa.names", laid_deadlatch_isa_names)], narrowed := true }
def IsaChecksUptoSaid : Prop := isaChecksUptoRow.holds Tryd.pinned (OpenSpec.upto isaChecksSpec)

/-- 'deadlatchlaw02.IsaMoves', WHERE WHAT IT READS IS OF BULK AT MOST 1048576: true; the input reads as it did. -/
def isaMovesUptoRow : OpenClaim := { program := "ytlmhifnanhkcnaadoor", sum := "39edf00184800d0c6a317e873d3dfd683ec4b087bea552a8282e212307577a79", func := "deadlatch/deadlatchlaw02.IsaMoves", spec := "isaMoves", unfollowed := true, recurses := true, named := ["deadlatch/isa.uses", "deadlatch/isa.names"], apart := false, laid := [("deadlatch/isa.uses", laid_deadlatch_isa_uses), ("deadlatch/isa.names", laid_deadlatch_isa_names)], narrowed := true }
def IsaMovesUptoSaid : Prop := isaMovesUptoRow.holds Tryd.pinned (OpenSpec.upto isaMovesSpec)

/-- 'deadlatchlaw03.CodeWrites', WHERE WHAT IT READS IS OF BULK AT MOST 1048576: true; the input reads as it did. -/
def codeWritesUptoRow : OpenClaim := { program := "ytlmhifnanhkcnaadoor", sum := "39edf00184800d0c6a317e873d3dfd683ec4b087bea552a8282e212307577a79", func := "deadlatch/deadlatchlaw03.CodeWrites", spec := "codeWrites", named := ["deadlatch/isa.uses", "deadlatch/isa.names"], apart := false, laid := [("deadlatch/isa.uses", laid_deadlatch_isa_uses), ("deadlatch/isa.names", laid_deadlatch_isa_names)], narrowed := true }
def CodeWritesUptoSaid : Prop := codeWritesUptoRow.holds Tryd.pinned (OpenSpec.upto codeWritesSpec)

/-- 'deadlatchlaw03.CodeReads', WHERE WHAT IT READS IS OF BULK AT MOST 1048576: true; the input reads as it did. -/
def codeReadsUptoRow : OpenClaim := { program := "ytlmhifnanhkcnaadoor", sum := "39edf00184800d0c6a317e873d3dfd683ec4b087bea552a8282e212307577a79", func := "deadlatch/deadlatchlaw03.CodeReads", spec := "codeReads", named := ["deadlatch/isa.uses", "deadlatch/isa.names"], apart := false, laid := [("deadlatch/isa.uses", laid_deadlatch_isa_uses), ("deadlatch/isa.names", laid_deadlatch_isa_names)], narrowed := true }
def CodeReadsUptoSaid : Prop := codeReadsUptoRow.holds Tryd.pinned (OpenSpec.upto codeReadsSpec)

/-- 'deadlatchlaw03.CodeBack', WHERE WHAT IT READS IS OF BULK AT MOST 1048576: true; the input reads as it did. -/
def codeBackUptoRow : OpenClaim := { program := "ytlmhifnanhkcnaadoor", sum := "39edf00184800d0c6a317e873d3dfd683ec4b087bea552a8282e212307577a79", func := "deadlatch/deadlatchlaw03.CodeBack", spec := "codeBack", named := ["deadlatch/isa.uses", "deadlatch/isa.names"], apart := false, laid := [("deadlatch/isa.uses", laid_deadlatch_isa_uses), ("deadlatch/isa.names", laid_deadlatch_isa_names)], narrowed := true }
def CodeBackUptoSaid : Prop := codeBackUptoRow.holds Tryd.pinned (OpenSpec.upto codeBackSpec)

/-- 'deadlatchlaw03.CodeAgain', WHERE WHAT IT READS IS OF BULK AT MOST 1048576: true; the input reads as it did. -/
def codeAgainUptoRow : OpenClaim := { program := "ytlmhifnanhkcnaadoor", sum := "39edf00184800d0c6a317e873d3dfd683ec4b087bea552a8282e212307577a79", func := "deadlatch/deadlatchlaw03.CodeAgain", spec := "codeAgain", named := ["deadlatch/isa.uses", "deadlatch/isa.names"], apart := false, laid := [("deadlatch/isa.uses", laid_deadlatch_isa_uses), ("deadlatch/isa.names", laid_deadlatch_isa_names)], narrowed := true }
def CodeAgainUptoSaid : Prop := codeAgainUptoRow.holds Tryd.pinned (OpenSpec.upto codeAgainSpec)

end Rows
end Go.Proofs.YtlmhifnanhkcnaaDoor

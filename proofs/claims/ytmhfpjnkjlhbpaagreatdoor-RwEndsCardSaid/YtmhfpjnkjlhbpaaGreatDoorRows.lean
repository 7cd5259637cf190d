/-
  NARROWER THAN 'FOR EVERY INPUT', by the rows' own cells (each row's printed sentence says how): SeqOne: laid · RwCode: laid · RwOne: laid · SeqWhole: laid · GateTells: laid · SeqEnds: laid · GateOnce: laid · RwEnds: laid · GateMeets: laid · GateWakes: laid · GateGoes: laid.
  DERIVED. THE GIVEN ROWS OF THIS SEAT. 11 by the template 'for every input the law returns true; each argument reads behind the call as it read before'; 0 by the template 'total and deterministic' (their statements: YtmhfpjnkjlhbpaaGreatDoorTotals.lean).
  GIVEN WITH THE SEED: the statements are not yours to turn. If you find one false, say at which input.
  Laid BY PROGRAM, IN A SANDBOX (cutbox-rows.mjs): the forced cells as the released guide's own fill.sh prints them over the translation 17adf45968cda6df… (all of the seat's roots in one cut). By AI agents, Wed Nov 11 2026. No macro, syntax, notation, axiom, sorry.
-/
import Derived.Test.YtmhfpjnkjlhbpaaGreatDoorChecked
import GoSem.Claim
import GoSem.ClaimJoined
import GoSem.ClaimMapViews
import Derived.JoinedTies
import Derived.KernelRfl
namespace Go.Proofs.YtmhfpjnkjlhbpaaGreatDoor
/- THE CELL 'sum', in the pinned program and in every row, IS THE sha256 OF THE DUMP (.gsa) THAT YtmhfpjnkjlhbpaaGreatDoorProg.lean LOADS. Nothing in Lean hashes anything: it is a label: what it is worth is what the hold of that sum in a sandbox is worth. -/
noncomputable def Tryz.pinned : Pinned := { name := "ytmhfpjnkjlhbpaagreatdoor", sum := "17adf45968cda6df274d1db0a4310905bfa9ffda286fd59d4976aed58dd44e50", checked := Tryz.checked }
namespace Rows
def none {H : Type} : Left H := { results := [], args := [] }

/- WHAT THE LISTED PACKAGE-LEVEL VARIABLES READ AS WHEN THE CALL BEGINS. Each datum BY PROGRAM (the guide's laid-datum.mjs) off the statement by which the dump's own 'gosem.cut.vars' lays the variable. In a bare row this is a premise. The card (YtmhfpjnkjlhbpaaGreatDoorCards.lean) ties it to the program's text. -/
def laid_deadlatch_isa_uses {H : Type} : DataW H := .agg [.lit (.int .i64 0), .lit (.int .i64 17), .lit (.int .i64 3), .lit (.int .i64 7), .lit (.int .i64 7), .lit (.int .i64 7), .lit (.int .i64 7), .lit (.int .i64 7), .lit (.int .i64 7), .lit (.int .i64 7), .lit (.int .i64 7), .lit (.int .i64 7), .lit (.int .i64 7), .lit (.int .i64 32), .lit (.int .i64 33), .lit (.int .i64 33), .lit (.int .i64 25), .lit (.int .i64 25), .lit (.int .i64 0), .lit (.int .i64 25), .lit (.int .i64 25), .lit (.int .i64 29), .lit (.int .i64 1), .lit (.int .i64 25), .lit (.int .i64 25), .lit (.int .i64 0), .lit (.int .i64 0), .lit (.int .i64 17)]
def laid_deadlatch_isa_names {H : Type} : DataW H := .agg [.lit (.string [104, 97, 108, 116]), .lit (.string [115, 101, 116]), .lit (.string [109, 111, 118, 101]), .lit (.string [97, 100, 100]), .lit (.string [115, 117, 98]), .lit (.string [109, 117, 108]), .lit (.string [97, 110, 100]), .lit (.string [111, 114]), .lit (.string [120, 111, 114]), .lit (.string [115, 104, 108]), .lit (.string [115, 104, 114]), .lit (.string [108, 101, 115, 115]), .lit (.string [115, 97, 109, 101]), .lit (.string [106, 117, 109, 112]), .lit (.string [122, 101, 114, 111]), .lit (.string [115, 111, 109, 101]), .lit (.string [108, 111, 97, 100]), .lit (.string [115, 116, 111, 114, 101]), .lit (.string [102, 101, 110, 99, 101]), .lit (.string [115, 119, 97, 112]), .lit (.string [102, 101, 116, 99, 104]), .lit (.string [99, 97, 115]), .lit (.string [111, 117, 116]), .lit (.string [119, 97, 105, 116]), .lit (.string [119, 97, 107, 101]), .lit (.string [114, 101, 109, 111, 116, 101]), .lit (.string [121, 105, 101, 108, 100]), .lit (.string [109, 97, 114, 107])]
def laid_deadlatch_obj_names {H : Type} : DataW H := .agg [.lit (.string []), .lit (.string [116, 97, 115]), .lit (.string [116, 116, 97, 115]), .lit (.string [116, 105, 99, 107, 101, 116]), .lit (.string [109, 99, 115]), .lit (.string [99, 108, 104]), .lit (.string [112, 101, 116, 101, 114, 115, 111, 110]), .lit (.string [100, 101, 107, 107, 101, 114]), .lit (.string [98, 105, 97, 115]), .lit (.string [115, 101, 113]), .lit (.string [109, 117, 116, 101, 120]), .lit (.string [115, 101, 109]), .lit (.string [99, 111, 110, 100]), .lit (.string [98, 97, 114, 114, 105, 101, 114]), .lit (.string [114, 119]), .lit (.string [111, 110, 99, 101])]

/-- 'deadlatchlaw19.SeqOne': WHATEVER THE INPUT: true; the input reads as it did. -/
def seqOneSpec : ChangeSpec := { name := "seqOne", fn := fun _ => fun
  | [d1, d2] => { results := [.lit (.bool true)], args := [d1, d2] }
  | _ => none }
def seqOneRow : OpenClaim := { program := "ytmhfpjnkjlhbpaagreatdoor", sum := "17adf45968cda6df274d1db0a4310905bfa9ffda286fd59d4976aed58dd44e50", func := "deadlatch/deadlatchlaw19.SeqOne", spec := "seqOne", unfollowed := true, recurses := true, named := ["deadlatch/obj.names", "deadlatch/isa.uses", "deadlatch/isa.names"], apart := false, laid := [("deadlatch/isa.uses", laid_deadlatch_isa_uses), ("deadlatch/isa.names", laid_deadlatch_isa_names), ("deadlatch/obj.names", laid_deadlatch_obj_names)] }
def SeqOneSaid : Prop := seqOneRow.holds Tryz.pinned (OpenSpec.ofChange seqOneSpec)

/-- ITS FALSE NEIGHBOUR: 'it returns false'. Refute it at one input. -/
def seqOneWrong : ChangeSpec := { name := "seqOne", fn := fun _ => fun
  | [d1, d2] => { results := [.lit (.bool false)], args := [d1, d2] }
  | _ => none }
def SeqOneWrongFalsely : Prop := seqOneRow.holds Tryz.pinned (OpenSpec.ofChange seqOneWrong)

/-- 'deadlatchlaw22.RwCode': WHATEVER THE INPUT: true; the input reads as it did. -/
def rwCodeSpec : ChangeSpec := { name := "rwCode", fn := fun _ => fun
  | [d] => { results := [.lit (.bool true)], args := [d] }
  | _ => none }
def rwCodeRow : OpenClaim := { program := "ytmhfpjnkjlhbpaagreatdoor", sum := "17adf45968cda6df274d1db0a4310905bfa9ffda286fd59d4976aed58dd44e50", func := "deadlatch/deadlatchlaw22.RwCode", spec := "rwCode", unfollowed := true, recurses := true, named := ["deadlatch/obj.names", "deadlatch/isa.uses", "deadlatch/isa.names"], apart := false, laid := [("deadlatch/isa.uses", laid_deadlatch_isa_uses), ("deadlatch/isa.names", laid_deadlatch_isa_names), ("deadlatch/obj.names", laid_deadlatch_obj_names)] }
def RwCodeSaid : Prop := rwCodeRow.holds Tryz.pinned (OpenSpec.ofChange rwCodeSpec)

/-- ITS FALSE NEIGHBOUR: 'it returns false'. Refute it at one input. -/
def rwCodeWrong : ChangeSpec := { name := "rwCode", fn := fun _ => fun
  | [d] => { results := [.lit (.bool false)], args := [d] }
  | _ => none }
def RwCodeWrongFalsely : Prop := rwCodeRow.holds Tryz.pinned (OpenSpec.ofChange rwCodeWrong)

/-- 'deadlatchlaw22.RwOne': WHATEVER THE INPUT: true; the input reads as it did. -/
def rwOneSpec : ChangeSpec := { name := "rwOne", fn := fun _ => fun
  | [d1, d2] => { results := [.lit (.bool true)], args := [d1, d2] }
  | _ => none }
def rwOneRow : OpenClaim := { program := "ytmhfpjnkjlhbpaagreatdoor", sum := "17adf45968cda6df274d1db0a4310905bfa9ffda286fd59d4976aed58dd44e50", func := "deadlatch/deadlatchlaw22.RwOne", spec := "rwOne", unfollowed := true, recurses := true, named := ["deadlatch/obj.names", "deadlatch/isa.uses", "deadlatch/isa.names"], apart := false, laid := [("deadlatch/isa.uses", laid_deadlatch_isa_uses), ("deadlatch/isa.names", laid_deadlatch_isa_names), ("deadlatch/obj.names", laid_deadlatch_obj_names)] }
def RwOneSaid : Prop := rwOneRow.holds Tryz.pinned (OpenSpec.ofChange rwOneSpec)

/-- ITS FALSE NEIGHBOUR: 'it returns false'. Refute it at one input. -/
def rwOneWrong : ChangeSpec := { name := "rwOne", fn := fun _ => fun
  | [d1, d2] => { results := [.lit (.bool false)], args := [d1, d2] }
  | _ => none }
def RwOneWrongFalsely : Prop := rwOneRow.holds Tryz.pinned (OpenSpec.ofChange rwOneWrong)

/-- 'deadlatchlaw19.SeqWhole': WHATEVER THE INPUT: true; the input reads as it did. -/
def seqWholeSpec : ChangeSpec := { name := "seqWhole", fn := fun _ => fun
  | [d1, d2] => { results := [.lit (.bool true)], args := [d1, d2] }
  | _ => none }
def seqWholeRow : OpenClaim := { program := "ytmhfpjnkjlhbpaagreatdoor", sum := "17adf45968cda6df274d1db0a4310905bfa9ffda286fd59d4976aed58dd44e50", func := "deadlatch/deadlatchlaw19.SeqWhole", spec := "seqWhole", unfollowed := true, recurses := true, named := ["deadlatch/obj.names", "deadlatch/isa.uses", "deadlatch/isa.names"], apart := false, laid := [("deadlatch/isa.uses", laid_deadlatch_isa_uses), ("deadlatch/isa.names", laid_deadlatch_isa_names), ("deadlatch/obj.names", laid_deadlatch_obj_names)] }
def SeqWholeSaid : Prop := seqWholeRow.holds Tryz.pinned (OpenSpec.ofChange seqWholeSpec)

/-- ITS FALSE NEIGHBOUR: 'it returns false'. Refute it at one input. -/
def seqWholeWrong : ChangeSpec := { name := "seqWhole", fn := fun _ => fun
  | [d1, d2] => { results := [.lit (.bool false)], args := [d1, d2] }
  | _ => none }
def SeqWholeWrongFalsely : Prop := seqWholeRow.holds Tryz.pinned (OpenSpec.ofChange seqWholeWrong)

/-- 'deadlatchlaw21.GateTells': WHATEVER THE INPUT: true; the input reads as it did. -/
def gateTellsSpec : ChangeSpec := { name := "gateTells", fn := fun _ => fun
  | [d1, d2, d3] => { results := [.lit (.bool true)], args := [d1, d2, d3] }
  | _ => none }
def gateTellsRow : OpenClaim := { program := "ytmhfpjnkjlhbpaagreatdoor", sum := "17adf45968cda6df274d1db0a4310905bfa9ffda286fd59d4976aed58dd44e50", func := "deadlatch/deadlatchlaw21.GateTells", spec := "gateTells", unfollowed := true, recurses := true, named := ["deadlatch/obj.names", "deadlatch/isa.uses", "deadlatch/isa.names"], apart := false, laid := [("deadlatch/isa.uses", laid_deadlatch_isa_uses), ("deadlatch/isa.names", laid_deadlatch_isa_names), ("deadlatch/obj.names", laid_deadlatch_obj_names)] }
def GateTellsSaid : Prop := gateTellsRow.holds Tryz.pinned (OpenSpec.ofChange gateTellsSpec)

/-- ITS FALSE NEIGHBOUR: 'it returns false'. Refute it at one input. -/
def gateTellsWrong : ChangeSpec := { name := "gateTells", fn := fun _ => fun
  | [d1, d2, d3] => { results := [.lit (.bool false)], args := [d1, d2, d3] }
  | _ => none }
def GateTellsWrongFalsely : Prop := gateTellsRow.holds Tryz.pinned (OpenSpec.ofChange gateTellsWrong)

/-- 'deadlatchlaw19.SeqEnds': WHATEVER THE INPUT: true; the input reads as it did. -/
def seqEndsSpec : ChangeSpec := { name := "seqEnds", fn := fun _ => fun
  | [d1, d2, d3] => { results := [.lit (.bool true)], args := [d1, d2, d3] }
  | _ => none }
def seqEndsRow : OpenClaim := { program := "ytmhfpjnkjlhbpaagreatdoor", sum := "17adf45968cda6df274d1db0a4310905bfa9ffda286fd59d4976aed58dd44e50", func := "deadlatch/deadlatchlaw19.SeqEnds", spec := "seqEnds", unfollowed := true, recurses := true, named := ["deadlatch/obj.names", "deadlatch/isa.uses", "deadlatch/isa.names"], apart := false, laid := [("deadlatch/isa.uses", laid_deadlatch_isa_uses), ("deadlatch/isa.names", laid_deadlatch_isa_names), ("deadlatch/obj.names", laid_deadlatch_obj_names)] }
def SeqEndsSaid : Prop := seqEndsRow.holds Tryz.pinned (OpenSpec.ofChange seqEndsSpec)

/-- ITS FALSE NEIGHBOUR: 'it returns false'. Refute it at one input. -/
def seqEndsWrong : ChangeSpec := { name := "seqEnds", fn := fun _ => fun
  | [d1, d2, d3] => { results := [.lit (.bool false)], args := [d1, d2, d3] }
  | _ => none }
def SeqEndsWrongFalsely : Prop := seqEndsRow.holds Tryz.pinned (OpenSpec.ofChange seqEndsWrong)

/-- 'deadlatchlaw21.GateOnce': WHATEVER THE INPUT: true; the input reads as it did. -/
def gateOnceSpec : ChangeSpec := { name := "gateOnce", fn := fun _ => fun
  | [d1, d2] => { results := [.lit (.bool true)], args := [d1, d2] }
  | _ => none }
def gateOnceRow : OpenClaim := { program := "ytmhfpjnkjlhbpaagreatdoor", sum := "17adf45968cda6df274d1db0a4310905bfa9ffda286fd59d4976aed58dd44e50", func := "deadlatch/deadlatchlaw21.GateOnce", spec := "gateOnce", unfollowed := true, recurses := true, named := ["deadlatch/obj.names", "deadlatch/isa.uses", "deadlatch/isa.names"], apart := false, laid := [("deadlatch/isa.uses", laid_deadlatch_isa_uses), ("deadlatch/isa.names", laid_deadlatch_isa_names), ("deadlatch/obj.names", laid_deadlatch_obj_names)] }
def GateOnceSaid : Prop := gateOnceRow.holds Tryz.pinned (OpenSpec.ofChange gateOnceSpec)

/-- ITS FALSE NEIGHBOUR: 'it returns false'. Refute it at one input. -/
def gateOnceWrong : ChangeSpec := { name := "gateOnce", fn := fun _ => fun
  | [d1, d2] => { results := [.lit (.bool false)], args := [d1, d2] }
  | _ => none }
def GateOnceWrongFalsely : Prop := gateOnceRow.holds Tryz.pinned (OpenSpec.ofChange gateOnceWrong)

/-- 'deadlatchlaw22.RwEnds': WHATEVER THE INPUT: true; the input reads as it did. -/
def rwEndsSpec : ChangeSpec := { name := "rwEnds", fn := fun _ => fun
  | [d1, d2, d3] => { results := [.lit (.bool true)], args := [d1, d2, d3] }
  | _ => none }
def rwEndsRow : OpenClaim := { program := "ytmhfpjnkjlhbpaagreatdoor", sum := "17adf45968cda6df274d1db0a4310905bfa9ffda286fd59d4976aed58dd44e50", func := "deadlatch/deadlatchlaw22.RwEnds", spec := "rwEnds", unfollowed := true, recurses := true, named := ["deadlatch/obj.names", "deadlatch/isa.uses", "deadlatch/isa.names"], apart := false, laid := [("deadlatch/isa.uses", laid_deadlatch_isa_uses), ("deadlatch/isa.names", laid_deadlatch_isa_names), ("deadlatch/obj.names", laid_deadlatch_obj_names)] }
def RwEndsSaid : Prop := rwEndsRow.holds Tryz.pinned (OpenSpec.ofChange rwEndsSpec)

/-- ITS FALSE NEIGHBOUR: 'it returns false'. Refute it at one input. -/
def rwEndsWrong : ChangeSpec := { name := "rwEnds", fn := fun _ => fun
  | [d1, d2, d3] => { results := [.lit (.bool false)], args := [d1, d2, d3] }
  | _ => none }
def RwEndsWrongFalsely : Prop := rwEndsRow.holds Tryz.pinned (OpenSpec.ofChange rwEndsWrong)

/-- 'deadlatchlaw21.GateMeets': WHATEVER THE INPUT: true; the input reads as it did. -/
def gateMeetsSpec : ChangeSpec := { name := "gateMeets", fn := fun _ => fun
  | [d1, d2] => { results := [.lit (.bool true)], args := [d1, d2] }
  | _ => none }
def gateMeetsRow : OpenClaim := { program := "ytmhfpjnkjlhbpaagreatdoor", sum := "17adf45968cda6df274d1db0a4310905bfa9ffda286fd59d4976aed58dd44e50", func := "deadlatch/deadlatchlaw21.GateMeets", spec := "gateMeets", unfollowed := true, recurses := true, named := ["deadlatch/obj.names", "deadlatch/isa.uses", "deadlatch/isa.names"], apart := false, laid := [("deadlatch/isa.uses", laid_deadlatch_isa_uses), ("deadlatch/isa.names", laid_deadlatch_isa_names), ("deadlatch/obj.names", laid_deadlatch_obj_names)] }
def GateMeetsSaid : Prop := gateMeetsRow.holds Tryz.pinned (OpenSpec.ofChange gateMeetsSpec)

/-- ITS FALSE NEIGHBOUR: 'it returns false'. Refute it at one input. -/
def gateMeetsWrong : ChangeSpec := { name := "gateMeets", fn := fun _ => fun
  | [d1, d2] => { results := [.lit (.bool false)], args := [d1, d2] }
  | _ => none }
def GateMeetsWrongFalsely : Prop := gateMeetsRow.holds Tryz.pinned (OpenSpec.ofChange gateMeetsWrong)

/-- 'deadlatchlaw21.GateWakes': WHATEVER THE INPUT: true; the input reads as it did. -/
def gateWakesSpec : ChangeSpec := { name := "gateWakes", fn := fun _ => fun
  | [d1, d2, d3, d4] => { results := [.lit (.bool true)], args := [d1, d2, d3, d4] }
  | _ => none }
def gateWakesRow : OpenClaim := { program := "ytmhfpjnkjlhbpaagreatdoor", sum := "17adf45968cda6df274d1db0a4310905bfa9ffda286fd59d4976aed58dd44e50", func := "deadlatch/deadlatchlaw21.GateWakes", spec := "gateWakes", unfollowed := true, recurses := true, named := ["deadlatch/obj.names", "deadlatch/isa.uses", "deadlatch/isa.names"], apart := false, laid := [("deadlatch/isa.uses", laid_deadlatch_isa_uses), ("deadlatch/isa.names", laid_deadlatch_isa_names), ("deadlatch/obj.names", laid_deadlatch_obj_names)] }
def GateWakesSaid : Prop := gateWakesRow.holds Tryz.pinned (OpenSpec.ofChange gateWakesSpec)

/-- ITS FALSE NEIGHBOUR: 'it returns false'. Refute it at one input. -/
def gateWakesWrong : ChangeSpec := { name := "gateWakes", fn := fun _ => fun
  | [d1, d2, d3, d4] => { results := [.lit (.bool false)], args := [d1, d2, d3, d4] }
  | _ => none }
def GateWakesWrongFalsely : Prop := gateWakesRow.holds Tryz.pinned (OpenSpec.ofChange gateWakesWrong)

/-- 'deadlatchlaw21.GateGoes': WHATEVER THE INPUT: true; the input reads as it did. -/
def gateGoesSpec : ChangeSpec := { name := "gateGoes", fn := fun _ => fun
  | [d1, d2, d3] => { results := [.lit (.bool true)], args := [d1, d2, d3] }
  | _ => none }
def gateGoesRow : OpenClaim := { program := "ytmhfpjnkjlhbpaagreatdoor", sum := "17adf45968cda6df274d1db0a4310905bfa9ffda286fd59d4976aed58dd44e50", func := "deadlatch/deadlatchlaw21.GateGoes", spec := "gateGoes", unfollowed := true, recurses := true, named := ["deadlatch/obj.names", "deadlatch/isa.uses", "deadlatch/isa.names"], apart := false, laid := [("deadlatch/isa.uses", laid_deadlatch_isa_uses), ("deadlatch/isa.names", laid_deadlatch_isa_names), ("deadlatch/obj.names", laid_deadlatch_obj_names)] }
def GateGoesSaid : Prop := gateGoesRow.holds Tryz.pinned (OpenSpec.ofChange gateGoesSpec)

/-- ITS FALSE NEIGHBOUR: 'it returns false'. Refute it at one input. -/
def gateGoesWrong : ChangeSpec := { name := "gateGoes", fn := fun _ => fun
  | [d1, d2, d3] => { results := [.lit (.bool false)], args := [d1, d2, d3] }
  | _ => none }
def GateGoesWrongFalsely : Prop := gateGoesRow.holds Tryz.pinned (OpenSpec.ofChange gateGoesWrong)

/- THE SECOND FORM. 'bulk': how many values and letters a reading holds, each counted each time it is reached (what is shared counts as often as it is met; a slice's spare places count too). A statement '..UptoSaid' is the law's where the arguments, and the package variables that the reading takes, are together of bulk at most 1048576: NARROWER than '..Said'. Prove '..Said' where nothing that the law and all that it calls make is longer than what came in: it says more and counts as full. Else prove '..UptoSaid'. A law counts once. -/
mutual
def uptoBulk {H : Type} : DataW H → Nat
  | .lit (.string bytes) => bytes.length + 1
  | .lit _ => 1
  | .nil => 1
  | .ptr d => uptoBulk d + 1
  | .slice elems spare => uptoBulkAll elems + uptoBulkAll spare + 1
  | .agg parts => uptoBulkAll parts + 1
  | .iface _ d => uptoBulk d + 1
  | .map entries => uptoBulkEntries entries + 1
  | .held _ => 1
def uptoBulkAll {H : Type} : List (DataW H) → Nat
  | [] => 0
  | d :: r => uptoBulk d + uptoBulkAll r
def uptoBulkEntries {H : Type} : List (Lit × DataW H) → Nat
  | [] => 0
  | x :: r => uptoBulkEntry x + uptoBulkEntries r
def uptoBulkEntry {H : Type} : Lit × DataW H → Nat
  | (.string bytes, d) => bytes.length + uptoBulk d + 1
  | (_, d) => uptoBulk d + 1
 end
def uptoSmall : (H : Type) → List (DataW H) → Bool := fun _ ds => decide (uptoBulkAll ds ≤ 1048576)
def OpenSpec.upto (s : _root_.Go.ChangeSpec) : _root_.Go.OpenSpec := { _root_.Go.OpenSpec.ofChange s with cond := some uptoSmall }

/-- 'deadlatchlaw19.SeqOne', WHERE WHAT IT READS IS OF BULK AT MOST 1048576: true; the input reads as it did. -/
def seqOneUptoRow : OpenClaim := { program := "ytmhfpjnkjlhbpaagreatdoor", sum := "17adf45968cda6df274d1db0a4310905bfa9ffda286fd59d4976aed58dd44e50", func := "deadlatch/deadlatchlaw19.SeqOne", spec := "seqOne", unfollowed := true, recurses := true, named := ["deadlatch/obj.names", "deadlatch/isa.uses", "deadlatch/isa.names"], apart := false, laid := [("deadlatch/isa.uses", laid_deadlatch_isa_uses), ("deadlatch/isa.names", laid_deadlatch_isa_names), ("deadlatch/obj.names", laid_deadlatch_obj_names)], narrowed := true }
def SeqOneUptoSaid : Prop := seqOneUptoRow.holds Tryz.pinned (OpenSpec.upto seqOneSpec)

/-- 'deadlatchlaw22.RwCode', WHERE WHAT IT READS IS OF BULK AT MOST 1048576: true; the input reads as it did. -/
def rwCodeUptoRow : OpenClaim := { program := "ytmhfpjnkjlhbpaagreatdoor", sum := "17adf45968cda6df274d1db0a4310905bfa9ffda286fd59d4976aed58dd44e50", func := "deadlatch/deadlatchlaw22.RwCode", spec := "rwCode", unfollowed := true, recurses := true, named := ["deadlatch/obj.names", "deadlatch/isa.uses", "deadlatch/isa.names"], apart := false, laid := [("deadlatch/isa.uses", laid_deadlatch_isa_uses), ("deadlatch/isa.names", laid_deadlatch_isa_names), ("deadlatch/obj.names", laid_deadlatch_obj_names)], narrowed := true }
def RwCodeUptoSaid : Prop := rwCodeUptoRow.holds Tryz.pinned (OpenSpec.upto rwCodeSpec)

/-- 'deadlatchlaw22.RwOne', WHERE WHAT IT READS IS OF BULK AT MOST 1048576: true; the input reads as it did. -/
def rwOneUptoRow : OpenClaim := { program := "ytmhfpjnkjlhbpaagreatdoor", sum := "17adf45968cda6df274d1db0a4310905bfa9ffda286fd59d4976aed58dd44e50", func := "deadlatch/deadlatchlaw22.RwOne", spec := "rwOne", unfollowed := true, recurses := true, named := ["deadlatch/obj.names", "deadlatch/isa.uses", "deadlatch/isa.names"], apart := false, laid := [("deadlatch/isa.uses", laid_deadlatch_isa_uses), ("deadlatch/isa.names", laid_deadlatch_isa_names), ("deadlatch/obj.names", laid_deadlatch_obj_names)], narrowed := true }
def RwOneUptoSaid : Prop := rwOneUptoRow.holds Tryz.pinned (OpenSpec.upto rwOneSpec)

/-- 'deadlatchlaw19.SeqWhole', WHERE WHAT IT READS IS OF BULK AT MOST 1048576: true; the input reads as it did. -/
def seqWholeUptoRow : OpenClaim := { program := "ytmhfpjnkjlhbpaagreatdoor", sum := "17adf45968cda6df274d1db0a4310905bfa9ffda286fd59d4976aed58dd44e50", func := "deadlatch/deadlatchlaw19.SeqWhole", spec := "seqWhole", unfollowed := true, recurses := true, named := ["deadlatch/obj.names", "deadlatch/isa.uses", "deadlatch/isa.names"], apart := false, laid := [("deadlatch/isa.uses", laid_deadlatch_isa_uses), ("deadlatch/isa.names", laid_deadlatch_isa_names), ("deadlatch/obj.names", laid_deadlatch_obj_names)], narrowed := true }
def SeqWholeUptoSaid : Prop := seqWholeUptoRow.holds Tryz.pinned (OpenSpec.upto seqWholeSpec)

/-- 'deadlatchlaw21.GateTells', WHERE WHAT IT READS IS OF BULK AT MOST 1048576: true; the input reads as it did. -/
def gateTellsUptoRow : OpenClaim := { program := "ytmhfpjnkjlhbpaagreatdoor", sum := "17adf45968cda6df274d1db0a4310905bfa9ffda286fd59d4976aed58dd44e50", func := "deadlatch/deadlatchlaw21.GateTells", spec := "gateTells", unfollowed := true, recurses := true, named := ["deadlatch/obj.names", "deadlatch/isa.uses", "deadlatch/isa.names"], apart := false, laid := [("deadlatch/isa.uses", laid_deadlatch_isa_uses), ("deadlatch/isa.names", laid_deadlatch_isa_names), ("deadlatch/obj.names", laid_deadlatch_obj_names)], narrowed := true }
def GateTellsUptoSaid : Prop := gateTellsUptoRow.holds Tryz.pinned (OpenSpec.upto gateTellsSpec)

/-- 'deadlatchlaw19.SeqEnds', WHERE WHAT IT READS IS OF BULK AT MOST 1048576: true; the input reads as it did. -/
def seqEndsUptoRow : OpenClaim := { program := "ytmhfpjnkjlhbpaagreatdoor", sum := "17adf45968cda6df274d1db0a4310905bfa9ffda286fd59d4976aed58dd44e50", func := "deadlatch/deadlatchlaw19.SeqEnds", spec := "seqEnds", unfollowed := true, recurses := true, named := ["deadlatch/obj.names", "deadlatch/isa.uses", "deadlatch/isa.names"], apart := false, laid := [("deadlatch/isa.uses", laid_deadlatch_isa_uses), ("deadlatch/isa.names", laid_deadlatch_isa_names), ("deadlatch/obj.names", laid_deadlatch_obj_names)], narrowed := true }
def SeqEndsUptoSaid : Prop := seqEndsUptoRow.holds Tryz.pinned (OpenSpec.upto seqEndsSpec)

/-- 'deadlatchlaw21.GateOnce', WHERE WHAT IT READS IS OF BULK AT MOST 1048576: true; the input reads as it did. -/
def gateOnceUptoRow : OpenClaim := { program := "ytmhfpjnkjlhbpaagreatdoor", sum := "17adf45968cda6df274d1db0a4310905bfa9ffda286fd59d4976aed58dd44e50", func := "deadlatch/deadlatchlaw21.GateOnce", spec := "gateOnce", unfollowed := true, recurses := true, named := ["deadlatch/obj.names", "deadlatch/isa.uses", "deadlatch/isa.names"], apart := false, laid := [("deadlatch/isa.uses", laid_deadlatch_isa_uses), ("deadlatch/isa.names", laid_deadlatch_isa_names), ("deadlatch/obj.names", laid_deadlatch_obj_names)], narrowed := true }
def GateOnceUptoSaid : Prop := gateOnceUptoRow.holds Tryz.pinned (OpenSpec.upto gateOnceSpec)

/-- 'deadlatchlaw22.RwEnds', WHERE WHAT IT READS IS OF BULK AT MOST 1048576: true; the input reads as it did. -/
def rwEndsUptoRow : OpenClaim := { program := "ytmhfpjnkjlhbpaagreatdoor", sum := "17adf45968cda6df274d1db0a4310905bfa9ffda286fd59d4976aed58dd44e50", func := "deadlatch/deadlatchlaw22.RwEnds", spec := "rwEnds", unfollowed := true, recurses := true, named := ["deadlatch/obj.names", "deadlatch/isa.uses", "deadlatch/isa.names"], apart := false, laid := [("deadlatch/isa.uses", laid_deadlatch_isa_uses), ("deadlatch/isa.names", laid_deadlatch_isa_names), ("deadlatch/obj.names", laid_deadlatch_obj_names)], narrowed := true }
def RwEndsUptoSaid : Prop := rwEndsUptoRow.holds Tryz.pinned (OpenSpec.upto rwEndsSpec)

/-- 'deadlatchlaw21.GateMeets', WHERE WHAT IT READS IS OF BULK AT MOST 1048576: true; the input reads as it did. -/
def gateMeetsUptoRow : OpenClaim := { program := "ytmhfpjnkjlhbpaagreatdoor", sum := "17adf45968cda6df274d1db0a4310905bfa9ffda286fd59d4976aed58dd44e50", func := "deadlatch/deadlatchlaw21.GateMeets", spec := "gateMeets", unfollowed := true, recurses := true, named := ["deadlatch/obj.names", "deadlatch/isa.uses", "deadlatch/isa.names"], apart := false, laid := [("deadlatch/isa.uses", laid_deadlatch_isa_uses), ("deadlatch/isa.names", laid_deadlatch_isa_names), ("deadlatch/obj.names", laid_deadlatch_obj_names)], narrowed := true }
def GateMeetsUptoSaid : Prop := gateMeetsUptoRow.holds Tryz.pinned (OpenSpec.upto gateMeetsSpec)

/-- 'deadlatchlaw21.GateWakes', WHERE WHAT IT READS IS OF BULK AT MOST 1048576: true; the input reads as it did. -/
def gateWakesUptoRow : OpenClaim := { program := "ytmhfpjnkjlhbpaagreatdoor", sum := "17adf45968cda6df274d1db0a4310905bfa9ffda286fd59d4976aed58dd44e50", func := "deadlatch/deadlatchlaw21.GateWakes", spec := "gateWakes", unfollowed := true, recurses := true, named := ["deadlatch/obj.names", "deadlatch/isa.uses", "deadlatch/isa.names"], apart := false, laid := [("deadlatch/isa.uses", laid_deadlatch_isa_uses), ("deadlatch/isa.names", laid_deadlatch_isa_names), ("deadlatch/obj.names", laid_deadlatch_obj_names)], narrowed := true }
def GateWakesUptoSaid : Prop := gateWakesUptoRow.holds Tryz.pinned (OpenSpec.upto gateWakesSpec)

/-- 'deadlatchlaw21.GateGoes', WHERE WHAT IT READS IS OF BULK AT MOST 1048576: true; the input reads as it did. -/
def gateGoesUptoRow : OpenClaim := { program := "ytmhfpjnkjlhbpaagreatdoor", sum := "17adf45968cda6df274d1db0a4310905bfa9ffda286fd59d4976aed58dd44e50", func := "deadlatch/deadlatchlaw21.GateGoes", spec := "gateGoes", unfollowed := true, recurses := true, named := ["deadlatch/obj.names", "deadlatch/isa.uses", "deadlatch/isa.names"], apart := false, laid := [("deadlatch/isa.uses", laid_deadlatch_isa_uses), ("deadlatch/isa.names", laid_deadlatch_isa_names), ("deadlatch/obj.names", laid_deadlatch_obj_names)], narrowed := true }
def GateGoesUptoSaid : Prop := gateGoesUptoRow.holds Tryz.pinned (OpenSpec.upto gateGoesSpec)

end Rows
end Go.Proofs.YtmhfpjnkjlhbpaaGreatDoor

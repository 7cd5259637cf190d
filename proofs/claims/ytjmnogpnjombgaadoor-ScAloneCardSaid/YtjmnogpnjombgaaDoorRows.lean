/-
  NARROWER THAN 'FOR EVERY INPUT', by the rows' own cells (each row's printed sentence says how): CoreAsks: laid · CoreOne: laid · CoreSame: laid · ScBoth: laid · ScSees: laid · TsoSees: laid · TsoOrders: laid · TsoApart: laid · ScAlone: laid · ScEager: laid · TsoTotal: laid.
  DERIVED. THE GIVEN ROWS OF THIS SEAT. 11 by the template 'for every input the law returns true; each argument reads behind the call as it read before'; 0 by the template 'total and deterministic' (their statements: YtjmnogpnjombgaaDoorTotals.lean).
  GIVEN WITH THE SEED: the statements are not yours to turn. If you find one false, say at which input.
  Laid BY PROGRAM, IN A SANDBOX (cutbox-rows.mjs): the forced cells as the released guide's own fill.sh prints them over the translation a1200fd9b3bfd0ad… (all of the seat's roots in one cut). By AI agents, Wed Nov 11 2026. No macro, syntax, notation, axiom, sorry.
-/
import Derived.Test.YtjmnogpnjombgaaDoorChecked
import GoSem.Claim
import GoSem.ClaimJoined
import GoSem.ClaimMapViews
import Derived.JoinedTies
import Derived.KernelRfl
namespace Go.Proofs.YtjmnogpnjombgaaDoor
/- THE CELL 'sum', in the pinned program and in every row, IS THE sha256 OF THE DUMP (.gsa) THAT YtjmnogpnjombgaaDoorProg.lean LOADS. Nothing in Lean hashes anything: it is a label: what it is worth is what the hold of that sum in a sandbox is worth. -/
noncomputable def Tryd.pinned : Pinned := { name := "ytjmnogpnjombgaadoor", sum := "a1200fd9b3bfd0ade73c922b19aa5894d9994e3f939fd8d8f22bb86a27233669", checked := Tryd.checked }
namespace Rows
def none {H : Type} : Left H := { results := [], args := [] }

/- WHAT THE LISTED PACKAGE-LEVEL VARIABLES READ AS WHEN THE CALL BEGINS. Each datum BY PROGRAM (the guide's laid-datum.mjs) off the statement by which the dump's own 'gosem.cut.vars' lays the variable. In a bare row this is a premise. The card (YtjmnogpnjombgaaDoorCards.lean) ties it to the program's text. -/
def laid_deadlatch_isa_uses {H : Type} : DataW H := .agg [.lit (.int .i64 0), .lit (.int .i64 17), .lit (.int .i64 3), .lit (.int .i64 7), .lit (.int .i64 7), .lit (.int .i64 7), .lit (.int .i64 7), .lit (.int .i64 7), .lit (.int .i64 7), .lit (.int .i64 7), .lit (.int .i64 7), .lit (.int .i64 7), .lit (.int .i64 7), .lit (.int .i64 32), .lit (.int .i64 33), .lit (.int .i64 33), .lit (.int .i64 25), .lit (.int .i64 25), .lit (.int .i64 0), .lit (.int .i64 25), .lit (.int .i64 25), .lit (.int .i64 29), .lit (.int .i64 1), .lit (.int .i64 25), .lit (.int .i64 25), .lit (.int .i64 0), .lit (.int .i64 0), .lit (.int .i64 17)]
def laid_deadlatch_isa_names {H : Type} : DataW H := .agg [.lit (.string [104, 97, 108, 116]), .lit (.string [115, 101, 116]), .lit (.string [109, 111, 118, 101]), .lit (.string [97, 100, 100]), .lit (.string [115, 117, 98]), .lit (.string [109, 117, 108]), .lit (.string [97, 110, 100]), .lit (.string [111, 114]), .lit (.string [120, 111, 114]), .lit (.string [115, 104, 108]), .lit (.string [115, 104, 114]), .lit (.string [108, 101, 115, 115]), .lit (.string [115, 97, 109, 101]), .lit (.string [106, 117, 109, 112]), .lit (.string [122, 101, 114, 111]), .lit (.string [115, 111, 109, 101]), .lit (.string [108, 111, 97, 100]), .lit (.string [115, 116, 111, 114, 101]), .lit (.string [102, 101, 110, 99, 101]), .lit (.string [115, 119, 97, 112]), .lit (.string [102, 101, 116, 99, 104]), .lit (.string [99, 97, 115]), .lit (.string [111, 117, 116]), .lit (.string [119, 97, 105, 116]), .lit (.string [119, 97, 107, 101]), .lit (.string [114, 101, 109, 111, 116, 101]), .lit (.string [121, 105, 101, 108, 100]), .lit (.string [109, 97, 114, 107])]

/-- 'deadlatchlaw08.CoreAsks': WHATEVER THE INPUT: true; the input reads as it did. -/
def coreAsksSpec : ChangeSpec := { name := "coreAsks", fn := fun _ => fun
  | [d] => { results := [.lit (.bool true)], args := [d] }
  | _ => none }
def coreAsksRow : OpenClaim := { program := "ytjmnogpnjombgaadoor", sum := "a1200fd9b3bfd0ade73c922b19aa5894d9994e3f939fd8d8f22bb86a27233669", func := "deadlatch/deadlatchlaw08.CoreAsks", spec := "coreAsks", unfollowed := true, recurses := true, named := ["deadlatch/isa.uses", "deadlatch/isa.names"], apart := false, laid := [("deadlatch/isa.uses", laid_deadlatch_isa_uses), ("deadlatch/isa.names", laid_deadlatch_isa_names)] }
def CoreAsksSaid : Prop := coreAsksRow.holds Tryd.pinned (OpenSpec.ofChange coreAsksSpec)

/-- ITS FALSE NEIGHBOUR: 'it returns false'. Refute it at one input. -/
def coreAsksWrong : ChangeSpec := { name := "coreAsks", fn := fun _ => fun
  | [d] => { results := [.lit (.bool false)], args := [d] }
  | _ => none }
def CoreAsksWrongFalsely : Prop := coreAsksRow.holds Tryd.pinned (OpenSpec.ofChange coreAsksWrong)

/-- 'deadlatchlaw08.CoreOne': WHATEVER THE INPUT: true; the input reads as it did. -/
def coreOneSpec : ChangeSpec := { name := "coreOne", fn := fun _ => fun
  | [d] => { results := [.lit (.bool true)], args := [d] }
  | _ => none }
def coreOneRow : OpenClaim := { program := "ytjmnogpnjombgaadoor", sum := "a1200fd9b3bfd0ade73c922b19aa5894d9994e3f939fd8d8f22bb86a27233669", func := "deadlatch/deadlatchlaw08.CoreOne", spec := "coreOne", unfollowed := true, recurses := true, named := ["deadlatch/isa.uses", "deadlatch/isa.names"], apart := false, laid := [("deadlatch/isa.uses", laid_deadlatch_isa_uses), ("deadlatch/isa.names", laid_deadlatch_isa_names)] }
def CoreOneSaid : Prop := coreOneRow.holds Tryd.pinned (OpenSpec.ofChange coreOneSpec)

/-- ITS FALSE NEIGHBOUR: 'it returns false'. Refute it at one input. -/
def coreOneWrong : ChangeSpec := { name := "coreOne", fn := fun _ => fun
  | [d] => { results := [.lit (.bool false)], args := [d] }
  | _ => none }
def CoreOneWrongFalsely : Prop := coreOneRow.holds Tryd.pinned (OpenSpec.ofChange coreOneWrong)

/-- 'deadlatchlaw08.CoreSame': WHATEVER THE INPUT: true; the input reads as it did. -/
def coreSameSpec : ChangeSpec := { name := "coreSame", fn := fun _ => fun
  | [d1, d2, d3] => { results := [.lit (.bool true)], args := [d1, d2, d3] }
  | _ => none }
def coreSameRow : OpenClaim := { program := "ytjmnogpnjombgaadoor", sum := "a1200fd9b3bfd0ade73c922b19aa5894d9994e3f939fd8d8f22bb86a27233669", func := "deadlatch/deadlatchlaw08.CoreSame", spec := "coreSame", unfollowed := true, recurses := true, named := ["deadlatch/isa.uses", "deadlatch/isa.names"], apart := false, laid := [("deadlatch/isa.uses", laid_deadlatch_isa_uses), ("deadlatch/isa.names", laid_deadlatch_isa_names)] }
def CoreSameSaid : Prop := coreSameRow.holds Tryd.pinned (OpenSpec.ofChange coreSameSpec)

/-- ITS FALSE NEIGHBOUR: 'it returns false'. Refute it at one input. -/
def coreSameWrong : ChangeSpec := { name := "coreSame", fn := fun _ => fun
  | [d1, d2, d3] => { results := [.lit (.bool false)], args := [d1, d2, d3] }
  | _ => none }
def CoreSameWrongFalsely : Prop := coreSameRow.holds Tryd.pinned (OpenSpec.ofChange coreSameWrong)

/-- 'deadlatchlaw10.ScBoth': WHATEVER THE INPUT: true; the input reads as it did. -/
def scBothSpec : ChangeSpec := { name := "scBoth", fn := fun _ => fun
  | [d] => { results := [.lit (.bool true)], args := [d] }
  | _ => none }
def scBothRow : OpenClaim := { program := "ytjmnogpnjombgaadoor", sum := "a1200fd9b3bfd0ade73c922b19aa5894d9994e3f939fd8d8f22bb86a27233669", func := "deadlatch/deadlatchlaw10.ScBoth", spec := "scBoth", unfollowed := true, recurses := true, named := ["deadlatch/isa.uses", "deadlatch/isa.names"], apart := false, laid := [("deadlatch/isa.uses", laid_deadlatch_isa_uses), ("deadlatch/isa.names", laid_deadlatch_isa_names)] }
def ScBothSaid : Prop := scBothRow.holds Tryd.pinned (OpenSpec.ofChange scBothSpec)

/-- ITS FALSE NEIGHBOUR: 'it returns false'. Refute it at one input. -/
def scBothWrong : ChangeSpec := { name := "scBoth", fn := fun _ => fun
  | [d] => { results := [.lit (.bool false)], args := [d] }
  | _ => none }
def ScBothWrongFalsely : Prop := scBothRow.holds Tryd.pinned (OpenSpec.ofChange scBothWrong)

/-- 'deadlatchlaw10.ScSees': WHATEVER THE INPUT: true; the input reads as it did. -/
def scSeesSpec : ChangeSpec := { name := "scSees", fn := fun _ => fun
  | [d1, d2] => { results := [.lit (.bool true)], args := [d1, d2] }
  | _ => none }
def scSeesRow : OpenClaim := { program := "ytjmnogpnjombgaadoor", sum := "a1200fd9b3bfd0ade73c922b19aa5894d9994e3f939fd8d8f22bb86a27233669", func := "deadlatch/deadlatchlaw10.ScSees", spec := "scSees", unfollowed := true, recurses := true, named := ["deadlatch/isa.uses", "deadlatch/isa.names"], apart := false, laid := [("deadlatch/isa.uses", laid_deadlatch_isa_uses), ("deadlatch/isa.names", laid_deadlatch_isa_names)] }
def ScSeesSaid : Prop := scSeesRow.holds Tryd.pinned (OpenSpec.ofChange scSeesSpec)

/-- ITS FALSE NEIGHBOUR: 'it returns false'. Refute it at one input. -/
def scSeesWrong : ChangeSpec := { name := "scSees", fn := fun _ => fun
  | [d1, d2] => { results := [.lit (.bool false)], args := [d1, d2] }
  | _ => none }
def ScSeesWrongFalsely : Prop := scSeesRow.holds Tryd.pinned (OpenSpec.ofChange scSeesWrong)

/-- 'deadlatchlaw09.TsoSees': WHATEVER THE INPUT: true; the input reads as it did. -/
def tsoSeesSpec : ChangeSpec := { name := "tsoSees", fn := fun _ => fun
  | [d1, d2] => { results := [.lit (.bool true)], args := [d1, d2] }
  | _ => none }
def tsoSeesRow : OpenClaim := { program := "ytjmnogpnjombgaadoor", sum := "a1200fd9b3bfd0ade73c922b19aa5894d9994e3f939fd8d8f22bb86a27233669", func := "deadlatch/deadlatchlaw09.TsoSees", spec := "tsoSees", unfollowed := true, recurses := true, named := ["deadlatch/isa.uses", "deadlatch/isa.names"], apart := false, laid := [("deadlatch/isa.uses", laid_deadlatch_isa_uses), ("deadlatch/isa.names", laid_deadlatch_isa_names)] }
def TsoSeesSaid : Prop := tsoSeesRow.holds Tryd.pinned (OpenSpec.ofChange tsoSeesSpec)

/-- ITS FALSE NEIGHBOUR: 'it returns false'. Refute it at one input. -/
def tsoSeesWrong : ChangeSpec := { name := "tsoSees", fn := fun _ => fun
  | [d1, d2] => { results := [.lit (.bool false)], args := [d1, d2] }
  | _ => none }
def TsoSeesWrongFalsely : Prop := tsoSeesRow.holds Tryd.pinned (OpenSpec.ofChange tsoSeesWrong)

/-- 'deadlatchlaw09.TsoOrders': WHATEVER THE INPUT: true; the input reads as it did. -/
def tsoOrdersSpec : ChangeSpec := { name := "tsoOrders", fn := fun _ => fun
  | [d1, d2] => { results := [.lit (.bool true)], args := [d1, d2] }
  | _ => none }
def tsoOrdersRow : OpenClaim := { program := "ytjmnogpnjombgaadoor", sum := "a1200fd9b3bfd0ade73c922b19aa5894d9994e3f939fd8d8f22bb86a27233669", func := "deadlatch/deadlatchlaw09.TsoOrders", spec := "tsoOrders", unfollowed := true, recurses := true, named := ["deadlatch/isa.uses", "deadlatch/isa.names"], apart := false, laid := [("deadlatch/isa.uses", laid_deadlatch_isa_uses), ("deadlatch/isa.names", laid_deadlatch_isa_names)] }
def TsoOrdersSaid : Prop := tsoOrdersRow.holds Tryd.pinned (OpenSpec.ofChange tsoOrdersSpec)

/-- ITS FALSE NEIGHBOUR: 'it returns false'. Refute it at one input. -/
def tsoOrdersWrong : ChangeSpec := { name := "tsoOrders", fn := fun _ => fun
  | [d1, d2] => { results := [.lit (.bool false)], args := [d1, d2] }
  | _ => none }
def TsoOrdersWrongFalsely : Prop := tsoOrdersRow.holds Tryd.pinned (OpenSpec.ofChange tsoOrdersWrong)

/-- 'deadlatchlaw09.TsoApart': WHATEVER THE INPUT: true; the input reads as it did. -/
def tsoApartSpec : ChangeSpec := { name := "tsoApart", fn := fun _ => fun
  | [d1, d2, d3, d4] => { results := [.lit (.bool true)], args := [d1, d2, d3, d4] }
  | _ => none }
def tsoApartRow : OpenClaim := { program := "ytjmnogpnjombgaadoor", sum := "a1200fd9b3bfd0ade73c922b19aa5894d9994e3f939fd8d8f22bb86a27233669", func := "deadlatch/deadlatchlaw09.TsoApart", spec := "tsoApart", unfollowed := true, recurses := true, named := ["deadlatch/isa.uses", "deadlatch/isa.names"], apart := false, laid := [("deadlatch/isa.uses", laid_deadlatch_isa_uses), ("deadlatch/isa.names", laid_deadlatch_isa_names)] }
def TsoApartSaid : Prop := tsoApartRow.holds Tryd.pinned (OpenSpec.ofChange tsoApartSpec)

/-- ITS FALSE NEIGHBOUR: 'it returns false'. Refute it at one input. -/
def tsoApartWrong : ChangeSpec := { name := "tsoApart", fn := fun _ => fun
  | [d1, d2, d3, d4] => { results := [.lit (.bool false)], args := [d1, d2, d3, d4] }
  | _ => none }
def TsoApartWrongFalsely : Prop := tsoApartRow.holds Tryd.pinned (OpenSpec.ofChange tsoApartWrong)

/-- 'deadlatchlaw10.ScAlone': WHATEVER THE INPUT: true; the input reads as it did. -/
def scAloneSpec : ChangeSpec := { name := "scAlone", fn := fun _ => fun
  | [d1, d2, d3] => { results := [.lit (.bool true)], args := [d1, d2, d3] }
  | _ => none }
def scAloneRow : OpenClaim := { program := "ytjmnogpnjombgaadoor", sum := "a1200fd9b3bfd0ade73c922b19aa5894d9994e3f939fd8d8f22bb86a27233669", func := "deadlatch/deadlatchlaw10.ScAlone", spec := "scAlone", unfollowed := true, recurses := true, named := ["deadlatch/isa.uses", "deadlatch/isa.names"], apart := false, laid := [("deadlatch/isa.uses", laid_deadlatch_isa_uses), ("deadlatch/isa.names", laid_deadlatch_isa_names)] }
def ScAloneSaid : Prop := scAloneRow.holds Tryd.pinned (OpenSpec.ofChange scAloneSpec)

/-- ITS FALSE NEIGHBOUR: 'it returns false'. Refute it at one input. -/
def scAloneWrong : ChangeSpec := { name := "scAlone", fn := fun _ => fun
  | [d1, d2, d3] => { results := [.lit (.bool false)], args := [d1, d2, d3] }
  | _ => none }
def ScAloneWrongFalsely : Prop := scAloneRow.holds Tryd.pinned (OpenSpec.ofChange scAloneWrong)

/-- 'deadlatchlaw10.ScEager': WHATEVER THE INPUT: true; the input reads as it did. -/
def scEagerSpec : ChangeSpec := { name := "scEager", fn := fun _ => fun
  | [d1, d2] => { results := [.lit (.bool true)], args := [d1, d2] }
  | _ => none }
def scEagerRow : OpenClaim := { program := "ytjmnogpnjombgaadoor", sum := "a1200fd9b3bfd0ade73c922b19aa5894d9994e3f939fd8d8f22bb86a27233669", func := "deadlatch/deadlatchlaw10.ScEager", spec := "scEager", unfollowed := true, recurses := true, named := ["deadlatch/isa.uses", "deadlatch/isa.names"], apart := false, laid := [("deadlatch/isa.uses", laid_deadlatch_isa_uses), ("deadlatch/isa.names", laid_deadlatch_isa_names)] }
def ScEagerSaid : Prop := scEagerRow.holds Tryd.pinned (OpenSpec.ofChange scEagerSpec)

/-- ITS FALSE NEIGHBOUR: 'it returns false'. Refute it at one input. -/
def scEagerWrong : ChangeSpec := { name := "scEager", fn := fun _ => fun
  | [d1, d2] => { results := [.lit (.bool false)], args := [d1, d2] }
  | _ => none }
def ScEagerWrongFalsely : Prop := scEagerRow.holds Tryd.pinned (OpenSpec.ofChange scEagerWrong)

/-- 'deadlatchlaw09.TsoTotal': WHATEVER THE INPUT: true; the input reads as it did. -/
def tsoTotalSpec : ChangeSpec := { name := "tsoTotal", fn := fun _ => fun
  | [d1, d2] => { results := [.lit (.bool true)], args := [d1, d2] }
  | _ => none }
def tsoTotalRow : OpenClaim := { program := "ytjmnogpnjombgaadoor", sum := "a1200fd9b3bfd0ade73c922b19aa5894d9994e3f939fd8d8f22bb86a27233669", func := "deadlatch/deadlatchlaw09.TsoTotal", spec := "tsoTotal", unfollowed := true, recurses := true, named := ["deadlatch/isa.uses", "deadlatch/isa.names"], apart := false, laid := [("deadlatch/isa.uses", laid_deadlatch_isa_uses), ("deadlatch/isa.names", laid_deadlatch_isa_names)] }
def TsoTotalSaid : Prop := tsoTotalRow.holds Tryd.pinned (OpenSpec.ofChange tsoTotalSpec)

/-- ITS FALSE NEIGHBOUR: 'it returns false'. Refute it at one input. -/
def tsoTotalWrong : ChangeSpec := { name := "tsoTotal", fn := fun _ => fun
  | [d1, d2] => { results := [.lit (.bool false)], args := [d1, d2] }
  | _ => none }
def TsoTotalWrongFalsely : Prop := tsoTotalRow.holds Tryd.pinned (OpenSpec.ofChange tsoTotalWrong)

/- THE SECOND FORM. 'bulk': how many values and letters a reading holds, each counted each time it is reached (what is shared counts as often as it is met; a slice's spare places count too). A statement '..UptoSaid' is the law's where the arguments, and the package variables that the reading takes, are together of bulk at most 1048576: NARROWER than '..Said'. Prove '..Said' where nothing that the law and all that it calls make is longer than what came in: it says more and counts as full. Else prove '..UptoSaid'. A law counts once. -/
mutual
def uptoBulk {H : Type} : DataW H → Nat
  | .lit (.string bytes) => bytes.length + 1
  | .lit _ => 1
  | .nil => 1
  | .ptr d => uptoBulk d + 1
  | .slice elems spare => uptoBulkAll elems + uptoBulkAll spare + 1
  | .agg parts => uptoBulkAll parts + 1
  | .iface _ d => uptoBulk d + 1
  | .map entries => uptoBulkEntries entries + 1
  | .held _ => 1
def uptoBulkAll {H : Type} : List (DataW H) → Nat
  | [] => 0
  | d :: r => uptoBulk d + uptoBulkAll r
def uptoBulkEntries {H : Type} : List (Lit × DataW H) → Nat
  | [] => 0
  | x :: r => uptoBulkEntry x + uptoBulkEntries r
def uptoBulkEntry {H : Type} : Lit × DataW H → Nat
  | (.string bytes, d) => bytes.length + uptoBulk d + 1
  | (_, d) => uptoBulk d + 1
 end
def uptoSmall : (H : Type) → List (DataW H) → Bool := fun _ ds => decide (uptoBulkAll ds ≤ 1048576)
def OpenSpec.upto (s : _root_.Go.ChangeSpec) : _root_.Go.OpenSpec := { _root_.Go.OpenSpec.ofChange s with cond := some uptoSmall }

/-- 'deadlatchlaw08.CoreAsks', WHERE WHAT IT READS IS OF BULK AT MOST 1048576: true; the input reads as it did. -/
def coreAsksUptoRow : OpenClaim := { program := "ytjmnogpnjombgaadoor", sum := "a1200fd9b3bfd0ade73c922b19aa5894d9994e3f939fd8d8f22bb86a27233669", func := "deadlatch/deadlatchlaw08.CoreAsks", spec := "coreAsks", unfollowed := true, recurses := true, named := ["deadlatch/isa.uses", "deadlatch/isa.names"], apart := false, laid := [("deadlatch/isa.uses", laid_deadlatch_isa_uses), ("deadlatch/isa.names", laid_deadlatch_isa_names)], narrowed := true }
def CoreAsksUptoSaid : Prop := coreAsksUptoRow.holds Tryd.pinned (OpenSpec.upto coreAsksSpec)

/-- 'deadlatchlaw08.CoreOne', WHERE WHAT IT READS IS OF BULK AT MOST 1048576: true; the input reads as it did. -/
def coreOneUptoRow : OpenClaim := { program := "ytjmnogpnjombgaadoor", sum := "a1200fd9b3bfd0ade73c922b19aa5894d9994e3f939fd8d8f22bb86a27233669", func := "deadlatch/deadlatchlaw08.CoreOne", spec := "coreOne", unfollowed := true, recurses := true, named := ["deadlatch/isa.uses", "deadlatch/isa.names"], apart := false, laid := [("deadlatch/isa.uses", laid_deadlatch_isa_uses), ("deadlatch/isa.names", laid_deadlatch_isa_names)], narrowed := true }
def CoreOneUptoSaid : Prop := coreOneUptoRow.holds Tryd.pinned (OpenSpec.upto coreOneSpec)

/-- 'deadlatchlaw08.CoreSame', WHERE WHAT IT READS IS OF BULK AT MOST 1048576: true; the input reads as it did. -/
def coreSameUptoRow : OpenClaim := { program := "ytjmnogpnjombgaadoor", sum := "a1200fd9b3bfd0ade73c922b19aa5894d9994e3f939fd8d8f22bb86a27233669", func := "deadlatch/deadlatchlaw08.CoreSame", spec := "coreSame", unfollowed := true, recurses := true, named := ["deadlatch/isa.uses", "deadlatch/isa.names"], apart := false, laid := [("deadlatch/isa.uses", laid_deadlatch_isa_uses), ("deadlatch/isa.names", laid_deadlatch_isa_names)], narrowed := true }
def CoreSameUptoSaid : Prop := coreSameUptoRow.holds Tryd.pinned (OpenSpec.upto coreSameSpec)

/-- 'deadlatchlaw10.ScBoth', WHERE WHAT IT READS IS OF BULK AT MOST 1048576: true; the input reads as it did. -/
def scBothUptoRow : OpenClaim := { program := "ytjmnogpnjombgaadoor", sum := "a1200fd9b3bfd0ade73c922b19aa5894d9994e3f939fd8d8f22bb86a27233669", func := "deadlatch/deadlatchlaw10.ScBoth", spec := "scBoth", unfollowed := true, recurses := true, named := ["deadlatch/isa.uses", "deadlatch/isa.names"], apart := false, laid := [("deadlatch/isa.uses", laid_deadlatch_isa_uses), ("deadlatch/isa.names", laid_deadlatch_isa_names)], narrowed := true }
def ScBothUptoSaid : Prop := scBothUptoRow.holds Tryd.pinned (OpenSpec.upto scBothSpec)

/-- 'deadlatchlaw10.ScSees', WHERE WHAT IT READS IS OF BULK AT MOST 1048576: true; the input reads as it did. -/
def scSeesUptoRow : OpenClaim := { program := "ytjmnogpnjombgaadoor", sum := "a1200fd9b3bfd0ade73c922b19aa5894d9994e3f939fd8d8f22bb86a27233669", func := "deadlatch/deadlatchlaw10.ScSees", spec := "scSees", unfollowed := true, recurses := true, named := ["deadlatch/isa.uses", "deadlatch/isa.names"], apart := false, laid := [("deadlatch/isa.uses", laid_deadlatch_isa_uses), ("deadlatch/isa.names", laid_deadlatch_isa_names)], narrowed := true }
def ScSeesUptoSaid : Prop := scSeesUptoRow.holds Tryd.pinned (OpenSpec.upto scSeesSpec)

/-- 'deadlatchlaw09.TsoSees', WHERE WHAT IT READS IS OF BULK AT MOST 1048576: true; the input reads as it did. -/
def tsoSeesUptoRow : OpenClaim := { program := "ytjmnogpnjombgaadoor", sum := "a1200fd9b3bfd0ade73c922b19aa5894d9994e3f939fd8d8f22bb86a27233669", func := "deadlatch/deadlatchlaw09.TsoSees", spec := "tsoSees", unfollowed := true, recurses := true, named := ["deadlatch/isa.uses", "deadlatch/isa.names"], apart := false, laid := [("deadlatch/isa.uses", laid_deadlatch_isa_uses), ("deadlatch/isa.names", laid_deadlatch_isa_names)], narrowed := true }
def TsoSeesUptoSaid : Prop := tsoSeesUptoRow.holds Tryd.pinned (OpenSpec.upto tsoSeesSpec)

/-- 'deadlatchlaw09.TsoOrders', WHERE WHAT IT READS IS OF BULK AT MOST 1048576: true; the input reads as it did. -/
def tsoOrdersUptoRow : OpenClaim := { program := "ytjmnogpnjombgaadoor", sum := "a1200fd9b3bfd0ade73c922b19aa5894d9994e3f939fd8d8f22bb86a27233669", func := "deadlatch/deadlatchlaw09.TsoOrders", spec := "tsoOrders", unfollowed := true, recurses := true, named := ["deadlatch/isa.uses", "deadlatch/isa.names"], apart := false, laid := [("deadlatch/isa.uses", laid_deadlatch_isa_uses), ("deadlatch/isa.names", laid_deadlatch_isa_names)], narrowed := true }
def TsoOrdersUptoSaid : Prop := tsoOrdersUptoRow.holds Tryd.pinned (OpenSpec.upto tsoOrdersSpec)

/-- 'deadlatchlaw09.TsoApart', WHERE WHAT IT READS IS OF BULK AT MOST 1048576: true; the input reads as it did. -/
def tsoApartUptoRow : OpenClaim := { program := "ytjmnogpnjombgaadoor", sum := "a1200fd9b3bfd0ade73c922b19aa5894d9994e3f939fd8d8f22bb86a27233669", func := "deadlatch/deadlatchlaw09.TsoApart", spec := "tsoApart", unfollowed := true, recurses := true, named := ["deadlatch/isa.uses", "deadlatch/isa.names"], apart := false, laid := [("deadlatch/isa.uses", laid_deadlatch_isa_uses), ("deadlatch/isa.names", laid_deadlatch_isa_names)], narrowed := true }
def TsoApartUptoSaid : Prop := tsoApartUptoRow.holds Tryd.pinned (OpenSpec.upto tsoApartSpec)

/-- 'deadlatchlaw10.ScAlone', WHERE WHAT IT READS IS OF BULK AT MOST 1048576: true; the input reads as it did. -/
def scAloneUptoRow : OpenClaim := { program := "ytjmnogpnjombgaadoor", sum := "a1200fd9b3bfd0ade73c922b19aa5894d9994e3f939fd8d8f22bb86a27233669", func := "deadlatch/deadlatchlaw10.ScAlone", spec := "scAlone", unfollowed := true, recurses := true, named := ["deadlatch/isa.uses", "deadlatch/isa.names"], apart := false, laid := [("deadlatch/isa.uses", laid_deadlatch_isa_uses), ("deadlatch/isa.names", laid_deadlatch_isa_names)], narrowed := true }
def ScAloneUptoSaid : Prop := scAloneUptoRow.holds Tryd.pinned (OpenSpec.upto scAloneSpec)

/-- 'deadlatchlaw10.ScEager', WHERE WHAT IT READS IS OF BULK AT MOST 1048576: true; the input reads as it did. -/
def scEagerUptoRow : OpenClaim := { program := "ytjmnogpnjombgaadoor", sum := "a1200fd9b3bfd0ade73c922b19aa5894d9994e3f939fd8d8f22bb86a27233669", func := "deadlatch/deadlatchlaw10.ScEager", spec := "scEager", unfollowed := true, recurses := true, named := ["deadlatch/isa.uses", "deadlatch/isa.names"], apart := false, laid := [("deadlatch/isa.uses", laid_deadlatch_isa_uses), ("deadlatch/isa.names", laid_deadlatch_isa_names)], narrowed := true }
def ScEagerUptoSaid : Prop := scEagerUptoRow.holds Tryd.pinned (OpenSpec.upto scEagerSpec)

/-- 'deadlatchlaw09.TsoTotal', WHERE WHAT IT READS IS OF BULK AT MOST 1048576: true; the input reads as it did. -/
def tsoTotalUptoRow : OpenClaim := { program := "ytjmnogpnjombgaadoor", sum := "a1200fd9b3bfd0ade73c922b19aa5894d9994e3f939fd8d8f22bb86a27233669", func := "deadlatch/deadlatchlaw09.TsoTotal", spec := "tsoTotal", unfollowed := true, recurses := true, named := ["deadlatch/isa.uses", "deadlatch/isa.names"], apart := false, laid := [("deadlatch/isa.uses", laid_deadlatch_isa_uses), ("deadlatch/isa.names", laid_deadlatch_isa_names)], narrowed := true }
def TsoTotalUptoSaid : Prop := tsoTotalUptoRow.holds Tryd.pinned (OpenSpec.upto tsoTotalSpec)

end Rows
end Go.Proofs.YtjmnogpnjombgaaDoor

/-
  DERIVED. GIVEN WITH THE SEED: THE CARDS: each row of YtlmhifnanhkcnaaDoorRows.lean that lists a variable, with what it lists TIED to the program's text (the seventh form; the later family's looks); each row that meets fmt, with fmt's text TOLD by the authors' own Lean function (tested against real Go, not proved from fmt's source: count such statements apart). THE CARD IS WHAT COUNTS. Prove the row's statement (the work); the ties are given (YtlmhifnanhkcnaaDoorTie.lean); close each card by the builder's one call (the guide's Derived/Test/ToyasCard.lean, 'card_holds'). Laid BY PROGRAM, IN A SANDBOX (cutbox-door.mjs). By AI agents, Wed Nov 11 2026. No macro, syntax, notation, axiom, sorry.
-/
import Derived.Test.YtlmhifnanhkcnaaDoorRows
import GoSem.ClaimSeven
namespace Go.Proofs.YtlmhifnanhkcnaaDoor
namespace Rows

/-- THE TIED CARD OF 'deadlatchlaw02.IsaRights'. -/
def isaRightsCard : Claim7 := { stood := { row := isaRightsRow, standIns := [], harness := (true, "9726e8012f612d640c484c6b97a03e95b9f502bed8ddb29f65dfa071dc28f5b4"), looks := false }, kinds := [], alts := [], laidByText := true, laidKinds := [.data, .data], laidTests := true, laidLooks := .later }
def IsaRightsCardSaid : Prop := Claim7.holds Tryd.pinned (.plain (OpenSpec.ofChange isaRightsSpec)) isaRightsCard

/-- THE TIED CARD OF 'deadlatchlaw02.IsaNames'. -/
def isaNamesCard : Claim7 := { stood := { row := isaNamesRow, standIns := [], harness := (true, "9726e8012f612d640c484c6b97a03e95b9f502bed8ddb29f65dfa071dc28f5b4"), looks := false }, kinds := [], alts := [], laidByText := true, laidKinds := [.data, .data], laidTests := true, laidLooks := .later }
def IsaNamesCardSaid : Prop := Claim7.holds Tryd.pinned (.plain (OpenSpec.ofChange isaNamesSpec)) isaNamesCard

/-- THE TIED CARD OF 'deadlatchlaw02.IsaChecks'. -/
def isaChecksCard : Claim7 := { stood := { row := isaChecksRow, standIns := [], harness := (true, "9726e8012f612d640c484c6b97a03e95b9f502bed8ddb29f65dfa071dc28f5b4"), looks := false }, kinds := [], alts := [], laidByText := true, laidKinds := [.data, .data], laidTests := true, laidLooks := .later }
def IsaChecksCardSaid : Prop := Claim7.holds Tryd.pinned (.plain (OpenSpec.ofChange isaChecksSpec)) isaChecksCard

/-- THE TIED CARD OF 'deadlatchlaw02.IsaMoves'. -/
def isaMovesCard : Claim7 := { stood := { row := isaMovesRow, standIns := [], harness := (true, "9726e8012f612d640c484c6b97a03e95b9f502bed8ddb29f65dfa071dc28f5b4"), looks := false }, kinds := [], alts := [], laidByText := true, laidKinds := [.data, .data], laidTests := true, laidLooks := .later }
def IsaMovesCardSaid : Prop := Claim7.holds Tryd.pinned (.plain (OpenSpec.ofChange isaMovesSpec)) isaMovesCard

/-- THE TIED CARD OF 'deadlatchlaw03.CodeWrites'. -/
def codeWritesCard : Claim7 := { stood := { row := codeWritesRow, standIns := [], harness := (true, "9726e8012f612d640c484c6b97a03e95b9f502bed8ddb29f65dfa071dc28f5b4"), looks := false }, kinds := [], alts := [], laidByText := true, laidKinds := [.data, .data], laidTests := true, laidLooks := .later }
def CodeWritesCardSaid : Prop := Claim7.holds Tryd.pinned (.plain (OpenSpec.ofChange codeWritesSpec)) codeWritesCard

/-- THE TIED CARD OF 'deadlatchlaw03.CodeReads'. -/
def codeReadsCard : Claim7 := { stood := { row := codeReadsRow, standIns := [], harness := (true, "9726e8012f612d640c484c6b97a03e95b9f502bed8ddb29f65dfa071dc28f5b4"), looks := false }, kinds := [], alts := [], laidByText := true, laidKinds := [.data, .data], laidTests := true, laidLooks := .later }
def CodeReadsCardSaid : Prop := Claim7.holds Tryd.pinned (.plain (OpenSpec.ofChange codeReadsSpec)) codeReadsCard

/-- THE TIED CARD OF 'deadlatchlaw03.CodeBack'. -/
def codeBackCard : Claim7 := { stood := { row := codeBackRow, standIns := [], harness := (true, "9726e8012f612d640c484c6b97a03e95b9f502bed8ddb29f65dfa071dc28f5b4"), looks := false }, kinds := [], alts := [], laidByText := true, laidKinds := [.data, .data], laidTests := true, laidLooks := .later }
def CodeBackCardSaid : Prop := Claim7.holds Tryd.pinned (.plain (OpenSpec.ofChange codeBackSpec)) codeBackCard

/-- THE TIED CARD OF 'deadlatchlaw03.CodeAgain'. -/
def codeAgainCard : Claim7 := { stood := { row := codeAgainRow, standIns := [], harness := (true, "9726e8012f612d640c484c6b97a03e95b9f502bed8ddb29f65dfa071dc28f5b4"), looks := false }, kinds := [], alts := [], laidByText := true, laidKinds := [.data, .data], laidTests := true, laidLooks := .later }
def CodeAgainCardSaid : Prop := Claim7.holds Tryd.pinned (.plain (OpenSpec.ofChange codeAgainSpec)) codeAgainCard

/-- THE SECOND FORM's CARD OF 'deadlatchlaw02.IsaRights'. -/
def isaRightsUptoCard : Claim7 := { stood := { row := isaRightsUptoRow, standIns := [], harness := (true, "9726e8012f612d640c484c6b97a03e95b9f502bed8ddb29f65dfa071dc28f5b4"), looks := false }, kinds := [], alts := [], laidByText := true, laidKinds := [.data, .data], laidTests := true, laidLooks := .later }
def IsaRightsUptoCardSaid : Prop := Claim7.holds Tryd.pinned (.plain (OpenSpec.upto isaRightsSpec)) isaRightsUptoCard

/-- THE SECOND FORM's CARD OF 'deadlatchlaw02.IsaNames'. -/
def isaNamesUptoCard : Claim7 := { stood := { row := isaNamesUptoRow, standIns := [], harness := (true, "9726e8012f612d640c484c6b97a03e95b9f502bed8ddb29f65dfa071dc28f5b4"), looks := false }, kinds := [], alts := [], laidByText := true, laidKinds := [.data, .data], laidTests := true, laidLooks := .later }
def IsaNamesUptoCardSaid : Prop := Claim7.holds Tryd.pinned (.plain (OpenSpec.upto isaNamesSpec)) isaNamesUptoCard

/-- THE SECOND FORM's CARD OF 'deadlatchlaw02.IsaChecks'. -/
def isaChecksUptoCard : Claim7 := { stood := { row := isaChecksUptoRow, standIns := [], harness := (true, "9726e8012f612d640c484c6b97a03e95b9f502bed8ddb29f65dfa071dc28f5b4"), looks := false }, kinds := [], alts := [], laidByText := true, laidKinds := [.data, .data], laidTests := true, laidLooks := .later }
def IsaChecksUptoCardSaid : Prop := Claim7.holds Tryd.pinned (.plain (OpenSpec.upto isaChecksSpec)) isaChecksUptoCard

/-- THE SECOND FORM's CARD OF 'deadlatchlaw02.IsaMoves'. -/
def isaMovesUptoCard : Claim7 := { stood := { row := isaMovesUptoRow, standIns := [], harness := (true, "9726e8012f612d640c484c6b97a03e95b9f502bed8ddb29f65dfa071dc28f5b4"), looks := false }, kinds := [], alts := [], laidByText := true, laidKinds := [.data, .data], laidTests := true, laidLooks := .later }
def IsaMovesUptoCardSaid : Prop := Claim7.holds Tryd.pinned (.plain (OpenSpec.upto isaMovesSpec)) isaMovesUptoCard

/-- THE SECOND FORM's CARD OF 'deadlatchlaw03.CodeWrites'. -/
def codeWritesUptoCard : Claim7 := { stood := { row := codeWritesUptoRow, standIns := [], harness := (true, "9726e8012f612d640c484c6b97a03e95b9f502bed8ddb29f65dfa071dc28f5b4"), looks := false }, kinds := [], alts := [], laidByText := true, laidKinds := [.data, .data], laidTests := true, laidLooks := .later }
def CodeWritesUptoCardSaid : Prop := Claim7.holds Tryd.pinned (.plain (OpenSpec.upto codeWritesSpec)) codeWritesUptoCard

/-- THE SECOND FORM's CARD OF 'deadlatchlaw03.CodeReads'. -/
def codeReadsUptoCard : Claim7 := { stood := { row := codeReadsUptoRow, standIns := [], harness := (true, "9726e8012f612d640c484c6b97a03e95b9f502bed8ddb29f65dfa071dc28f5b4"), looks := false }, kinds := [], alts := [], laidByText := true, laidKinds := [.data, .data], laidTests := true, laidLooks := .later }
def CodeReadsUptoCardSaid : Prop := Claim7.holds Tryd.pinned (.plain (OpenSpec.upto codeReadsSpec)) codeReadsUptoCard

/-- THE SECOND FORM's CARD OF 'deadlatchlaw03.CodeBack'. -/
def codeBackUptoCard : Claim7 := { stood := { row := codeBackUptoRow, standIns := [], harness := (true, "9726e8012f612d640c484c6b97a03e95b9f502bed8ddb29f65dfa071dc28f5b4"), looks := false }, kinds := [], alts := [], laidByText := true, laidKinds := [.data, .data], laidTests := true, laidLooks := .later }
def CodeBackUptoCardSaid : Prop := Claim7.holds Tryd.pinned (.plain (OpenSpec.upto codeBackSpec)) codeBackUptoCard

/-- THE SECOND FORM's CARD OF 'deadlatchlaw03.CodeAgain'. -/
def codeAgainUptoCard : Claim7 := { stood := { row := codeAgainUptoRow, standIns := [], harness := (true, "9726e8012f612d640c484c6b97a03e95b9f502bed8ddb29f65dfa071dc28f5b4"), looks := false }, kinds := [], alts := [], laidByText := true, laidKinds := [.data, .data], laidTests := true, laidLooks := .later }
def CodeAgainUptoCardSaid : Prop := Claim7.holds Tryd.pinned (.plain (OpenSpec.upto codeAgainSpec)) codeAgainUptoCard
end Rows
end Go.Proofs.YtlmhifnanhkcnaaDoor

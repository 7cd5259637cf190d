/-
  DERIVED. GIVEN WITH THE SEED: THE CARDS: each row of YtmhfpjnkjlhbpaaGreatDoorRows.lean that lists a variable, with what it lists TIED to the program's text (the seventh form; the later family's looks); each row that meets fmt, with fmt's text TOLD by the authors' own Lean function (tested against real Go, not proved from fmt's source: count such statements apart). THE CARD IS WHAT COUNTS. Prove the row's statement (the work); the ties are given (YtmhfpjnkjlhbpaaGreatDoorTie.lean); close each card by the builder's one call (the guide's Derived/Test/ToyasCard.lean, 'card_holds'). Laid BY PROGRAM, IN A SANDBOX (cutbox-door.mjs). By AI agents, Wed Nov 11 2026. No macro, syntax, notation, axiom, sorry.
-/
import Derived.Test.YtmhfpjnkjlhbpaaGreatDoorRows
import GoSem.ClaimSeven
namespace Go.Proofs.YtmhfpjnkjlhbpaaGreatDoor
namespace Rows

/-- THE TIED CARD OF 'deadlatchlaw19.SeqOne'. -/
def seqOneCard : Claim7 := { stood := { row := seqOneRow, standIns := [], harness := (true, "de0ad1b39e455fad9315b8f87ecf5f4486bb8cc68f39b09f841ec89fde027d87"), looks := true }, kinds := [], alts := [], laidByText := true, laidKinds := [.data, .data, .widerDeep], laidTests := true, laidLooks := .later }
def SeqOneCardSaid : Prop := Claim7.holds Tryz.pinned (.plain (OpenSpec.ofChange seqOneSpec)) seqOneCard

/-- THE TIED CARD OF 'deadlatchlaw22.RwCode'. -/
def rwCodeCard : Claim7 := { stood := { row := rwCodeRow, standIns := [], harness := (true, "de0ad1b39e455fad9315b8f87ecf5f4486bb8cc68f39b09f841ec89fde027d87"), looks := true }, kinds := [], alts := [], laidByText := true, laidKinds := [.data, .data, .widerDeep], laidTests := true, laidLooks := .later }
def RwCodeCardSaid : Prop := Claim7.holds Tryz.pinned (.plain (OpenSpec.ofChange rwCodeSpec)) rwCodeCard

/-- THE TIED CARD OF 'deadlatchlaw22.RwOne'. -/
def rwOneCard : Claim7 := { stood := { row := rwOneRow, standIns := [], harness := (true, "de0ad1b39e455fad9315b8f87ecf5f4486bb8cc68f39b09f841ec89fde027d87"), looks := true }, kinds := [], alts := [], laidByText := true, laidKinds := [.data, .data, .widerDeep], laidTests := true, laidLooks := .later }
def RwOneCardSaid : Prop := Claim7.holds Tryz.pinned (.plain (OpenSpec.ofChange rwOneSpec)) rwOneCard

/-- THE TIED CARD OF 'deadlatchlaw19.SeqWhole'. -/
def seqWholeCard : Claim7 := { stood := { row := seqWholeRow, standIns := [], harness := (true, "de0ad1b39e455fad9315b8f87ecf5f4486bb8cc68f39b09f841ec89fde027d87"), looks := true }, kinds := [], alts := [], laidByText := true, laidKinds := [.data, .data, .widerDeep], laidTests := true, laidLooks := .later }
def SeqWholeCardSaid : Prop := Claim7.holds Tryz.pinned (.plain (OpenSpec.ofChange seqWholeSpec)) seqWholeCard

/-- THE TIED CARD OF 'deadlatchlaw21.GateTells'. -/
def gateTellsCard : Claim7 := { stood := { row := gateTellsRow, standIns := [], harness := (true, "de0ad1b39e455fad9315b8f87ecf5f4486bb8cc68f39b09f841ec89fde027d87"), looks := true }, kinds := [], alts := [], laidByText := true, laidKinds := [.data, .data, .widerDeep], laidTests := true, laidLooks := .later }
def GateTellsCardSaid : Prop := Claim7.holds Tryz.pinned (.plain (OpenSpec.ofChange gateTellsSpec)) gateTellsCard

/-- THE TIED CARD OF 'deadlatchlaw19.SeqEnds'. -/
def seqEndsCard : Claim7 := { stood := { row := seqEndsRow, standIns := [], harness := (true, "de0ad1b39e455fad9315b8f87ecf5f4486bb8cc68f39b09f841ec89fde027d87"), looks := true }, kinds := [], alts := [], laidByText := true, laidKinds := [.data, .data, .widerDeep], laidTests := true, laidLooks := .later }
def SeqEndsCardSaid : Prop := Claim7.holds Tryz.pinned (.plain (OpenSpec.ofChange seqEndsSpec)) seqEndsCard

/-- THE TIED CARD OF 'deadlatchlaw21.GateOnce'. -/
def gateOnceCard : Claim7 := { stood := { row := gateOnceRow, standIns := [], harness := (true, "de0ad1b39e455fad9315b8f87ecf5f4486bb8cc68f39b09f841ec89fde027d87"), looks := true }, kinds := [], alts := [], laidByText := true, laidKinds := [.data, .data, .widerDeep], laidTests := true, laidLooks := .later }
def GateOnceCardSaid : Prop := Claim7.holds Tryz.pinned (.plain (OpenSpec.ofChange gateOnceSpec)) gateOnceCard

/-- THE TIED CARD OF 'deadlatchlaw22.RwEnds'. -/
def rwEndsCard : Claim7 := { stood := { row := rwEndsRow, standIns := [], harness := (true, "de0ad1b39e455fad9315b8f87ecf5f4486bb8cc68f39b09f841ec89fde027d87"), looks := true }, kinds := [], alts := [], laidByText := true, laidKinds := [.data, .data, .widerDeep], laidTests := true, laidLooks := .later }
def RwEndsCardSaid : Prop := Claim7.holds Tryz.pinned (.plain (OpenSpec.ofChange rwEndsSpec)) rwEndsCard

/-- THE TIED CARD OF 'deadlatchlaw21.GateMeets'. -/
def gateMeetsCard : Claim7 := { stood := { row := gateMeetsRow, standIns := [], harness := (true, "de0ad1b39e455fad9315b8f87ecf5f4486bb8cc68f39b09f841ec89fde027d87"), looks := true }, kinds := [], alts := [], laidByText := true, laidKinds := [.data, .data, .widerDeep], laidTests := true, laidLooks := .later }
def GateMeetsCardSaid : Prop := Claim7.holds Tryz.pinned (.plain (OpenSpec.ofChange gateMeetsSpec)) gateMeetsCard

/-- THE TIED CARD OF 'deadlatchlaw21.GateWakes'. -/
def gateWakesCard : Claim7 := { stood := { row := gateWakesRow, standIns := [], harness := (true, "de0ad1b39e455fad9315b8f87ecf5f4486bb8cc68f39b09f841ec89fde027d87"), looks := true }, kinds := [], alts := [], laidByText := true, laidKinds := [.data, .data, .widerDeep], laidTests := true, laidLooks := .later }
def GateWakesCardSaid : Prop := Claim7.holds Tryz.pinned (.plain (OpenSpec.ofChange gateWakesSpec)) gateWakesCard

/-- THE TIED CARD OF 'deadlatchlaw21.GateGoes'. -/
def gateGoesCard : Claim7 := { stood := { row := gateGoesRow, standIns := [], harness := (true, "de0ad1b39e455fad9315b8f87ecf5f4486bb8cc68f39b09f841ec89fde027d87"), looks := true }, kinds := [], alts := [], laidByText := true, laidKinds := [.data, .data, .widerDeep], laidTests := true, laidLooks := .later }
def GateGoesCardSaid : Prop := Claim7.holds Tryz.pinned (.plain (OpenSpec.ofChange gateGoesSpec)) gateGoesCard

/-- THE SECOND FORM's CARD OF 'deadlatchlaw19.SeqOne'. -/
def seqOneUptoCard : Claim7 := { stood := { row := seqOneUptoRow, standIns := [], harness := (true, "de0ad1b39e455fad9315b8f87ecf5f4486bb8cc68f39b09f841ec89fde027d87"), looks := true }, kinds := [], alts := [], laidByText := true, laidKinds := [.data, .data, .widerDeep], laidTests := true, laidLooks := .later }
def SeqOneUptoCardSaid : Prop := Claim7.holds Tryz.pinned (.plain (OpenSpec.upto seqOneSpec)) seqOneUptoCard

/-- THE SECOND FORM's CARD OF 'deadlatchlaw22.RwCode'. -/
def rwCodeUptoCard : Claim7 := { stood := { row := rwCodeUptoRow, standIns := [], harness := (true, "de0ad1b39e455fad9315b8f87ecf5f4486bb8cc68f39b09f841ec89fde027d87"), looks := true }, kinds := [], alts := [], laidByText := true, laidKinds := [.data, .data, .widerDeep], laidTests := true, laidLooks := .later }
def RwCodeUptoCardSaid : Prop := Claim7.holds Tryz.pinned (.plain (OpenSpec.upto rwCodeSpec)) rwCodeUptoCard

/-- THE SECOND FORM's CARD OF 'deadlatchlaw22.RwOne'. -/
def rwOneUptoCard : Claim7 := { stood := { row := rwOneUptoRow, standIns := [], harness := (true, "de0ad1b39e455fad9315b8f87ecf5f4486bb8cc68f39b09f841ec89fde027d87"), looks := true }, kinds := [], alts := [], laidByText := true, laidKinds := [.data, .data, .widerDeep], laidTests := true, laidLooks := .later }
def RwOneUptoCardSaid : Prop := Claim7.holds Tryz.pinned (.plain (OpenSpec.upto rwOneSpec)) rwOneUptoCard

/-- THE SECOND FORM's CARD OF 'deadlatchlaw19.SeqWhole'. -/
def seqWholeUptoCard : Claim7 := { stood := { row := seqWholeUptoRow, standIns := [], harness := (true, "de0ad1b39e455fad9315b8f87ecf5f4486bb8cc68f39b09f841ec89fde027d87"), looks := true }, kinds := [], alts := [], laidByText := true, laidKinds := [.data, .data, .widerDeep], laidTests := true, laidLooks := .later }
def SeqWholeUptoCardSaid : Prop := Claim7.holds Tryz.pinned (.plain (OpenSpec.upto seqWholeSpec)) seqWholeUptoCard

/-- THE SECOND FORM's CARD OF 'deadlatchlaw21.GateTells'. -/
def gateTellsUptoCard : Claim7 := { stood := { row := gateTellsUptoRow, standIns := [], harness := (true, "de0ad1b39e455fad9315b8f87ecf5f4486bb8cc68f39b09f841ec89fde027d87"), looks := true }, kinds := [], alts := [], laidByText := true, laidKinds := [.data, .data, .widerDeep], laidTests := true, laidLooks := .later }
def GateTellsUptoCardSaid : Prop := Claim7.holds Tryz.pinned (.plain (OpenSpec.upto gateTellsSpec)) gateTellsUptoCard

/-- THE SECOND FORM's CARD OF 'deadlatchlaw19.SeqEnds'. -/
def seqEndsUptoCard : Claim7 := { stood := { row := seqEndsUptoRow, standIns := [], harness := (true, "de0ad1b39e455fad9315b8f87ecf5f4486bb8cc68f39b09f841ec89fde027d87"), looks := true }, kinds := [], alts := [], laidByText := true, laidKinds := [.data, .data, .widerDeep], laidTests := true, laidLooks := .later }
def SeqEndsUptoCardSaid : Prop := Claim7.holds Tryz.pinned (.plain (OpenSpec.upto seqEndsSpec)) seqEndsUptoCard

/-- THE SECOND FORM's CARD OF 'deadlatchlaw21.GateOnce'. -/
def gateOnceUptoCard : Claim7 := { stood := { row := gateOnceUptoRow, standIns := [], harness := (true, "de0ad1b39e455fad9315b8f87ecf5f4486bb8cc68f39b09f841ec89fde027d87"), looks := true }, kinds := [], alts := [], laidByText := true, laidKinds := [.data, .data, .widerDeep], laidTests := true, laidLooks := .later }
def GateOnceUptoCardSaid : Prop := Claim7.holds Tryz.pinned (.plain (OpenSpec.upto gateOnceSpec)) gateOnceUptoCard

/-- THE SECOND FORM's CARD OF 'deadlatchlaw22.RwEnds'. -/
def rwEndsUptoCard : Claim7 := { stood := { row := rwEndsUptoRow, standIns := [], harness := (true, "de0ad1b39e455fad9315b8f87ecf5f4486bb8cc68f39b09f841ec89fde027d87"), looks := true }, kinds := [], alts := [], laidByText := true, laidKinds := [.data, .data, .widerDeep], laidTests := true, laidLooks := .later }
def RwEndsUptoCardSaid : Prop := Claim7.holds Tryz.pinned (.plain (OpenSpec.upto rwEndsSpec)) rwEndsUptoCard

/-- THE SECOND FORM's CARD OF 'deadlatchlaw21.GateMeets'. -/
def gateMeetsUptoCard : Claim7 := { stood := { row := gateMeetsUptoRow, standIns := [], harness := (true, "de0ad1b39e455fad9315b8f87ecf5f4486bb8cc68f39b09f841ec89fde027d87"), looks := true }, kinds := [], alts := [], laidByText := true, laidKinds := [.data, .data, .widerDeep], laidTests := true, laidLooks := .later }
def GateMeetsUptoCardSaid : Prop := Claim7.holds Tryz.pinned (.plain (OpenSpec.upto gateMeetsSpec)) gateMeetsUptoCard

/-- THE SECOND FORM's CARD OF 'deadlatchlaw21.GateWakes'. -/
def gateWakesUptoCard : Claim7 := { stood := { row := gateWakesUptoRow, standIns := [], harness := (true, "de0ad1b39e455fad9315b8f87ecf5f4486bb8cc68f39b09f841ec89fde027d87"), looks := true }, kinds := [], alts := [], laidByText := true, laidKinds := [.data, .data, .widerDeep], laidTests := true, laidLooks := .later }
def GateWakesUptoCardSaid : Prop := Claim7.holds Tryz.pinned (.plain (OpenSpec.upto gateWakesSpec)) gateWakesUptoCard

/-- THE SECOND FORM's CARD OF 'deadlatchlaw21.GateGoes'. -/
def gateGoesUptoCard : Claim7 := { stood := { row := gateGoesUptoRow, standIns := [], harness := (true, "de0ad1b39e455fad9315b8f87ecf5f4486bb8cc68f39b09f841ec89fde027d87"), looks := true }, kinds := [], alts := [], laidByText := true, laidKinds := [.data, .data, .widerDeep], laidTests := true, laidLooks := .later }
def GateGoesUptoCardSaid : Prop := Claim7.holds Tryz.pinned (.plain (OpenSpec.upto gateGoesSpec)) gateGoesUptoCard
end Rows
end Go.Proofs.YtmhfpjnkjlhbpaaGreatDoor

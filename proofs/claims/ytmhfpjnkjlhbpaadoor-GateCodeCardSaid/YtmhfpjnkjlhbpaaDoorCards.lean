/-
  DERIVED. GIVEN WITH THE SEED: THE CARDS: each row of YtmhfpjnkjlhbpaaDoorRows.lean that lists a variable, with what it lists TIED to the program's text (the seventh form; the later family's looks); each row that meets fmt, with fmt's text TOLD by the authors' own Lean function (tested against real Go, not proved from fmt's source: count such statements apart). THE CARD IS WHAT COUNTS. Prove the row's statement (the work); the ties are given (YtmhfpjnkjlhbpaaDoorTie.lean); close each card by the builder's one call (the guide's Derived/Test/ToyasCard.lean, 'card_holds'). Laid BY PROGRAM, IN A SANDBOX (cutbox-door.mjs). By AI agents, Wed Nov 11 2026. No macro, syntax, notation, axiom, sorry.
-/
import Derived.Test.YtmhfpjnkjlhbpaaDoorRows
import GoSem.ClaimSeven
namespace Go.Proofs.YtmhfpjnkjlhbpaaDoor
namespace Rows

/-- THE TIED CARD OF 'deadlatchlaw19.SeqCode'. -/
def seqCodeCard : Claim7 := { stood := { row := seqCodeRow, standIns := [], harness := (true, "e9e975fdd689ccf21bdb531b3a8406d0e765b5d952420d7cce987c53538c95cb"), looks := false }, kinds := [], alts := [], laidByText := true, laidKinds := [.data, .data, .widerDeep], laidTests := true, laidLooks := .later }
def SeqCodeCardSaid : Prop := Claim7.holds Tryd.pinned (.plain (OpenSpec.ofChange seqCodeSpec)) seqCodeCard

/-- THE TIED CARD OF 'deadlatchlaw21.GateCode'. -/
def gateCodeCard : Claim7 := { stood := { row := gateCodeRow, standIns := [], harness := (true, "e9e975fdd689ccf21bdb531b3a8406d0e765b5d952420d7cce987c53538c95cb"), looks := false }, kinds := [], alts := [], laidByText := true, laidKinds := [.data, .data, .widerDeep], laidTests := true, laidLooks := .later }
def GateCodeCardSaid : Prop := Claim7.holds Tryd.pinned (.plain (OpenSpec.ofChange gateCodeSpec)) gateCodeCard

/-- THE TIED CARD OF 'deadlatchlaw19.SeqAlone'. -/
def seqAloneCard : Claim7 := { stood := { row := seqAloneRow, standIns := [], harness := (true, "e9e975fdd689ccf21bdb531b3a8406d0e765b5d952420d7cce987c53538c95cb"), looks := false }, kinds := [], alts := [], laidByText := true, laidKinds := [.data, .data, .widerDeep], laidTests := true, laidLooks := .later }
def SeqAloneCardSaid : Prop := Claim7.holds Tryd.pinned (.plain (OpenSpec.ofChange seqAloneSpec)) seqAloneCard

/-- THE TIED CARD OF 'deadlatchlaw22.RwAlone'. -/
def rwAloneCard : Claim7 := { stood := { row := rwAloneRow, standIns := [], harness := (true, "e9e975fdd689ccf21bdb531b3a8406d0e765b5d952420d7cce987c53538c95cb"), looks := false }, kinds := [], alts := [], laidByText := true, laidKinds := [.data, .data, .widerDeep], laidTests := true, laidLooks := .later }
def RwAloneCardSaid : Prop := Claim7.holds Tryd.pinned (.plain (OpenSpec.ofChange rwAloneSpec)) rwAloneCard

/-- THE SECOND FORM's CARD OF 'deadlatchlaw19.SeqCode'. -/
def seqCodeUptoCard : Claim7 := { stood := { row := seqCodeUptoRow, standIns := [], harness := (true, "e9e975fdd689ccf21bdb531b3a8406d0e765b5d952420d7cce987c53538c95cb"), looks := false }, kinds := [], alts := [], laidByText := true, laidKinds := [.data, .data, .widerDeep], laidTests := true, laidLooks := .later }
def SeqCodeUptoCardSaid : Prop := Claim7.holds Tryd.pinned (.plain (OpenSpec.upto seqCodeSpec)) seqCodeUptoCard

/-- THE SECOND FORM's CARD OF 'deadlatchlaw21.GateCode'. -/
def gateCodeUptoCard : Claim7 := { stood := { row := gateCodeUptoRow, standIns := [], harness := (true, "e9e975fdd689ccf21bdb531b3a8406d0e765b5d952420d7cce987c53538c95cb"), looks := false }, kinds := [], alts := [], laidByText := true, laidKinds := [.data, .data, .widerDeep], laidTests := true, laidLooks := .later }
def GateCodeUptoCardSaid : Prop := Claim7.holds Tryd.pinned (.plain (OpenSpec.upto gateCodeSpec)) gateCodeUptoCard

/-- THE SECOND FORM's CARD OF 'deadlatchlaw19.SeqAlone'. -/
def seqAloneUptoCard : Claim7 := { stood := { row := seqAloneUptoRow, standIns := [], harness := (true, "e9e975fdd689ccf21bdb531b3a8406d0e765b5d952420d7cce987c53538c95cb"), looks := false }, kinds := [], alts := [], laidByText := true, laidKinds := [.data, .data, .widerDeep], laidTests := true, laidLooks := .later }
def SeqAloneUptoCardSaid : Prop := Claim7.holds Tryd.pinned (.plain (OpenSpec.upto seqAloneSpec)) seqAloneUptoCard

/-- THE SECOND FORM's CARD OF 'deadlatchlaw22.RwAlone'. -/
def rwAloneUptoCard : Claim7 := { stood := { row := rwAloneUptoRow, standIns := [], harness := (true, "e9e975fdd689ccf21bdb531b3a8406d0e765b5d952420d7cce987c53538c95cb"), looks := false }, kinds := [], alts := [], laidByText := true, laidKinds := [.data, .data, .widerDeep], laidTests := true, laidLooks := .later }
def RwAloneUptoCardSaid : Prop := Claim7.holds Tryd.pinned (.plain (OpenSpec.upto rwAloneSpec)) rwAloneUptoCard
end Rows
end Go.Proofs.YtmhfpjnkjlhbpaaDoor

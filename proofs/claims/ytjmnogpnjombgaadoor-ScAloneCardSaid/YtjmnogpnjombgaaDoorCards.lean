/-
  DERIVED. GIVEN WITH THE SEED: THE CARDS: each row of YtjmnogpnjombgaaDoorRows.lean that lists a variable, with what it lists TIED to the program's text (the seventh form; the later family's looks); each row that meets fmt, with fmt's text TOLD by the authors' own Lean function (tested against real Go, not proved from fmt's source: count such statements apart). THE CARD IS WHAT COUNTS. Prove the row's statement (the work); the ties are given (YtjmnogpnjombgaaDoorTie.lean); close each card by the builder's one call (the guide's Derived/Test/ToyasCard.lean, 'card_holds'). Laid BY PROGRAM, IN A SANDBOX (cutbox-door.mjs). By AI agents, Wed Nov 11 2026. No macro, syntax, notation, axiom, sorry.
-/
import Derived.Test.YtjmnogpnjombgaaDoorRows
import GoSem.ClaimSeven
namespace Go.Proofs.YtjmnogpnjombgaaDoor
namespace Rows

/-- THE TIED CARD OF 'deadlatchlaw08.CoreAsks'. -/
def coreAsksCard : Claim7 := { stood := { row := coreAsksRow, standIns := [], harness := (true, "568fc824c215942b5e2ccfee60795dc5b23538f72671af1d72ad6492f093a6ff"), looks := false }, kinds := [], alts := [], laidByText := true, laidKinds := [.data, .data], laidTests := true, laidLooks := .later }
def CoreAsksCardSaid : Prop := Claim7.holds Tryd.pinned (.plain (OpenSpec.ofChange coreAsksSpec)) coreAsksCard

/-- THE TIED CARD OF 'deadlatchlaw08.CoreOne'. -/
def coreOneCard : Claim7 := { stood := { row := coreOneRow, standIns := [], harness := (true, "568fc824c215942b5e2ccfee60795dc5b23538f72671af1d72ad6492f093a6ff"), looks := false }, kinds := [], alts := [], laidByText := true, laidKinds := [.data, .data], laidTests := true, laidLooks := .later }
def CoreOneCardSaid : Prop := Claim7.holds Tryd.pinned (.plain (OpenSpec.ofChange coreOneSpec)) coreOneCard

/-- THE TIED CARD OF 'deadlatchlaw08.CoreSame'. -/
def coreSameCard : Claim7 := { stood := { row := coreSameRow, standIns := [], harness := (true, "568fc824c215942b5e2ccfee60795dc5b23538f72671af1d72ad6492f093a6ff"), looks := false }, kinds := [], alts := [], laidByText := true, laidKinds := [.data, .data], laidTests := true, laidLooks := .later }
def CoreSameCardSaid : Prop := Claim7.holds Tryd.pinned (.plain (OpenSpec.ofChange coreSameSpec)) coreSameCard

/-- THE TIED CARD OF 'deadlatchlaw10.ScBoth'. -/
def scBothCard : Claim7 := { stood := { row := scBothRow, standIns := [], harness := (true, "568fc824c215942b5e2ccfee60795dc5b23538f72671af1d72ad6492f093a6ff"), looks := false }, kinds := [], alts := [], laidByText := true, laidKinds := [.data, .data], laidTests := true, laidLooks := .later }
def ScBothCardSaid : Prop := Claim7.holds Tryd.pinned (.plain (OpenSpec.ofChange scBothSpec)) scBothCard

/-- THE TIED CARD OF 'deadlatchlaw10.ScSees'. -/
def scSeesCard : Claim7 := { stood := { row := scSeesRow, standIns := [], harness := (true, "568fc824c215942b5e2ccfee60795dc5b23538f72671af1d72ad6492f093a6ff"), looks := false }, kinds := [], alts := [], laidByText := true, laidKinds := [.data, .data], laidTests := true, laidLooks := .later }
def ScSeesCardSaid : Prop := Claim7.holds Tryd.pinned (.plain (OpenSpec.ofChange scSeesSpec)) scSeesCard

/-- THE TIED CARD OF 'deadlatchlaw09.TsoSees'. -/
def tsoSeesCard : Claim7 := { stood := { row := tsoSeesRow, standIns := [], harness := (true, "568fc824c215942b5e2ccfee60795dc5b23538f72671af1d72ad6492f093a6ff"), looks := false }, kinds := [], alts := [], laidByText := true, laidKinds := [.data, .data], laidTests := true, laidLooks := .later }
def TsoSeesCardSaid : Prop := Claim7.holds Tryd.pinned (.plain (OpenSpec.ofChange tsoSeesSpec)) tsoSeesCard

/-- THE TIED CARD OF 'deadlatchlaw09.TsoOrders'. -/
def tsoOrdersCard : Claim7 := { stood := { row := tsoOrdersRow, standIns := [], harness := (true, "568fc824c215942b5e2ccfee60795dc5b23538f72671af1d72ad6492f093a6ff"), looks := false }, kinds := [], alts := [], laidByText := true, laidKinds := [.data, .data], laidTests := true, laidLooks := .later }
def TsoOrdersCardSaid : Prop := Claim7.holds Tryd.pinned (.plain (OpenSpec.ofChange tsoOrdersSpec)) tsoOrdersCard

/-- THE TIED CARD OF 'deadlatchlaw09.TsoApart'. -/
def tsoApartCard : Claim7 := { stood := { row := tsoApartRow, standIns := [], harness := (true, "568fc824c215942b5e2ccfee60795dc5b23538f72671af1d72ad6492f093a6ff"), looks := false }, kinds := [], alts := [], laidByText := true, laidKinds := [.data, .data], laidTests := true, laidLooks := .later }
def TsoApartCardSaid : Prop := Claim7.holds Tryd.pinned (.plain (OpenSpec.ofChange tsoApartSpec)) tsoApartCard

/-- THE TIED CARD OF 'deadlatchlaw10.ScAlone'. -/
def scAloneCard : Claim7 := { stood := { row := scAloneRow, standIns := [], harness := (true, "568fc824c215942b5e2ccfee60795dc5b23538f72671af1d72ad6492f093a6ff"), looks := false }, kinds := [], alts := [], laidByText := true, laidKinds := [.data, .data], laidTests := true, laidLooks := .later }
def ScAloneCardSaid : Prop := Claim7.holds Tryd.pinned (.plain (OpenSpec.ofChange scAloneSpec)) scAloneCard

/-- THE TIED CARD OF 'deadlatchlaw10.ScEager'. -/
def scEagerCard : Claim7 := { stood := { row := scEagerRow, standIns := [], harness := (true, "568fc824c215942b5e2ccfee60795dc5b23538f72671af1d72ad6492f093a6ff"), looks := false }, kinds := [], alts := [], laidByText := true, laidKinds := [.data, .data], laidTests := true, laidLooks := .later }
def ScEagerCardSaid : Prop := Claim7.holds Tryd.pinned (.plain (OpenSpec.ofChange scEagerSpec)) scEagerCard

/-- THE TIED CARD OF 'deadlatchlaw09.TsoTotal'. -/
def tsoTotalCard : Claim7 := { stood := { row := tsoTotalRow, standIns := [], harness := (true, "568fc824c215942b5e2ccfee60795dc5b23538f72671af1d72ad6492f093a6ff"), looks := false }, kinds := [], alts := [], laidByText := true, laidKinds := [.data, .data], laidTests := true, laidLooks := .later }
def TsoTotalCardSaid : Prop := Claim7.holds Tryd.pinned (.plain (OpenSpec.ofChange tsoTotalSpec)) tsoTotalCard

/-- THE SECOND FORM's CARD OF 'deadlatchlaw08.CoreAsks'. -/
def coreAsksUptoCard : Claim7 := { stood := { row := coreAsksUptoRow, standIns := [], harness := (true, "568fc824c215942b5e2ccfee60795dc5b23538f72671af1d72ad6492f093a6ff"), looks := false }, kinds := [], alts := [], laidByText := true, laidKinds := [.data, .data], laidTests := true, laidLooks := .later }
def CoreAsksUptoCardSaid : Prop := Claim7.holds Tryd.pinned (.plain (OpenSpec.upto coreAsksSpec)) coreAsksUptoCard

/-- THE SECOND FORM's CARD OF 'deadlatchlaw08.CoreOne'. -/
def coreOneUptoCard : Claim7 := { stood := { row := coreOneUptoRow, standIns := [], harness := (true, "568fc824c215942b5e2ccfee60795dc5b23538f72671af1d72ad6492f093a6ff"), looks := false }, kinds := [], alts := [], laidByText := true, laidKinds := [.data, .data], laidTests := true, laidLooks := .later }
def CoreOneUptoCardSaid : Prop := Claim7.holds Tryd.pinned (.plain (OpenSpec.upto coreOneSpec)) coreOneUptoCard

/-- THE SECOND FORM's CARD OF 'deadlatchlaw08.CoreSame'. -/
def coreSameUptoCard : Claim7 := { stood := { row := coreSameUptoRow, standIns := [], harness := (true, "568fc824c215942b5e2ccfee60795dc5b23538f72671af1d72ad6492f093a6ff"), looks := false }, kinds := [], alts := [], laidByText := true, laidKinds := [.data, .data], laidTests := true, laidLooks := .later }
def CoreSameUptoCardSaid : Prop := Claim7.holds Tryd.pinned (.plain (OpenSpec.upto coreSameSpec)) coreSameUptoCard

/-- THE SECOND FORM's CARD OF 'deadlatchlaw10.ScBoth'. -/
def scBothUptoCard : Claim7 := { stood := { row := scBothUptoRow, standIns := [], harness := (true, "568fc824c215942b5e2ccfee60795dc5b23538f72671af1d72ad6492f093a6ff"), looks := false }, kinds := [], alts := [], laidByText := true, laidKinds := [.data, .data], laidTests := true, laidLooks := .later }
def ScBothUptoCardSaid : Prop := Claim7.holds Tryd.pinned (.plain (OpenSpec.upto scBothSpec)) scBothUptoCard

/-- THE SECOND FORM's CARD OF 'deadlatchlaw10.ScSees'. -/
def scSeesUptoCard : Claim7 := { stood := { row := scSeesUptoRow, standIns := [], harness := (true, "568fc824c215942b5e2ccfee60795dc5b23538f72671af1d72ad6492f093a6ff"), looks := false }, kinds := [], alts := [], laidByText := true, laidKinds := [.data, .data], laidTests := true, laidLooks := .later }
def ScSeesUptoCardSaid : Prop := Claim7.holds Tryd.pinned (.plain (OpenSpec.upto scSeesSpec)) scSeesUptoCard

/-- THE SECOND FORM's CARD OF 'deadlatchlaw09.TsoSees'. -/
def tsoSeesUptoCard : Claim7 := { stood := { row := tsoSeesUptoRow, standIns := [], harness := (true, "568fc824c215942b5e2ccfee60795dc5b23538f72671af1d72ad6492f093a6ff"), looks := false }, kinds := [], alts := [], laidByText := true, laidKinds := [.data, .data], laidTests := true, laidLooks := .later }
def TsoSeesUptoCardSaid : Prop := Claim7.holds Tryd.pinned (.plain (OpenSpec.upto tsoSeesSpec)) tsoSeesUptoCard

/-- THE SECOND FORM's CARD OF 'deadlatchlaw09.TsoOrders'. -/
def tsoOrdersUptoCard : Claim7 := { stood := { row := tsoOrdersUptoRow, standIns := [], harness := (true, "568fc824c215942b5e2ccfee60795dc5b23538f72671af1d72ad6492f093a6ff"), looks := false }, kinds := [], alts := [], laidByText := true, laidKinds := [.data, .data], laidTests := true, laidLooks := .later }
def TsoOrdersUptoCardSaid : Prop := Claim7.holds Tryd.pinned (.plain (OpenSpec.upto tsoOrdersSpec)) tsoOrdersUptoCard

/-- THE SECOND FORM's CARD OF 'deadlatchlaw09.TsoApart'. -/
def tsoApartUptoCard : Claim7 := { stood := { row := tsoApartUptoRow, standIns := [], harness := (true, "568fc824c215942b5e2ccfee60795dc5b23538f72671af1d72ad6492f093a6ff"), looks := false }, kinds := [], alts := [], laidByText := true, laidKinds := [.data, .data], laidTests := true, laidLooks := .later }
def TsoApartUptoCardSaid : Prop := Claim7.holds Tryd.pinned (.plain (OpenSpec.upto tsoApartSpec)) tsoApartUptoCard

/-- THE SECOND FORM's CARD OF 'deadlatchlaw10.ScAlone'. -/
def scAloneUptoCard : Claim7 := { stood := { row := scAloneUptoRow, standIns := [], harness := (true, "568fc824c215942b5e2ccfee60795dc5b23538f72671af1d72ad6492f093a6ff"), looks := false }, kinds := [], alts := [], laidByText := true, laidKinds := [.data, .data], laidTests := true, laidLooks := .later }
def ScAloneUptoCardSaid : Prop := Claim7.holds Tryd.pinned (.plain (OpenSpec.upto scAloneSpec)) scAloneUptoCard

/-- THE SECOND FORM's CARD OF 'deadlatchlaw10.ScEager'. -/
def scEagerUptoCard : Claim7 := { stood := { row := scEagerUptoRow, standIns := [], harness := (true, "568fc824c215942b5e2ccfee60795dc5b23538f72671af1d72ad6492f093a6ff"), looks := false }, kinds := [], alts := [], laidByText := true, laidKinds := [.data, .data], laidTests := true, laidLooks := .later }
def ScEagerUptoCardSaid : Prop := Claim7.holds Tryd.pinned (.plain (OpenSpec.upto scEagerSpec)) scEagerUptoCard

/-- THE SECOND FORM's CARD OF 'deadlatchlaw09.TsoTotal'. -/
def tsoTotalUptoCard : Claim7 := { stood := { row := tsoTotalUptoRow, standIns := [], harness := (true, "568fc824c215942b5e2ccfee60795dc5b23538f72671af1d72ad6492f093a6ff"), looks := false }, kinds := [], alts := [], laidByText := true, laidKinds := [.data, .data], laidTests := true, laidLooks := .later }
def TsoTotalUptoCardSaid : Prop := Claim7.holds Tryd.pinned (.plain (OpenSpec.upto tsoTotalSpec)) tsoTotalUptoCard
end Rows
end Go.Proofs.YtjmnogpnjombgaaDoor

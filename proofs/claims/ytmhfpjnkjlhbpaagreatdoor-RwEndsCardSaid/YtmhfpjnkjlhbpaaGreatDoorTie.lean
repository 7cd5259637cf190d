/-
  DERIVED. GIVEN WITH THE SEED: THE PROGRAM's TIES (one call each: nine closed facts by the kernel) AND EACH ROW's TIE, after the 31st guide's Derived/Test/Toyas{Tie, Card}.lean. No idea stands in it: it is a product of the set-up. Laid BY PROGRAM, IN A SANDBOX (cutbox-door.mjs). By AI agents, Wed Nov 11 2026. No macro, syntax, notation, axiom, sorry.
-/
import Derived.Test.YtmhfpjnkjlhbpaaGreatDoorRows
import Derived.LaidByTextLater
import Derived.SevenTiedAt
import Derived.LaidSub
import Derived.LaidOnce
namespace Go.Proofs.YtmhfpjnkjlhbpaaGreatDoor
open Go
set_option maxRecDepth 100000
theorem seatTie1 : Tryz.prog.laidByTextLater [("deadlatch/isa.uses", Rows.laid_deadlatch_isa_uses), ("deadlatch/isa.names", Rows.laid_deadlatch_isa_names), ("deadlatch/obj.names", Rows.laid_deadlatch_obj_names)] [.data, .data, .widerDeep] true :=
  Program.laidByTextLater_by_one 24 8 29 (by kernel_rfl) (by kernel_rfl) (by kernel_rfl) (by kernel_rfl) (by kernel_rfl) (by kernel_rfl) (fun _ _ => by kernel_rfl)
theorem noOwnUnsafe : Tryz.pinned.checked.prog.headLifts.contains "ownunsafe" = false := by kernel_rfl
theorem tie : Tryz.prog.laidByTextLater [("deadlatch/isa.uses", Rows.laid_deadlatch_isa_uses), ("deadlatch/isa.names", Rows.laid_deadlatch_isa_names), ("deadlatch/obj.names", Rows.laid_deadlatch_obj_names)] [.data, .data, .widerDeep] true :=
  Program.laidByTextLater.sub seatTie1 ["deadlatch/isa.uses", "deadlatch/isa.names", "deadlatch/obj.names"] (by kernel_rfl) (by kernel_rfl)
theorem seqOne_row_tie : Rows.seqOneRow.laidByTextAt .later Tryz.pinned [.data, .data, .widerDeep] true :=
  OpenClaim.laidByTextAt_later rfl rfl tie noOwnUnsafe
theorem rwCode_row_tie : Rows.rwCodeRow.laidByTextAt .later Tryz.pinned [.data, .data, .widerDeep] true :=
  OpenClaim.laidByTextAt_later rfl rfl tie noOwnUnsafe
theorem rwOne_row_tie : Rows.rwOneRow.laidByTextAt .later Tryz.pinned [.data, .data, .widerDeep] true :=
  OpenClaim.laidByTextAt_later rfl rfl tie noOwnUnsafe
theorem seqWhole_row_tie : Rows.seqWholeRow.laidByTextAt .later Tryz.pinned [.data, .data, .widerDeep] true :=
  OpenClaim.laidByTextAt_later rfl rfl tie noOwnUnsafe
theorem gateTells_row_tie : Rows.gateTellsRow.laidByTextAt .later Tryz.pinned [.data, .data, .widerDeep] true :=
  OpenClaim.laidByTextAt_later rfl rfl tie noOwnUnsafe
theorem seqEnds_row_tie : Rows.seqEndsRow.laidByTextAt .later Tryz.pinned [.data, .data, .widerDeep] true :=
  OpenClaim.laidByTextAt_later rfl rfl tie noOwnUnsafe
theorem gateOnce_row_tie : Rows.gateOnceRow.laidByTextAt .later Tryz.pinned [.data, .data, .widerDeep] true :=
  OpenClaim.laidByTextAt_later rfl rfl tie noOwnUnsafe
theorem rwEnds_row_tie : Rows.rwEndsRow.laidByTextAt .later Tryz.pinned [.data, .data, .widerDeep] true :=
  OpenClaim.laidByTextAt_later rfl rfl tie noOwnUnsafe
theorem gateMeets_row_tie : Rows.gateMeetsRow.laidByTextAt .later Tryz.pinned [.data, .data, .widerDeep] true :=
  OpenClaim.laidByTextAt_later rfl rfl tie noOwnUnsafe
theorem gateWakes_row_tie : Rows.gateWakesRow.laidByTextAt .later Tryz.pinned [.data, .data, .widerDeep] true :=
  OpenClaim.laidByTextAt_later rfl rfl tie noOwnUnsafe
theorem gateGoes_row_tie : Rows.gateGoesRow.laidByTextAt .later Tryz.pinned [.data, .data, .widerDeep] true :=
  OpenClaim.laidByTextAt_later rfl rfl tie noOwnUnsafe
theorem seqOneUpto_row_tie : Rows.seqOneUptoRow.laidByTextAt .later Tryz.pinned [.data, .data, .widerDeep] true :=
  OpenClaim.laidByTextAt_later rfl rfl tie noOwnUnsafe
theorem rwCodeUpto_row_tie : Rows.rwCodeUptoRow.laidByTextAt .later Tryz.pinned [.data, .data, .widerDeep] true :=
  OpenClaim.laidByTextAt_later rfl rfl tie noOwnUnsafe
theorem rwOneUpto_row_tie : Rows.rwOneUptoRow.laidByTextAt .later Tryz.pinned [.data, .data, .widerDeep] true :=
  OpenClaim.laidByTextAt_later rfl rfl tie noOwnUnsafe
theorem seqWholeUpto_row_tie : Rows.seqWholeUptoRow.laidByTextAt .later Tryz.pinned [.data, .data, .widerDeep] true :=
  OpenClaim.laidByTextAt_later rfl rfl tie noOwnUnsafe
theorem gateTellsUpto_row_tie : Rows.gateTellsUptoRow.laidByTextAt .later Tryz.pinned [.data, .data, .widerDeep] true :=
  OpenClaim.laidByTextAt_later rfl rfl tie noOwnUnsafe
theorem seqEndsUpto_row_tie : Rows.seqEndsUptoRow.laidByTextAt .later Tryz.pinned [.data, .data, .widerDeep] true :=
  OpenClaim.laidByTextAt_later rfl rfl tie noOwnUnsafe
theorem gateOnceUpto_row_tie : Rows.gateOnceUptoRow.laidByTextAt .later Tryz.pinned [.data, .data, .widerDeep] true :=
  OpenClaim.laidByTextAt_later rfl rfl tie noOwnUnsafe
theorem rwEndsUpto_row_tie : Rows.rwEndsUptoRow.laidByTextAt .later Tryz.pinned [.data, .data, .widerDeep] true :=
  OpenClaim.laidByTextAt_later rfl rfl tie noOwnUnsafe
theorem gateMeetsUpto_row_tie : Rows.gateMeetsUptoRow.laidByTextAt .later Tryz.pinned [.data, .data, .widerDeep] true :=
  OpenClaim.laidByTextAt_later rfl rfl tie noOwnUnsafe
theorem gateWakesUpto_row_tie : Rows.gateWakesUptoRow.laidByTextAt .later Tryz.pinned [.data, .data, .widerDeep] true :=
  OpenClaim.laidByTextAt_later rfl rfl tie noOwnUnsafe
theorem gateGoesUpto_row_tie : Rows.gateGoesUptoRow.laidByTextAt .later Tryz.pinned [.data, .data, .widerDeep] true :=
  OpenClaim.laidByTextAt_later rfl rfl tie noOwnUnsafe
end Go.Proofs.YtmhfpjnkjlhbpaaGreatDoor

/-
  DERIVED. GIVEN WITH THE SEED: THE PROGRAM's TIES (one call each: nine closed facts by the kernel) AND EACH ROW's TIE, after the 31st guide's Derived/Test/Toyas{Tie, Card}.lean. No idea stands in it: it is a product of the set-up. Laid BY PROGRAM, IN A SANDBOX (cutbox-door.mjs). By AI agents, Wed Nov 11 2026. No macro, syntax, notation, axiom, sorry.
-/
import Derived.Test.YtoophonmonojcaaDoorRows
import Derived.LaidByTextLater
import Derived.SevenTiedAt
import Derived.LaidSub
import Derived.LaidOnce
namespace Go.Proofs.YtoophonmonojcaaDoor
open Go
set_option maxRecDepth 100000
theorem seatTie1 : Tryd.prog.laidByTextLater [("errors.errorType", Rows.laid_errors_errorType), ("jotter/octet.table", Rows.laid_jotter_octet_table), ("jotter/wire.size", Rows.laid_jotter_wire_size), ("jotter/wire.shapes", Rows.laid_jotter_wire_shapes), ("jotter/wire.itemShapes", Rows.laid_jotter_wire_itemShapes), ("jotter/wire.itemFields", Rows.laid_jotter_wire_itemFields)] [.handle, .data, .data, .widerDeep, .widerDeep, .data] true :=
  Program.laidByTextLater_by_one 49 8 17 (by kernel_rfl) (by kernel_rfl) (by kernel_rfl) (by kernel_rfl) (by kernel_rfl) (by kernel_rfl) (fun _ _ => by kernel_rfl)
theorem noOwnUnsafe : Tryd.pinned.checked.prog.headLifts.contains "ownunsafe" = false := by kernel_rfl
theorem tie : Tryd.prog.laidByTextLater [("errors.errorType", Rows.laid_errors_errorType), ("jotter/octet.table", Rows.laid_jotter_octet_table), ("jotter/wire.size", Rows.laid_jotter_wire_size), ("jotter/wire.shapes", Rows.laid_jotter_wire_shapes)] [.handle, .data, .data, .widerDeep] true :=
  Program.laidByTextLater.sub seatTie1 ["errors.errorType", "jotter/octet.table", "jotter/wire.size", "jotter/wire.shapes"] (by kernel_rfl) (by kernel_rfl)
theorem wireRefuses_row_tie : Rows.wireRefusesRow.laidByTextAt .later Tryd.pinned [.handle, .data, .data, .widerDeep] true :=
  OpenClaim.laidByTextAt_later rfl rfl tie noOwnUnsafe
theorem wireTakes_row_tie : Rows.wireTakesRow.laidByTextAt .later Tryd.pinned [.handle, .data, .data, .widerDeep] true :=
  OpenClaim.laidByTextAt_later rfl rfl tie noOwnUnsafe
theorem wireEncodes_row_tie : Rows.wireEncodesRow.laidByTextAt .later Tryd.pinned [.handle, .data, .data, .widerDeep] true :=
  OpenClaim.laidByTextAt_later rfl rfl tie noOwnUnsafe
theorem wireDecodes_row_tie : Rows.wireDecodesRow.laidByTextAt .later Tryd.pinned [.handle, .data, .data, .widerDeep] true :=
  OpenClaim.laidByTextAt_later rfl rfl tie noOwnUnsafe
theorem wireOne_row_tie : Rows.wireOneRow.laidByTextAt .later Tryd.pinned [.handle, .data, .data, .widerDeep] true :=
  OpenClaim.laidByTextAt_later rfl rfl tie noOwnUnsafe
theorem wireTold_row_tie : Rows.wireToldRow.laidByTextAt .later Tryd.pinned [.handle, .data, .data, .widerDeep] true :=
  OpenClaim.laidByTextAt_later rfl rfl tie noOwnUnsafe
theorem wireFaults_row_tie : Rows.wireFaultsRow.laidByTextAt .later Tryd.pinned [.handle, .data, .data, .widerDeep] true :=
  OpenClaim.laidByTextAt_later rfl rfl tie noOwnUnsafe
theorem tie2 : Tryd.prog.laidByTextLater [("jotter/octet.table", Rows.laid_jotter_octet_table), ("jotter/wire.size", Rows.laid_jotter_wire_size), ("jotter/wire.itemShapes", Rows.laid_jotter_wire_itemShapes), ("jotter/wire.itemFields", Rows.laid_jotter_wire_itemFields)] [.data, .data, .widerDeep, .data] true :=
  Program.laidByTextLater.sub seatTie1 ["jotter/octet.table", "jotter/wire.size", "jotter/wire.itemShapes", "jotter/wire.itemFields"] (by kernel_rfl) (by kernel_rfl)
theorem wireLogs_row_tie : Rows.wireLogsRow.laidByTextAt .later Tryd.pinned [.data, .data, .widerDeep, .data] true :=
  OpenClaim.laidByTextAt_later rfl rfl tie2 noOwnUnsafe
theorem tie3 : Tryd.prog.laidByTextLater [("errors.errorType", Rows.laid_errors_errorType), ("jotter/octet.table", Rows.laid_jotter_octet_table)] [.handle, .data] true :=
  Program.laidByTextLater.sub seatTie1 ["errors.errorType", "jotter/octet.table"] (by kernel_rfl) (by kernel_rfl)
theorem walRound_row_tie : Rows.walRoundRow.laidByTextAt .later Tryd.pinned [.handle, .data] true :=
  OpenClaim.laidByTextAt_later rfl rfl tie3 noOwnUnsafe
theorem walFrames_row_tie : Rows.walFramesRow.laidByTextAt .later Tryd.pinned [.handle, .data] true :=
  OpenClaim.laidByTextAt_later rfl rfl tie3 noOwnUnsafe
theorem walScans_row_tie : Rows.walScansRow.laidByTextAt .later Tryd.pinned [.handle, .data] true :=
  OpenClaim.laidByTextAt_later rfl rfl tie3 noOwnUnsafe
theorem walPrefix_row_tie : Rows.walPrefixRow.laidByTextAt .later Tryd.pinned [.handle, .data] true :=
  OpenClaim.laidByTextAt_later rfl rfl tie3 noOwnUnsafe
theorem walTold_row_tie : Rows.walToldRow.laidByTextAt .later Tryd.pinned [.handle, .data] true :=
  OpenClaim.laidByTextAt_later rfl rfl tie3 noOwnUnsafe
theorem walWhole_row_tie : Rows.walWholeRow.laidByTextAt .later Tryd.pinned [.handle, .data] true :=
  OpenClaim.laidByTextAt_later rfl rfl tie3 noOwnUnsafe
theorem walOpens_row_tie : Rows.walOpensRow.laidByTextAt .later Tryd.pinned [.handle, .data] true :=
  OpenClaim.laidByTextAt_later rfl rfl tie3 noOwnUnsafe
theorem walKeeps_row_tie : Rows.walKeepsRow.laidByTextAt .later Tryd.pinned [.handle, .data] true :=
  OpenClaim.laidByTextAt_later rfl rfl tie3 noOwnUnsafe
theorem tie4 : Tryd.prog.laidByTextLater [("errors.errorType", Rows.laid_errors_errorType), ("jotter/wire.size", Rows.laid_jotter_wire_size), ("jotter/wire.itemShapes", Rows.laid_jotter_wire_itemShapes), ("jotter/wire.itemFields", Rows.laid_jotter_wire_itemFields)] [.handle, .data, .widerDeep, .data] true :=
  Program.laidByTextLater.sub seatTie1 ["errors.errorType", "jotter/wire.size", "jotter/wire.itemShapes", "jotter/wire.itemFields"] (by kernel_rfl) (by kernel_rfl)
theorem wireWrites_row_tie : Rows.wireWritesRow.laidByTextAt .later Tryd.pinned [.handle, .data, .widerDeep, .data] true :=
  OpenClaim.laidByTextAt_later rfl rfl tie4 noOwnUnsafe
theorem wireReads_row_tie : Rows.wireReadsRow.laidByTextAt .later Tryd.pinned [.handle, .data, .widerDeep, .data] true :=
  OpenClaim.laidByTextAt_later rfl rfl tie4 noOwnUnsafe
theorem wireItems_row_tie : Rows.wireItemsRow.laidByTextAt .later Tryd.pinned [.handle, .data, .widerDeep, .data] true :=
  OpenClaim.laidByTextAt_later rfl rfl tie4 noOwnUnsafe
theorem wireRefusesUpto_row_tie : Rows.wireRefusesUptoRow.laidByTextAt .later Tryd.pinned [.handle, .data, .data, .widerDeep] true :=
  OpenClaim.laidByTextAt_later rfl rfl tie noOwnUnsafe
theorem wireLogsUpto_row_tie : Rows.wireLogsUptoRow.laidByTextAt .later Tryd.pinned [.data, .data, .widerDeep, .data] true :=
  OpenClaim.laidByTextAt_later rfl rfl tie2 noOwnUnsafe
theorem walRoundUpto_row_tie : Rows.walRoundUptoRow.laidByTextAt .later Tryd.pinned [.handle, .data] true :=
  OpenClaim.laidByTextAt_later rfl rfl tie3 noOwnUnsafe
theorem walFramesUpto_row_tie : Rows.walFramesUptoRow.laidByTextAt .later Tryd.pinned [.handle, .data] true :=
  OpenClaim.laidByTextAt_later rfl rfl tie3 noOwnUnsafe
theorem walScansUpto_row_tie : Rows.walScansUptoRow.laidByTextAt .later Tryd.pinned [.handle, .data] true :=
  OpenClaim.laidByTextAt_later rfl rfl tie3 noOwnUnsafe
theorem walPrefixUpto_row_tie : Rows.walPrefixUptoRow.laidByTextAt .later Tryd.pinned [.handle, .data] true :=
  OpenClaim.laidByTextAt_later rfl rfl tie3 noOwnUnsafe
theorem walToldUpto_row_tie : Rows.walToldUptoRow.laidByTextAt .later Tryd.pinned [.handle, .data] true :=
  OpenClaim.laidByTextAt_later rfl rfl tie3 noOwnUnsafe
theorem walWholeUpto_row_tie : Rows.walWholeUptoRow.laidByTextAt .later Tryd.pinned [.handle, .data] true :=
  OpenClaim.laidByTextAt_later rfl rfl tie3 noOwnUnsafe
theorem wireWritesUpto_row_tie : Rows.wireWritesUptoRow.laidByTextAt .later Tryd.pinned [.handle, .data, .widerDeep, .data] true :=
  OpenClaim.laidByTextAt_later rfl rfl tie4 noOwnUnsafe
theorem wireReadsUpto_row_tie : Rows.wireReadsUptoRow.laidByTextAt .later Tryd.pinned [.handle, .data, .widerDeep, .data] true :=
  OpenClaim.laidByTextAt_later rfl rfl tie4 noOwnUnsafe
theorem wireItemsUpto_row_tie : Rows.wireItemsUptoRow.laidByTextAt .later Tryd.pinned [.handle, .data, .widerDeep, .data] true :=
  OpenClaim.laidByTextAt_later rfl rfl tie4 noOwnUnsafe
theorem walOpensUpto_row_tie : Rows.walOpensUptoRow.laidByTextAt .later Tryd.pinned [.handle, .data] true :=
  OpenClaim.laidByTextAt_later rfl rfl tie3 noOwnUnsafe
theorem wireTakesUpto_row_tie : Rows.wireTakesUptoRow.laidByTextAt .later Tryd.pinned [.handle, .data, .data, .widerDeep] true :=
  OpenClaim.laidByTextAt_later rfl rfl tie noOwnUnsafe
theorem walKeepsUpto_row_tie : Rows.walKeepsUptoRow.laidByTextAt .later Tryd.pinned [.handle, .data] true :=
  OpenClaim.laidByTextAt_later rfl rfl tie3 noOwnUnsafe
theorem wireEncodesUpto_row_tie : Rows.wireEncodesUptoRow.laidByTextAt .later Tryd.pinned [.handle, .data, .data, .widerDeep] true :=
  OpenClaim.laidByTextAt_later rfl rfl tie noOwnUnsafe
theorem wireDecodesUpto_row_tie : Rows.wireDecodesUptoRow.laidByTextAt .later Tryd.pinned [.handle, .data, .data, .widerDeep] true :=
  OpenClaim.laidByTextAt_later rfl rfl tie noOwnUnsafe
theorem wireOneUpto_row_tie : Rows.wireOneUptoRow.laidByTextAt .later Tryd.pinned [.handle, .data, .data, .widerDeep] true :=
  OpenClaim.laidByTextAt_later rfl rfl tie noOwnUnsafe
theorem wireToldUpto_row_tie : Rows.wireToldUptoRow.laidByTextAt .later Tryd.pinned [.handle, .data, .data, .widerDeep] true :=
  OpenClaim.laidByTextAt_later rfl rfl tie noOwnUnsafe
theorem wireFaultsUpto_row_tie : Rows.wireFaultsUptoRow.laidByTextAt .later Tryd.pinned [.handle, .data, .data, .widerDeep] true :=
  OpenClaim.laidByTextAt_later rfl rfl tie noOwnUnsafe
end Go.Proofs.YtoophonmonojcaaDoor

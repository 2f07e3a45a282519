/-
  DERIVED. GIVEN WITH THE SEED: THE CARDS: each row of YtoophonmonojcaaDoorRows.lean that lists a variable, with what it lists TIED to the program's text (the seventh form; the later family's looks); each row that meets fmt, with fmt's text TOLD by the authors' own Lean function (tested against real Go, not proved from fmt's source: count such statements apart). THE CARD IS WHAT COUNTS. Prove the row's statement (the work); the ties are given (YtoophonmonojcaaDoorTie.lean); close each card by the builder's one call (the guide's Derived/Test/ToyasCard.lean, 'card_holds'). Laid BY PROGRAM, IN A SANDBOX (cutbox-door.mjs). By AI agents, Wed Nov 11 2026. No macro, syntax, notation, axiom, sorry.
-/
import Derived.Test.YtoophonmonojcaaDoorRows
import GoSem.ClaimSeven
namespace Go.Proofs.YtoophonmonojcaaDoor
namespace Rows

/-- THE TIED CARD OF 'jotterlaw06.WireRefuses'. -/
def wireRefusesCard : Claim7 := { stood := { row := wireRefusesRow, standIns := [], harness := (true, "1f4ce68a3e1aaf6deb115d7e134b57d2c70031040cc426e97310185a84dd245e"), looks := true }, kinds := [], alts := [], laidByText := true, laidKinds := [.handle, .data, .data, .widerDeep], laidTests := true, laidLooks := .later }
def WireRefusesCardSaid : Prop := Claim7.holds Tryd.pinned (.plain (OpenSpec.ofChange wireRefusesSpec)) wireRefusesCard

/-- THE TIED CARD OF 'jotterlaw06.WireLogs'. -/
def wireLogsCard : Claim7 := { stood := { row := wireLogsRow, standIns := [], harness := (true, "1f4ce68a3e1aaf6deb115d7e134b57d2c70031040cc426e97310185a84dd245e"), looks := true }, kinds := [], alts := [], laidByText := true, laidKinds := [.data, .data, .widerDeep, .data], laidTests := true, laidLooks := .later }
def WireLogsCardSaid : Prop := Claim7.holds Tryd.pinned (.plain (OpenSpec.ofChange wireLogsSpec)) wireLogsCard

/-- THE TIED CARD OF 'jotterlaw03.WalRound'. -/
def walRoundCard : Claim7 := { stood := { row := walRoundRow, standIns := [], harness := (true, "1f4ce68a3e1aaf6deb115d7e134b57d2c70031040cc426e97310185a84dd245e"), looks := true }, kinds := [], alts := [], laidByText := true, laidKinds := [.handle, .data], laidTests := true, laidLooks := .later }
def WalRoundCardSaid : Prop := Claim7.holds Tryd.pinned (.plain (OpenSpec.ofChange walRoundSpec)) walRoundCard

/-- THE TIED CARD OF 'jotterlaw03.WalFrames'. -/
def walFramesCard : Claim7 := { stood := { row := walFramesRow, standIns := [], harness := (true, "1f4ce68a3e1aaf6deb115d7e134b57d2c70031040cc426e97310185a84dd245e"), looks := true }, kinds := [], alts := [], laidByText := true, laidKinds := [.handle, .data], laidTests := true, laidLooks := .later }
def WalFramesCardSaid : Prop := Claim7.holds Tryd.pinned (.plain (OpenSpec.ofChange walFramesSpec)) walFramesCard

/-- THE TIED CARD OF 'jotterlaw03.WalScans'. -/
def walScansCard : Claim7 := { stood := { row := walScansRow, standIns := [], harness := (true, "1f4ce68a3e1aaf6deb115d7e134b57d2c70031040cc426e97310185a84dd245e"), looks := true }, kinds := [], alts := [], laidByText := true, laidKinds := [.handle, .data], laidTests := true, laidLooks := .later }
def WalScansCardSaid : Prop := Claim7.holds Tryd.pinned (.plain (OpenSpec.ofChange walScansSpec)) walScansCard

/-- THE TIED CARD OF 'jotterlaw03.WalPrefix'. -/
def walPrefixCard : Claim7 := { stood := { row := walPrefixRow, standIns := [], harness := (true, "1f4ce68a3e1aaf6deb115d7e134b57d2c70031040cc426e97310185a84dd245e"), looks := true }, kinds := [], alts := [], laidByText := true, laidKinds := [.handle, .data], laidTests := true, laidLooks := .later }
def WalPrefixCardSaid : Prop := Claim7.holds Tryd.pinned (.plain (OpenSpec.ofChange walPrefixSpec)) walPrefixCard

/-- THE TIED CARD OF 'jotterlaw03.WalTold'. -/
def walToldCard : Claim7 := { stood := { row := walToldRow, standIns := [], harness := (true, "1f4ce68a3e1aaf6deb115d7e134b57d2c70031040cc426e97310185a84dd245e"), looks := true }, kinds := [], alts := [], laidByText := true, laidKinds := [.handle, .data], laidTests := true, laidLooks := .later }
def WalToldCardSaid : Prop := Claim7.holds Tryd.pinned (.plain (OpenSpec.ofChange walToldSpec)) walToldCard

/-- THE TIED CARD OF 'jotterlaw03.WalWhole'. -/
def walWholeCard : Claim7 := { stood := { row := walWholeRow, standIns := [], harness := (true, "1f4ce68a3e1aaf6deb115d7e134b57d2c70031040cc426e97310185a84dd245e"), looks := true }, kinds := [], alts := [], laidByText := true, laidKinds := [.handle, .data], laidTests := true, laidLooks := .later }
def WalWholeCardSaid : Prop := Claim7.holds Tryd.pinned (.plain (OpenSpec.ofChange walWholeSpec)) walWholeCard

/-- THE TIED CARD OF 'jotterlaw06.WireWrites'. -/
def wireWritesCard : Claim7 := { stood := { row := wireWritesRow, standIns := [], harness := (true, "1f4ce68a3e1aaf6deb115d7e134b57d2c70031040cc426e97310185a84dd245e"), looks := true }, kinds := [], alts := [], laidByText := true, laidKinds := [.handle, .data, .widerDeep, .data], laidTests := true, laidLooks := .later }
def WireWritesCardSaid : Prop := Claim7.holds Tryd.pinned (.plain (OpenSpec.ofChange wireWritesSpec)) wireWritesCard

/-- THE TIED CARD OF 'jotterlaw06.WireReads'. -/
def wireReadsCard : Claim7 := { stood := { row := wireReadsRow, standIns := [], harness := (true, "1f4ce68a3e1aaf6deb115d7e134b57d2c70031040cc426e97310185a84dd245e"), looks := true }, kinds := [], alts := [], laidByText := true, laidKinds := [.handle, .data, .widerDeep, .data], laidTests := true, laidLooks := .later }
def WireReadsCardSaid : Prop := Claim7.holds Tryd.pinned (.plain (OpenSpec.ofChange wireReadsSpec)) wireReadsCard

/-- THE TIED CARD OF 'jotterlaw06.WireItems'. -/
def wireItemsCard : Claim7 := { stood := { row := wireItemsRow, standIns := [], harness := (true, "1f4ce68a3e1aaf6deb115d7e134b57d2c70031040cc426e97310185a84dd245e"), looks := true }, kinds := [], alts := [], laidByText := true, laidKinds := [.handle, .data, .widerDeep, .data], laidTests := true, laidLooks := .later }
def WireItemsCardSaid : Prop := Claim7.holds Tryd.pinned (.plain (OpenSpec.ofChange wireItemsSpec)) wireItemsCard

/-- THE TIED CARD OF 'jotterlaw03.WalOpens'. -/
def walOpensCard : Claim7 := { stood := { row := walOpensRow, standIns := [], harness := (true, "1f4ce68a3e1aaf6deb115d7e134b57d2c70031040cc426e97310185a84dd245e"), looks := true }, kinds := [], alts := [], laidByText := true, laidKinds := [.handle, .data], laidTests := true, laidLooks := .later }
def WalOpensCardSaid : Prop := Claim7.holds Tryd.pinned (.plain (OpenSpec.ofChange walOpensSpec)) walOpensCard

/-- THE TIED CARD OF 'jotterlaw06.WireTakes'. -/
def wireTakesCard : Claim7 := { stood := { row := wireTakesRow, standIns := [], harness := (true, "1f4ce68a3e1aaf6deb115d7e134b57d2c70031040cc426e97310185a84dd245e"), looks := true }, kinds := [], alts := [], laidByText := true, laidKinds := [.handle, .data, .data, .widerDeep], laidTests := true, laidLooks := .later }
def WireTakesCardSaid : Prop := Claim7.holds Tryd.pinned (.plain (OpenSpec.ofChange wireTakesSpec)) wireTakesCard

/-- THE TIED CARD OF 'jotterlaw03.WalKeeps'. -/
def walKeepsCard : Claim7 := { stood := { row := walKeepsRow, standIns := [], harness := (true, "1f4ce68a3e1aaf6deb115d7e134b57d2c70031040cc426e97310185a84dd245e"), looks := true }, kinds := [], alts := [], laidByText := true, laidKinds := [.handle, .data], laidTests := true, laidLooks := .later }
def WalKeepsCardSaid : Prop := Claim7.holds Tryd.pinned (.plain (OpenSpec.ofChange walKeepsSpec)) walKeepsCard

/-- THE TIED CARD OF 'jotterlaw06.WireEncodes'. -/
def wireEncodesCard : Claim7 := { stood := { row := wireEncodesRow, standIns := [], harness := (true, "1f4ce68a3e1aaf6deb115d7e134b57d2c70031040cc426e97310185a84dd245e"), looks := true }, kinds := [], alts := [], laidByText := true, laidKinds := [.handle, .data, .data, .widerDeep], laidTests := true, laidLooks := .later }
def WireEncodesCardSaid : Prop := Claim7.holds Tryd.pinned (.plain (OpenSpec.ofChange wireEncodesSpec)) wireEncodesCard

/-- THE TIED CARD OF 'jotterlaw06.WireDecodes'. -/
def wireDecodesCard : Claim7 := { stood := { row := wireDecodesRow, standIns := [], harness := (true, "1f4ce68a3e1aaf6deb115d7e134b57d2c70031040cc426e97310185a84dd245e"), looks := true }, kinds := [], alts := [], laidByText := true, laidKinds := [.handle, .data, .data, .widerDeep], laidTests := true, laidLooks := .later }
def WireDecodesCardSaid : Prop := Claim7.holds Tryd.pinned (.plain (OpenSpec.ofChange wireDecodesSpec)) wireDecodesCard

/-- THE TIED CARD OF 'jotterlaw06.WireOne'. -/
def wireOneCard : Claim7 := { stood := { row := wireOneRow, standIns := [], harness := (true, "1f4ce68a3e1aaf6deb115d7e134b57d2c70031040cc426e97310185a84dd245e"), looks := true }, kinds := [], alts := [], laidByText := true, laidKinds := [.handle, .data, .data, .widerDeep], laidTests := true, laidLooks := .later }
def WireOneCardSaid : Prop := Claim7.holds Tryd.pinned (.plain (OpenSpec.ofChange wireOneSpec)) wireOneCard

/-- THE TIED CARD OF 'jotterlaw06.WireTold'. -/
def wireToldCard : Claim7 := { stood := { row := wireToldRow, standIns := [], harness := (true, "1f4ce68a3e1aaf6deb115d7e134b57d2c70031040cc426e97310185a84dd245e"), looks := true }, kinds := [], alts := [], laidByText := true, laidKinds := [.handle, .data, .data, .widerDeep], laidTests := true, laidLooks := .later }
def WireToldCardSaid : Prop := Claim7.holds Tryd.pinned (.plain (OpenSpec.ofChange wireToldSpec)) wireToldCard

/-- THE TIED CARD OF 'jotterlaw06.WireFaults'. -/
def wireFaultsCard : Claim7 := { stood := { row := wireFaultsRow, standIns := [], harness := (true, "1f4ce68a3e1aaf6deb115d7e134b57d2c70031040cc426e97310185a84dd245e"), looks := true }, kinds := [], alts := [], laidByText := true, laidKinds := [.handle, .data, .data, .widerDeep], laidTests := true, laidLooks := .later }
def WireFaultsCardSaid : Prop := Claim7.holds Tryd.pinned (.plain (OpenSpec.ofChange wireFaultsSpec)) wireFaultsCard

/-- THE SECOND FORM's CARD OF 'jotterlaw06.WireRefuses'. -/
def wireRefusesUptoCard : Claim7 := { stood := { row := wireRefusesUptoRow, standIns := [], harness := (true, "1f4ce68a3e1aaf6deb115d7e134b57d2c70031040cc426e97310185a84dd245e"), looks := true }, kinds := [], alts := [], laidByText := true, laidKinds := [.handle, .data, .data, .widerDeep], laidTests := true, laidLooks := .later }
def WireRefusesUptoCardSaid : Prop := Claim7.holds Tryd.pinned (.plain (OpenSpec.upto wireRefusesSpec)) wireRefusesUptoCard

/-- THE SECOND FORM's CARD OF 'jotterlaw06.WireLogs'. -/
def wireLogsUptoCard : Claim7 := { stood := { row := wireLogsUptoRow, standIns := [], harness := (true, "1f4ce68a3e1aaf6deb115d7e134b57d2c70031040cc426e97310185a84dd245e"), looks := true }, kinds := [], alts := [], laidByText := true, laidKinds := [.data, .data, .widerDeep, .data], laidTests := true, laidLooks := .later }
def WireLogsUptoCardSaid : Prop := Claim7.holds Tryd.pinned (.plain (OpenSpec.upto wireLogsSpec)) wireLogsUptoCard

/-- THE SECOND FORM's CARD OF 'jotterlaw03.WalRound'. -/
def walRoundUptoCard : Claim7 := { stood := { row := walRoundUptoRow, standIns := [], harness := (true, "1f4ce68a3e1aaf6deb115d7e134b57d2c70031040cc426e97310185a84dd245e"), looks := true }, kinds := [], alts := [], laidByText := true, laidKinds := [.handle, .data], laidTests := true, laidLooks := .later }
def WalRoundUptoCardSaid : Prop := Claim7.holds Tryd.pinned (.plain (OpenSpec.upto walRoundSpec)) walRoundUptoCard

/-- THE SECOND FORM's CARD OF 'jotterlaw03.WalFrames'. -/
def walFramesUptoCard : Claim7 := { stood := { row := walFramesUptoRow, standIns := [], harness := (true, "1f4ce68a3e1aaf6deb115d7e134b57d2c70031040cc426e97310185a84dd245e"), looks := true }, kinds := [], alts := [], laidByText := true, laidKinds := [.handle, .data], laidTests := true, laidLooks := .later }
def WalFramesUptoCardSaid : Prop := Claim7.holds Tryd.pinned (.plain (OpenSpec.upto walFramesSpec)) walFramesUptoCard

/-- THE SECOND FORM's CARD OF 'jotterlaw03.WalScans'. -/
def walScansUptoCard : Claim7 := { stood := { row := walScansUptoRow, standIns := [], harness := (true, "1f4ce68a3e1aaf6deb115d7e134b57d2c70031040cc426e97310185a84dd245e"), looks := true }, kinds := [], alts := [], laidByText := true, laidKinds := [.handle, .data], laidTests := true, laidLooks := .later }
def WalScansUptoCardSaid : Prop := Claim7.holds Tryd.pinned (.plain (OpenSpec.upto walScansSpec)) walScansUptoCard

/-- THE SECOND FORM's CARD OF 'jotterlaw03.WalPrefix'. -/
def walPrefixUptoCard : Claim7 := { stood := { row := walPrefixUptoRow, standIns := [], harness := (true, "1f4ce68a3e1aaf6deb115d7e134b57d2c70031040cc426e97310185a84dd245e"), looks := true }, kinds := [], alts := [], laidByText := true, laidKinds := [.handle, .data], laidTests := true, laidLooks := .later }
def WalPrefixUptoCardSaid : Prop := Claim7.holds Tryd.pinned (.plain (OpenSpec.upto walPrefixSpec)) walPrefixUptoCard

/-- THE SECOND FORM's CARD OF 'jotterlaw03.WalTold'. -/
def walToldUptoCard : Claim7 := { stood := { row := walToldUptoRow, standIns := [], harness := (true, "1f4ce68a3e1aaf6deb115d7e134b57d2c70031040cc426e97310185a84dd245e"), looks := true }, kinds := [], alts := [], laidByText := true, laidKinds := [.handle, .data], laidTests := true, laidLooks := .later }
def WalToldUptoCardSaid : Prop := Claim7.holds Tryd.pinned (.plain (OpenSpec.upto walToldSpec)) walToldUptoCard

/-- THE SECOND FORM's CARD OF 'jotterlaw03.WalWhole'. -/
def walWholeUptoCard : Claim7 := { stood := { row := walWholeUptoRow, standIns := [], harness := (true, "1f4ce68a3e1aaf6deb115d7e134b57d2c70031040cc426e97310185a84dd245e"), looks := true }, kinds := [], alts := [], laidByText := true, laidKinds := [.handle, .data], laidTests := true, laidLooks := .later }
def WalWholeUptoCardSaid : Prop := Claim7.holds Tryd.pinned (.plain (OpenSpec.upto walWholeSpec)) walWholeUptoCard

/-- THE SECOND FORM's CARD OF 'jotterlaw06.WireWrites'. -/
def wireWritesUptoCard : Claim7 := { stood := { row := wireWritesUptoRow, standIns := [], harness := (true, "1f4ce68a3e1aaf6deb115d7e134b57d2c70031040cc426e97310185a84dd245e"), looks := true }, kinds := [], alts := [], laidByText := true, laidKinds := [.handle, .data, .widerDeep, .data], laidTests := true, laidLooks := .later }
def WireWritesUptoCardSaid : Prop := Claim7.holds Tryd.pinned (.plain (OpenSpec.upto wireWritesSpec)) wireWritesUptoCard

/-- THE SECOND FORM's CARD OF 'jotterlaw06.WireReads'. -/
def wireReadsUptoCard : Claim7 := { stood := { row := wireReadsUptoRow, standIns := [], harness := (true, "1f4ce68a3e1aaf6deb115d7e134b57d2c70031040cc426e97310185a84dd245e"), looks := true }, kinds := [], alts := [], laidByText := true, laidKinds := [.handle, .data, .widerDeep, .data], laidTests := true, laidLooks := .later }
def WireReadsUptoCardSaid : Prop := Claim7.holds Tryd.pinned (.plain (OpenSpec.upto wireReadsSpec)) wireReadsUptoCard

/-- THE SECOND FORM's CARD OF 'jotterlaw06.WireItems'. -/
def wireItemsUptoCard : Claim7 := { stood := { row := wireItemsUptoRow, standIns := [], harness := (true, "1f4ce68a3e1aaf6deb115d7e134b57d2c70031040cc426e97310185a84dd245e"), looks := true }, kinds := [], alts := [], laidByText := true, laidKinds := [.handle, .data, .widerDeep, .data], laidTests := true, laidLooks := .later }
def WireItemsUptoCardSaid : Prop := Claim7.holds Tryd.pinned (.plain (OpenSpec.upto wireItemsSpec)) wireItemsUptoCard

/-- THE SECOND FORM's CARD OF 'jotterlaw03.WalOpens'. -/
def walOpensUptoCard : Claim7 := { stood := { row := walOpensUptoRow, standIns := [], harness := (true, "1f4ce68a3e1aaf6deb115d7e134b57d2c70031040cc426e97310185a84dd245e"), looks := true }, kinds := [], alts := [], laidByText := true, laidKinds := [.handle, .data], laidTests := true, laidLooks := .later }
def WalOpensUptoCardSaid : Prop := Claim7.holds Tryd.pinned (.plain (OpenSpec.upto walOpensSpec)) walOpensUptoCard

/-- THE SECOND FORM's CARD OF 'jotterlaw06.WireTakes'. -/
def wireTakesUptoCard : Claim7 := { stood := { row := wireTakesUptoRow, standIns := [], harness := (true, "1f4ce68a3e1aaf6deb115d7e134b57d2c70031040cc426e97310185a84dd245e"), looks := true }, kinds := [], alts := [], laidByText := true, laidKinds := [.handle, .data, .data, .widerDeep], laidTests := true, laidLooks := .later }
def WireTakesUptoCardSaid : Prop := Claim7.holds Tryd.pinned (.plain (OpenSpec.upto wireTakesSpec)) wireTakesUptoCard

/-- THE SECOND FORM's CARD OF 'jotterlaw03.WalKeeps'. -/
def walKeepsUptoCard : Claim7 := { stood := { row := walKeepsUptoRow, standIns := [], harness := (true, "1f4ce68a3e1aaf6deb115d7e134b57d2c70031040cc426e97310185a84dd245e"), looks := true }, kinds := [], alts := [], laidByText := true, laidKinds := [.handle, .data], laidTests := true, laidLooks := .later }
def WalKeepsUptoCardSaid : Prop := Claim7.holds Tryd.pinned (.plain (OpenSpec.upto walKeepsSpec)) walKeepsUptoCard

/-- THE SECOND FORM's CARD OF 'jotterlaw06.WireEncodes'. -/
def wireEncodesUptoCard : Claim7 := { stood := { row := wireEncodesUptoRow, standIns := [], harness := (true, "1f4ce68a3e1aaf6deb115d7e134b57d2c70031040cc426e97310185a84dd245e"), looks := true }, kinds := [], alts := [], laidByText := true, laidKinds := [.handle, .data, .data, .widerDeep], laidTests := true, laidLooks := .later }
def WireEncodesUptoCardSaid : Prop := Claim7.holds Tryd.pinned (.plain (OpenSpec.upto wireEncodesSpec)) wireEncodesUptoCard

/-- THE SECOND FORM's CARD OF 'jotterlaw06.WireDecodes'. -/
def wireDecodesUptoCard : Claim7 := { stood := { row := wireDecodesUptoRow, standIns := [], harness := (true, "1f4ce68a3e1aaf6deb115d7e134b57d2c70031040cc426e97310185a84dd245e"), looks := true }, kinds := [], alts := [], laidByText := true, laidKinds := [.handle, .data, .data, .widerDeep], laidTests := true, laidLooks := .later }
def WireDecodesUptoCardSaid : Prop := Claim7.holds Tryd.pinned (.plain (OpenSpec.upto wireDecodesSpec)) wireDecodesUptoCard

/-- THE SECOND FORM's CARD OF 'jotterlaw06.WireOne'. -/
def wireOneUptoCard : Claim7 := { stood := { row := wireOneUptoRow, standIns := [], harness := (true, "1f4ce68a3e1aaf6deb115d7e134b57d2c70031040cc426e97310185a84dd245e"), looks := true }, kinds := [], alts := [], laidByText := true, laidKinds := [.handle, .data, .data, .widerDeep], laidTests := true, laidLooks := .later }
def WireOneUptoCardSaid : Prop := Claim7.holds Tryd.pinned (.plain (OpenSpec.upto wireOneSpec)) wireOneUptoCard

/-- THE SECOND FORM's CARD OF 'jotterlaw06.WireTold'. -/
def wireToldUptoCard : Claim7 := { stood := { row := wireToldUptoRow, standIns := [], harness := (true, "1f4ce68a3e1aaf6deb115d7e134b57d2c70031040cc426e97310185a84dd245e"), looks := true }, kinds := [], alts := [], laidByText := true, laidKinds := [.handle, .data, .data, .widerDeep], laidTests := true, laidLooks := .later }
def WireToldUptoCardSaid : Prop := Claim7.holds Tryd.pinned (.plain (OpenSpec.upto wireToldSpec)) wireToldUptoCard

/-- THE SECOND FORM's CARD OF 'jotterlaw06.WireFaults'. -/
def wireFaultsUptoCard : Claim7 := { stood := { row := wireFaultsUptoRow, standIns := [], harness := (true, "1f4ce68a3e1aaf6deb115d7e134b57d2c70031040cc426e97310185a84dd245e"), looks := true }, kinds := [], alts := [], laidByText := true, laidKinds := [.handle, .data, .data, .widerDeep], laidTests := true, laidLooks := .later }
def WireFaultsUptoCardSaid : Prop := Claim7.holds Tryd.pinned (.plain (OpenSpec.upto wireFaultsSpec)) wireFaultsUptoCard
end Rows
end Go.Proofs.YtoophonmonojcaaDoor

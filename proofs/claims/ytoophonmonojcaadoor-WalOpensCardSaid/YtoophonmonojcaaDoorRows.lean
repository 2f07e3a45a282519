/-
  NARROWER THAN 'FOR EVERY INPUT', by the rows' own cells (each row's printed sentence says how): WireRefuses: laid · WireLogs: laid · WalRound: laid · WalFrames: laid · WalScans: laid · WalPrefix: laid · WalTold: laid · WalWhole: laid · WireWrites: laid · WireReads: laid · WireItems: laid · WalOpens: laid · WireTakes: laid · WalKeeps: laid · WireEncodes: laid · WireDecodes: laid · WireOne: laid · WireTold: laid · WireFaults: laid.
  DERIVED. THE GIVEN ROWS OF THIS SEAT. 19 by the template 'for every input the law returns true; each argument reads behind the call as it read before'; 0 by the template 'total and deterministic' (their statements: YtoophonmonojcaaDoorTotals.lean).
  GIVEN WITH THE SEED: the statements are not yours to turn. If you find one false, say at which input.
  Laid BY PROGRAM, IN A SANDBOX (cutbox-rows.mjs): the forced cells as the released guide's own fill.sh prints them over the translation fe0750381f7f6af3… (all of the seat's roots in one cut). By AI agents, Wed Nov 11 2026. No macro, syntax, notation, axiom, sorry.
-/
import Derived.Test.YtoophonmonojcaaDoorChecked
import GoSem.Claim
import GoSem.ClaimJoined
import GoSem.ClaimMapViews
import Derived.JoinedTies
import Derived.KernelRfl
namespace Go.Proofs.YtoophonmonojcaaDoor
/- THE CELL 'sum', in the pinned program and in every row, IS THE sha256 OF THE DUMP (.gsa) THAT YtoophonmonojcaaDoorProg.lean LOADS. Nothing in Lean hashes anything: it is a label: what it is worth is what the hold of that sum in a sandbox is worth. -/
noncomputable def Tryd.pinned : Pinned := { name := "ytoophonmonojcaadoor", sum := "fe0750381f7f6af32aa8d6125f24e6d37bf034c152ea74371eb5ec33514b5b63", checked := Tryd.checked }
namespace Rows
def none {H : Type} : Left H := { results := [], args := [] }

/- WHAT THE LISTED PACKAGE-LEVEL VARIABLES READ AS WHEN THE CALL BEGINS. Each datum BY PROGRAM (the guide's laid-datum.mjs) off the statement by which the dump's own 'gosem.cut.vars' lays the variable. In a bare row this is a premise. The card (YtoophonmonojcaaDoorCards.lean) ties it to the program's text. -/
def laid_errors_errorType {H : Type} : DataW H := .iface "internal/reflectlite.rtype" (.agg [.ptr (.lit (.string [101, 114, 114, 111, 114]))])
def laid_jotter_octet_table {H : Type} : DataW H := .agg [.lit (.int .u32 0), .lit (.int .u32 498536548), .lit (.int .u32 997073096), .lit (.int .u32 651767980), .lit (.int .u32 1994146192), .lit (.int .u32 1802195444), .lit (.int .u32 1303535960), .lit (.int .u32 1342533948), .lit (.int .u32 3988292384), .lit (.int .u32 4027552580), .lit (.int .u32 3604390888), .lit (.int .u32 3412177804), .lit (.int .u32 2607071920), .lit (.int .u32 2262029012), .lit (.int .u32 2685067896), .lit (.int .u32 3183342108)]
def laid_jotter_wire_size {H : Type} : DataW H := .agg [.lit (.int .i64 1), .lit (.int .i64 1), .lit (.int .i64 1), .lit (.int .i64 2), .lit (.int .i64 1), .lit (.int .i64 2), .lit (.int .i64 2), .lit (.int .i64 2), .lit (.int .i64 2), .lit (.int .i64 1), .lit (.int .i64 2), .lit (.int .i64 1), .lit (.int .i64 1), .lit (.int .i64 1)]
def laid_jotter_wire_shapes {H : Type} : DataW H := .agg [.nil, .slice [.lit (.int .i64 1), .lit (.int .i64 2), .lit (.int .i64 3), .lit (.int .i64 4)] [], .slice [.lit (.int .i64 1), .lit (.int .i64 2), .lit (.int .i64 5), .lit (.int .i64 6), .lit (.int .i64 8), .lit (.int .i64 9), .lit (.int .i64 10), .lit (.int .i64 11), .lit (.int .i64 12), .lit (.int .i64 13)] [], .slice [.lit (.int .i64 1), .lit (.int .i64 2), .lit (.int .i64 6)] [], .slice [.lit (.int .i64 1), .lit (.int .i64 2)] [], .slice [.lit (.int .i64 1), .lit (.int .i64 2), .lit (.int .i64 5), .lit (.int .i64 6), .lit (.int .i64 7), .lit (.int .i64 9), .lit (.int .i64 10), .lit (.int .i64 11), .lit (.int .i64 12), .lit (.int .i64 13)] [], .slice [.lit (.int .i64 1), .lit (.int .i64 2), .lit (.int .i64 6)] []]
def laid_jotter_wire_itemShapes {H : Type} : DataW H := .agg [.nil, .slice [.lit (.int .i64 1)] [], .slice [.lit (.int .i64 8), .lit (.int .i64 9), .lit (.int .i64 10), .lit (.int .i64 11), .lit (.int .i64 12), .lit (.int .i64 13)] []]
def laid_jotter_wire_itemFields {H : Type} : DataW H := .agg [.lit (.int .i64 1), .lit (.int .i64 8), .lit (.int .i64 9), .lit (.int .i64 10), .lit (.int .i64 11), .lit (.int .i64 12), .lit (.int .i64 13)]

/-- 'jotterlaw06.WireRefuses': WHATEVER THE INPUT: true; the input reads as it did. -/
def wireRefusesSpec : ChangeSpec := { name := "wireRefuses", fn := fun _ => fun
  | [d1, d2, d3] => { results := [.lit (.bool true)], args := [d1, d2, d3] }
  | _ => none }
def wireRefusesRow : OpenClaim := { program := "ytoophonmonojcaadoor", sum := "fe0750381f7f6af32aa8d6125f24e6d37bf034c152ea74371eb5ec33514b5b63", func := "jotter/jotterlaw06.WireRefuses", spec := "wireRefuses", inPlace := ["internal/reflectlite.ValueOf", "(internal/reflectlite.Value).Type", "(internal/reflectlite.Value).IsNil", "internal/reflectlite.TypeOf", "(internal/reflectlite.Value).Elem", "(internal/reflectlite.Value).Set"], unfollowed := true, recurses := true, named := ["jotter/wire.shapes", "jotter/wire.size", "jotter/octet.table", "errors.errorType"], apart := false, laid := [("errors.errorType", laid_errors_errorType), ("jotter/octet.table", laid_jotter_octet_table), ("jotter/wire.size", laid_jotter_wire_size), ("jotter/wire.shapes", laid_jotter_wire_shapes)] }
def WireRefusesSaid : Prop := wireRefusesRow.holds Tryd.pinned (OpenSpec.ofChange wireRefusesSpec)

/-- ITS FALSE NEIGHBOUR: 'it returns false'. Refute it at one input. -/
def wireRefusesWrong : ChangeSpec := { name := "wireRefuses", fn := fun _ => fun
  | [d1, d2, d3] => { results := [.lit (.bool false)], args := [d1, d2, d3] }
  | _ => none }
def WireRefusesWrongFalsely : Prop := wireRefusesRow.holds Tryd.pinned (OpenSpec.ofChange wireRefusesWrong)

/-- 'jotterlaw06.WireLogs': WHATEVER THE INPUT: true; the input reads as it did. -/
def wireLogsSpec : ChangeSpec := { name := "wireLogs", fn := fun _ => fun
  | [d1, d2] => { results := [.lit (.bool true)], args := [d1, d2] }
  | _ => none }
def wireLogsRow : OpenClaim := { program := "ytoophonmonojcaadoor", sum := "fe0750381f7f6af32aa8d6125f24e6d37bf034c152ea74371eb5ec33514b5b63", func := "jotter/jotterlaw06.WireLogs", spec := "wireLogs", inPlace := ["internal/reflectlite.TypeOf"], unfollowed := true, recurses := true, named := ["jotter/wire.itemShapes", "jotter/wire.itemFields", "jotter/wire.size", "jotter/octet.table"], apart := false, laid := [("jotter/octet.table", laid_jotter_octet_table), ("jotter/wire.size", laid_jotter_wire_size), ("jotter/wire.itemShapes", laid_jotter_wire_itemShapes), ("jotter/wire.itemFields", laid_jotter_wire_itemFields)] }
def WireLogsSaid : Prop := wireLogsRow.holds Tryd.pinned (OpenSpec.ofChange wireLogsSpec)

/-- ITS FALSE NEIGHBOUR: 'it returns false'. Refute it at one input. -/
def wireLogsWrong : ChangeSpec := { name := "wireLogs", fn := fun _ => fun
  | [d1, d2] => { results := [.lit (.bool false)], args := [d1, d2] }
  | _ => none }
def WireLogsWrongFalsely : Prop := wireLogsRow.holds Tryd.pinned (OpenSpec.ofChange wireLogsWrong)

/-- 'jotterlaw03.WalRound': WHATEVER THE INPUT: true; the input reads as it did. -/
def walRoundSpec : ChangeSpec := { name := "walRound", fn := fun _ => fun
  | [d] => { results := [.lit (.bool true)], args := [d] }
  | _ => none }
def walRoundRow : OpenClaim := { program := "ytoophonmonojcaadoor", sum := "fe0750381f7f6af32aa8d6125f24e6d37bf034c152ea74371eb5ec33514b5b63", func := "jotter/jotterlaw03.WalRound", spec := "walRound", inPlace := ["internal/reflectlite.TypeOf", "internal/reflectlite.ValueOf", "(internal/reflectlite.Value).Type", "(internal/reflectlite.Value).IsNil", "(internal/reflectlite.Value).Elem", "(internal/reflectlite.Value).Set"], unfollowed := true, recurses := true, named := ["jotter/octet.table", "errors.errorType"], apart := false, laid := [("errors.errorType", laid_errors_errorType), ("jotter/octet.table", laid_jotter_octet_table)] }
def WalRoundSaid : Prop := walRoundRow.holds Tryd.pinned (OpenSpec.ofChange walRoundSpec)

/-- ITS FALSE NEIGHBOUR: 'it returns false'. Refute it at one input. -/
def walRoundWrong : ChangeSpec := { name := "walRound", fn := fun _ => fun
  | [d] => { results := [.lit (.bool false)], args := [d] }
  | _ => none }
def WalRoundWrongFalsely : Prop := walRoundRow.holds Tryd.pinned (OpenSpec.ofChange walRoundWrong)

/-- 'jotterlaw03.WalFrames': WHATEVER THE INPUT: true; the input reads as it did. -/
def walFramesSpec : ChangeSpec := { name := "walFrames", fn := fun _ => fun
  | [d1, d2] => { results := [.lit (.bool true)], args := [d1, d2] }
  | _ => none }
def walFramesRow : OpenClaim := { program := "ytoophonmonojcaadoor", sum := "fe0750381f7f6af32aa8d6125f24e6d37bf034c152ea74371eb5ec33514b5b63", func := "jotter/jotterlaw03.WalFrames", spec := "walFrames", inPlace := ["internal/reflectlite.TypeOf", "internal/reflectlite.ValueOf", "(internal/reflectlite.Value).Type", "(internal/reflectlite.Value).IsNil", "(internal/reflectlite.Value).Elem", "(internal/reflectlite.Value).Set"], unfollowed := true, recurses := true, named := ["jotter/octet.table", "errors.errorType"], apart := false, laid := [("errors.errorType", laid_errors_errorType), ("jotter/octet.table", laid_jotter_octet_table)] }
def WalFramesSaid : Prop := walFramesRow.holds Tryd.pinned (OpenSpec.ofChange walFramesSpec)

/-- ITS FALSE NEIGHBOUR: 'it returns false'. Refute it at one input. -/
def walFramesWrong : ChangeSpec := { name := "walFrames", fn := fun _ => fun
  | [d1, d2] => { results := [.lit (.bool false)], args := [d1, d2] }
  | _ => none }
def WalFramesWrongFalsely : Prop := walFramesRow.holds Tryd.pinned (OpenSpec.ofChange walFramesWrong)

/-- 'jotterlaw03.WalScans': WHATEVER THE INPUT: true; the input reads as it did. -/
def walScansSpec : ChangeSpec := { name := "walScans", fn := fun _ => fun
  | [d1, d2] => { results := [.lit (.bool true)], args := [d1, d2] }
  | _ => none }
def walScansRow : OpenClaim := { program := "ytoophonmonojcaadoor", sum := "fe0750381f7f6af32aa8d6125f24e6d37bf034c152ea74371eb5ec33514b5b63", func := "jotter/jotterlaw03.WalScans", spec := "walScans", inPlace := ["internal/reflectlite.TypeOf", "internal/reflectlite.ValueOf", "(internal/reflectlite.Value).Type", "(internal/reflectlite.Value).IsNil", "(internal/reflectlite.Value).Elem", "(internal/reflectlite.Value).Set"], unfollowed := true, recurses := true, named := ["jotter/octet.table", "errors.errorType"], apart := false, laid := [("errors.errorType", laid_errors_errorType), ("jotter/octet.table", laid_jotter_octet_table)] }
def WalScansSaid : Prop := walScansRow.holds Tryd.pinned (OpenSpec.ofChange walScansSpec)

/-- ITS FALSE NEIGHBOUR: 'it returns false'. Refute it at one input. -/
def walScansWrong : ChangeSpec := { name := "walScans", fn := fun _ => fun
  | [d1, d2] => { results := [.lit (.bool false)], args := [d1, d2] }
  | _ => none }
def WalScansWrongFalsely : Prop := walScansRow.holds Tryd.pinned (OpenSpec.ofChange walScansWrong)

/-- 'jotterlaw03.WalPrefix': WHATEVER THE INPUT: true; the input reads as it did. -/
def walPrefixSpec : ChangeSpec := { name := "walPrefix", fn := fun _ => fun
  | [d1, d2] => { results := [.lit (.bool true)], args := [d1, d2] }
  | _ => none }
def walPrefixRow : OpenClaim := { program := "ytoophonmonojcaadoor", sum := "fe0750381f7f6af32aa8d6125f24e6d37bf034c152ea74371eb5ec33514b5b63", func := "jotter/jotterlaw03.WalPrefix", spec := "walPrefix", inPlace := ["internal/reflectlite.TypeOf", "internal/reflectlite.ValueOf", "(internal/reflectlite.Value).Type", "(internal/reflectlite.Value).IsNil", "(internal/reflectlite.Value).Elem", "(internal/reflectlite.Value).Set"], unfollowed := true, recurses := true, named := ["jotter/octet.table", "errors.errorType"], apart := false, laid := [("errors.errorType", laid_errors_errorType), ("jotter/octet.table", laid_jotter_octet_table)] }
def WalPrefixSaid : Prop := walPrefixRow.holds Tryd.pinned (OpenSpec.ofChange walPrefixSpec)

/-- ITS FALSE NEIGHBOUR: 'it returns false'. Refute it at one input. -/
def walPrefixWrong : ChangeSpec := { name := "walPrefix", fn := fun _ => fun
  | [d1, d2] => { results := [.lit (.bool false)], args := [d1, d2] }
  | _ => none }
def WalPrefixWrongFalsely : Prop := walPrefixRow.holds Tryd.pinned (OpenSpec.ofChange walPrefixWrong)

/-- 'jotterlaw03.WalTold': WHATEVER THE INPUT: true; the input reads as it did. -/
def walToldSpec : ChangeSpec := { name := "walTold", fn := fun _ => fun
  | [d1, d2, d3] => { results := [.lit (.bool true)], args := [d1, d2, d3] }
  | _ => none }
def walToldRow : OpenClaim := { program := "ytoophonmonojcaadoor", sum := "fe0750381f7f6af32aa8d6125f24e6d37bf034c152ea74371eb5ec33514b5b63", func := "jotter/jotterlaw03.WalTold", spec := "walTold", inPlace := ["internal/reflectlite.TypeOf", "internal/reflectlite.ValueOf", "(internal/reflectlite.Value).Type", "(internal/reflectlite.Value).IsNil", "(internal/reflectlite.Value).Elem", "(internal/reflectlite.Value).Set"], unfollowed := true, recurses := true, named := ["jotter/octet.table", "errors.errorType"], apart := false, laid := [("errors.errorType", laid_errors_errorType), ("jotter/octet.table", laid_jotter_octet_table)] }
def WalToldSaid : Prop := walToldRow.holds Tryd.pinned (OpenSpec.ofChange walToldSpec)

/-- ITS FALSE NEIGHBOUR: 'it returns false'. Refute it at one input. -/
def walToldWrong : ChangeSpec := { name := "walTold", fn := fun _ => fun
  | [d1, d2, d3] => { results := [.lit (.bool false)], args := [d1, d2, d3] }
  | _ => none }
def WalToldWrongFalsely : Prop := walToldRow.holds Tryd.pinned (OpenSpec.ofChange walToldWrong)

/-- 'jotterlaw03.WalWhole': WHATEVER THE INPUT: true; the input reads as it did. -/
def walWholeSpec : ChangeSpec := { name := "walWhole", fn := fun _ => fun
  | [d] => { results := [.lit (.bool true)], args := [d] }
  | _ => none }
def walWholeRow : OpenClaim := { program := "ytoophonmonojcaadoor", sum := "fe0750381f7f6af32aa8d6125f24e6d37bf034c152ea74371eb5ec33514b5b63", func := "jotter/jotterlaw03.WalWhole", spec := "walWhole", inPlace := ["internal/reflectlite.TypeOf", "internal/reflectlite.ValueOf", "(internal/reflectlite.Value).Type", "(internal/reflectlite.Value).IsNil", "(internal/reflectlite.Value).Elem", "(internal/reflectlite.Value).Set"], unfollowed := true, recurses := true, named := ["jotter/octet.table", "errors.errorType"], apart := false, laid := [("errors.errorType", laid_errors_errorType), ("jotter/octet.table", laid_jotter_octet_table)] }
def WalWholeSaid : Prop := walWholeRow.holds Tryd.pinned (OpenSpec.ofChange walWholeSpec)

/-- ITS FALSE NEIGHBOUR: 'it returns false'. Refute it at one input. -/
def walWholeWrong : ChangeSpec := { name := "walWhole", fn := fun _ => fun
  | [d] => { results := [.lit (.bool false)], args := [d] }
  | _ => none }
def WalWholeWrongFalsely : Prop := walWholeRow.holds Tryd.pinned (OpenSpec.ofChange walWholeWrong)

/-- 'jotterlaw06.WireWrites': WHATEVER THE INPUT: true; the input reads as it did. -/
def wireWritesSpec : ChangeSpec := { name := "wireWrites", fn := fun _ => fun
  | [d] => { results := [.lit (.bool true)], args := [d] }
  | _ => none }
def wireWritesRow : OpenClaim := { program := "ytoophonmonojcaadoor", sum := "fe0750381f7f6af32aa8d6125f24e6d37bf034c152ea74371eb5ec33514b5b63", func := "jotter/jotterlaw06.WireWrites", spec := "wireWrites", inPlace := ["internal/reflectlite.ValueOf", "(internal/reflectlite.Value).Type", "(internal/reflectlite.Value).IsNil", "internal/reflectlite.TypeOf", "(internal/reflectlite.Value).Elem", "(internal/reflectlite.Value).Set"], unfollowed := true, recurses := true, named := ["jotter/wire.itemShapes", "jotter/wire.itemFields", "jotter/wire.size", "errors.errorType"], apart := false, laid := [("errors.errorType", laid_errors_errorType), ("jotter/wire.size", laid_jotter_wire_size), ("jotter/wire.itemShapes", laid_jotter_wire_itemShapes), ("jotter/wire.itemFields", laid_jotter_wire_itemFields)] }
def WireWritesSaid : Prop := wireWritesRow.holds Tryd.pinned (OpenSpec.ofChange wireWritesSpec)

/-- ITS FALSE NEIGHBOUR: 'it returns false'. Refute it at one input. -/
def wireWritesWrong : ChangeSpec := { name := "wireWrites", fn := fun _ => fun
  | [d] => { results := [.lit (.bool false)], args := [d] }
  | _ => none }
def WireWritesWrongFalsely : Prop := wireWritesRow.holds Tryd.pinned (OpenSpec.ofChange wireWritesWrong)

/-- 'jotterlaw06.WireReads': WHATEVER THE INPUT: true; the input reads as it did. -/
def wireReadsSpec : ChangeSpec := { name := "wireReads", fn := fun _ => fun
  | [d] => { results := [.lit (.bool true)], args := [d] }
  | _ => none }
def wireReadsRow : OpenClaim := { program := "ytoophonmonojcaadoor", sum := "fe0750381f7f6af32aa8d6125f24e6d37bf034c152ea74371eb5ec33514b5b63", func := "jotter/jotterlaw06.WireReads", spec := "wireReads", inPlace := ["internal/reflectlite.ValueOf", "(internal/reflectlite.Value).Type", "(internal/reflectlite.Value).IsNil", "internal/reflectlite.TypeOf", "(internal/reflectlite.Value).Elem", "(internal/reflectlite.Value).Set"], unfollowed := true, recurses := true, named := ["jotter/wire.itemShapes", "jotter/wire.itemFields", "jotter/wire.size", "errors.errorType"], apart := false, laid := [("errors.errorType", laid_errors_errorType), ("jotter/wire.size", laid_jotter_wire_size), ("jotter/wire.itemShapes", laid_jotter_wire_itemShapes), ("jotter/wire.itemFields", laid_jotter_wire_itemFields)] }
def WireReadsSaid : Prop := wireReadsRow.holds Tryd.pinned (OpenSpec.ofChange wireReadsSpec)

/-- ITS FALSE NEIGHBOUR: 'it returns false'. Refute it at one input. -/
def wireReadsWrong : ChangeSpec := { name := "wireReads", fn := fun _ => fun
  | [d] => { results := [.lit (.bool false)], args := [d] }
  | _ => none }
def WireReadsWrongFalsely : Prop := wireReadsRow.holds Tryd.pinned (OpenSpec.ofChange wireReadsWrong)

/-- 'jotterlaw06.WireItems': WHATEVER THE INPUT: true; the input reads as it did. -/
def wireItemsSpec : ChangeSpec := { name := "wireItems", fn := fun _ => fun
  | [d1, d2] => { results := [.lit (.bool true)], args := [d1, d2] }
  | _ => none }
def wireItemsRow : OpenClaim := { program := "ytoophonmonojcaadoor", sum := "fe0750381f7f6af32aa8d6125f24e6d37bf034c152ea74371eb5ec33514b5b63", func := "jotter/jotterlaw06.WireItems", spec := "wireItems", inPlace := ["internal/reflectlite.ValueOf", "(internal/reflectlite.Value).Type", "(internal/reflectlite.Value).IsNil", "internal/reflectlite.TypeOf", "(internal/reflectlite.Value).Elem", "(internal/reflectlite.Value).Set"], unfollowed := true, recurses := true, named := ["jotter/wire.itemShapes", "jotter/wire.size", "jotter/wire.itemFields", "errors.errorType"], apart := false, laid := [("errors.errorType", laid_errors_errorType), ("jotter/wire.size", laid_jotter_wire_size), ("jotter/wire.itemShapes", laid_jotter_wire_itemShapes), ("jotter/wire.itemFields", laid_jotter_wire_itemFields)] }
def WireItemsSaid : Prop := wireItemsRow.holds Tryd.pinned (OpenSpec.ofChange wireItemsSpec)

/-- ITS FALSE NEIGHBOUR: 'it returns false'. Refute it at one input. -/
def wireItemsWrong : ChangeSpec := { name := "wireItems", fn := fun _ => fun
  | [d1, d2] => { results := [.lit (.bool false)], args := [d1, d2] }
  | _ => none }
def WireItemsWrongFalsely : Prop := wireItemsRow.holds Tryd.pinned (OpenSpec.ofChange wireItemsWrong)

/-- 'jotterlaw03.WalOpens': WHATEVER THE INPUT: true; the input reads as it did. -/
def walOpensSpec : ChangeSpec := { name := "walOpens", fn := fun _ => fun
  | [d1, d2] => { results := [.lit (.bool true)], args := [d1, d2] }
  | _ => none }
def walOpensRow : OpenClaim := { program := "ytoophonmonojcaadoor", sum := "fe0750381f7f6af32aa8d6125f24e6d37bf034c152ea74371eb5ec33514b5b63", func := "jotter/jotterlaw03.WalOpens", spec := "walOpens", inPlace := ["internal/reflectlite.TypeOf", "internal/reflectlite.ValueOf", "(internal/reflectlite.Value).Type", "(internal/reflectlite.Value).IsNil", "(internal/reflectlite.Value).Elem", "(internal/reflectlite.Value).Set"], unfollowed := true, recurses := true, named := ["jotter/octet.table", "errors.errorType"], apart := false, laid := [("errors.errorType", laid_errors_errorType), ("jotter/octet.table", laid_jotter_octet_table)] }
def WalOpensSaid : Prop := walOpensRow.holds Tryd.pinned (OpenSpec.ofChange walOpensSpec)

/-- ITS FALSE NEIGHBOUR: 'it returns false'. Refute it at one input. -/
def walOpensWrong : ChangeSpec := { name := "walOpens", fn := fun _ => fun
  | [d1, d2] => { results := [.lit (.bool false)], args := [d1, d2] }
  | _ => none }
def WalOpensWrongFalsely : Prop := walOpensRow.holds Tryd.pinned (OpenSpec.ofChange walOpensWrong)

/-- 'jotterlaw06.WireTakes': WHATEVER THE INPUT: true; the input reads as it did. -/
def wireTakesSpec : ChangeSpec := { name := "wireTakes", fn := fun _ => fun
  | [d1, d2] => { results := [.lit (.bool true)], args := [d1, d2] }
  | _ => none }
def wireTakesRow : OpenClaim := { program := "ytoophonmonojcaadoor", sum := "fe0750381f7f6af32aa8d6125f24e6d37bf034c152ea74371eb5ec33514b5b63", func := "jotter/jotterlaw06.WireTakes", spec := "wireTakes", inPlace := ["internal/reflectlite.ValueOf", "(internal/reflectlite.Value).Type", "(internal/reflectlite.Value).IsNil", "internal/reflectlite.TypeOf", "(internal/reflectlite.Value).Elem", "(internal/reflectlite.Value).Set"], unfollowed := true, recurses := true, named := ["jotter/wire.shapes", "jotter/wire.size", "jotter/octet.table", "errors.errorType"], apart := false, laid := [("errors.errorType", laid_errors_errorType), ("jotter/octet.table", laid_jotter_octet_table), ("jotter/wire.size", laid_jotter_wire_size), ("jotter/wire.shapes", laid_jotter_wire_shapes)] }
def WireTakesSaid : Prop := wireTakesRow.holds Tryd.pinned (OpenSpec.ofChange wireTakesSpec)

/-- ITS FALSE NEIGHBOUR: 'it returns false'. Refute it at one input. -/
def wireTakesWrong : ChangeSpec := { name := "wireTakes", fn := fun _ => fun
  | [d1, d2] => { results := [.lit (.bool false)], args := [d1, d2] }
  | _ => none }
def WireTakesWrongFalsely : Prop := wireTakesRow.holds Tryd.pinned (OpenSpec.ofChange wireTakesWrong)

/-- 'jotterlaw03.WalKeeps': WHATEVER THE INPUT: true; the input reads as it did. -/
def walKeepsSpec : ChangeSpec := { name := "walKeeps", fn := fun _ => fun
  | [d] => { results := [.lit (.bool true)], args := [d] }
  | _ => none }
def walKeepsRow : OpenClaim := { program := "ytoophonmonojcaadoor", sum := "fe0750381f7f6af32aa8d6125f24e6d37bf034c152ea74371eb5ec33514b5b63", func := "jotter/jotterlaw03.WalKeeps", spec := "walKeeps", inPlace := ["internal/reflectlite.TypeOf", "internal/reflectlite.ValueOf", "(internal/reflectlite.Value).Type", "(internal/reflectlite.Value).IsNil", "(internal/reflectlite.Value).Elem", "(internal/reflectlite.Value).Set"], unfollowed := true, recurses := true, named := ["jotter/octet.table", "errors.errorType"], apart := false, laid := [("errors.errorType", laid_errors_errorType), ("jotter/octet.table", laid_jotter_octet_table)] }
def WalKeepsSaid : Prop := walKeepsRow.holds Tryd.pinned (OpenSpec.ofChange walKeepsSpec)

/-- ITS FALSE NEIGHBOUR: 'it returns false'. Refute it at one input. -/
def walKeepsWrong : ChangeSpec := { name := "walKeeps", fn := fun _ => fun
  | [d] => { results := [.lit (.bool false)], args := [d] }
  | _ => none }
def WalKeepsWrongFalsely : Prop := walKeepsRow.holds Tryd.pinned (OpenSpec.ofChange walKeepsWrong)

/-- 'jotterlaw06.WireEncodes': WHATEVER THE INPUT: true; the input reads as it did. -/
def wireEncodesSpec : ChangeSpec := { name := "wireEncodes", fn := fun _ => fun
  | [d] => { results := [.lit (.bool true)], args := [d] }
  | _ => none }
def wireEncodesRow : OpenClaim := { program := "ytoophonmonojcaadoor", sum := "fe0750381f7f6af32aa8d6125f24e6d37bf034c152ea74371eb5ec33514b5b63", func := "jotter/jotterlaw06.WireEncodes", spec := "wireEncodes", inPlace := ["internal/reflectlite.ValueOf", "(internal/reflectlite.Value).Type", "(internal/reflectlite.Value).IsNil", "internal/reflectlite.TypeOf", "(internal/reflectlite.Value).Elem", "(internal/reflectlite.Value).Set"], unfollowed := true, recurses := true, named := ["jotter/wire.shapes", "jotter/wire.size", "jotter/octet.table", "errors.errorType"], apart := false, laid := [("errors.errorType", laid_errors_errorType), ("jotter/octet.table", laid_jotter_octet_table), ("jotter/wire.size", laid_jotter_wire_size), ("jotter/wire.shapes", laid_jotter_wire_shapes)] }
def WireEncodesSaid : Prop := wireEncodesRow.holds Tryd.pinned (OpenSpec.ofChange wireEncodesSpec)

/-- ITS FALSE NEIGHBOUR: 'it returns false'. Refute it at one input. -/
def wireEncodesWrong : ChangeSpec := { name := "wireEncodes", fn := fun _ => fun
  | [d] => { results := [.lit (.bool false)], args := [d] }
  | _ => none }
def WireEncodesWrongFalsely : Prop := wireEncodesRow.holds Tryd.pinned (OpenSpec.ofChange wireEncodesWrong)

/-- 'jotterlaw06.WireDecodes': WHATEVER THE INPUT: true; the input reads as it did. -/
def wireDecodesSpec : ChangeSpec := { name := "wireDecodes", fn := fun _ => fun
  | [d] => { results := [.lit (.bool true)], args := [d] }
  | _ => none }
def wireDecodesRow : OpenClaim := { program := "ytoophonmonojcaadoor", sum := "fe0750381f7f6af32aa8d6125f24e6d37bf034c152ea74371eb5ec33514b5b63", func := "jotter/jotterlaw06.WireDecodes", spec := "wireDecodes", inPlace := ["internal/reflectlite.ValueOf", "(internal/reflectlite.Value).Type", "(internal/reflectlite.Value).IsNil", "internal/reflectlite.TypeOf", "(internal/reflectlite.Value).Elem", "(internal/reflectlite.Value).Set"], unfollowed := true, recurses := true, named := ["jotter/wire.shapes", "jotter/wire.size", "jotter/octet.table", "errors.errorType"], apart := false, laid := [("errors.errorType", laid_errors_errorType), ("jotter/octet.table", laid_jotter_octet_table), ("jotter/wire.size", laid_jotter_wire_size), ("jotter/wire.shapes", laid_jotter_wire_shapes)] }
def WireDecodesSaid : Prop := wireDecodesRow.holds Tryd.pinned (OpenSpec.ofChange wireDecodesSpec)

/-- ITS FALSE NEIGHBOUR: 'it returns false'. Refute it at one input. -/
def wireDecodesWrong : ChangeSpec := { name := "wireDecodes", fn := fun _ => fun
  | [d] => { results := [.lit (.bool false)], args := [d] }
  | _ => none }
def WireDecodesWrongFalsely : Prop := wireDecodesRow.holds Tryd.pinned (OpenSpec.ofChange wireDecodesWrong)

/-- 'jotterlaw06.WireOne': WHATEVER THE INPUT: true; the input reads as it did. -/
def wireOneSpec : ChangeSpec := { name := "wireOne", fn := fun _ => fun
  | [d] => { results := [.lit (.bool true)], args := [d] }
  | _ => none }
def wireOneRow : OpenClaim := { program := "ytoophonmonojcaadoor", sum := "fe0750381f7f6af32aa8d6125f24e6d37bf034c152ea74371eb5ec33514b5b63", func := "jotter/jotterlaw06.WireOne", spec := "wireOne", inPlace := ["internal/reflectlite.ValueOf", "(internal/reflectlite.Value).Type", "(internal/reflectlite.Value).IsNil", "internal/reflectlite.TypeOf", "(internal/reflectlite.Value).Elem", "(internal/reflectlite.Value).Set"], unfollowed := true, recurses := true, named := ["jotter/wire.shapes", "jotter/wire.size", "jotter/octet.table", "errors.errorType"], apart := false, laid := [("errors.errorType", laid_errors_errorType), ("jotter/octet.table", laid_jotter_octet_table), ("jotter/wire.size", laid_jotter_wire_size), ("jotter/wire.shapes", laid_jotter_wire_shapes)] }
def WireOneSaid : Prop := wireOneRow.holds Tryd.pinned (OpenSpec.ofChange wireOneSpec)

/-- ITS FALSE NEIGHBOUR: 'it returns false'. Refute it at one input. -/
def wireOneWrong : ChangeSpec := { name := "wireOne", fn := fun _ => fun
  | [d] => { results := [.lit (.bool false)], args := [d] }
  | _ => none }
def WireOneWrongFalsely : Prop := wireOneRow.holds Tryd.pinned (OpenSpec.ofChange wireOneWrong)

/-- 'jotterlaw06.WireTold': WHATEVER THE INPUT: true; the input reads as it did. -/
def wireToldSpec : ChangeSpec := { name := "wireTold", fn := fun _ => fun
  | [d1, d2, d3] => { results := [.lit (.bool true)], args := [d1, d2, d3] }
  | _ => none }
def wireToldRow : OpenClaim := { program := "ytoophonmonojcaadoor", sum := "fe0750381f7f6af32aa8d6125f24e6d37bf034c152ea74371eb5ec33514b5b63", func := "jotter/jotterlaw06.WireTold", spec := "wireTold", inPlace := ["internal/reflectlite.ValueOf", "(internal/reflectlite.Value).Type", "(internal/reflectlite.Value).IsNil", "internal/reflectlite.TypeOf", "(internal/reflectlite.Value).Elem", "(internal/reflectlite.Value).Set"], unfollowed := true, recurses := true, named := ["jotter/wire.shapes", "jotter/wire.size", "jotter/octet.table", "errors.errorType"], apart := false, laid := [("errors.errorType", laid_errors_errorType), ("jotter/octet.table", laid_jotter_octet_table), ("jotter/wire.size", laid_jotter_wire_size), ("jotter/wire.shapes", laid_jotter_wire_shapes)] }
def WireToldSaid : Prop := wireToldRow.holds Tryd.pinned (OpenSpec.ofChange wireToldSpec)

/-- ITS FALSE NEIGHBOUR: 'it returns false'. Refute it at one input. -/
def wireToldWrong : ChangeSpec := { name := "wireTold", fn := fun _ => fun
  | [d1, d2, d3] => { results := [.lit (.bool false)], args := [d1, d2, d3] }
  | _ => none }
def WireToldWrongFalsely : Prop := wireToldRow.holds Tryd.pinned (OpenSpec.ofChange wireToldWrong)

/-- 'jotterlaw06.WireFaults': WHATEVER THE INPUT: true; the input reads as it did. -/
def wireFaultsSpec : ChangeSpec := { name := "wireFaults", fn := fun _ => fun
  | [d] => { results := [.lit (.bool true)], args := [d] }
  | _ => none }
def wireFaultsRow : OpenClaim := { program := "ytoophonmonojcaadoor", sum := "fe0750381f7f6af32aa8d6125f24e6d37bf034c152ea74371eb5ec33514b5b63", func := "jotter/jotterlaw06.WireFaults", spec := "wireFaults", inPlace := ["internal/reflectlite.ValueOf", "(internal/reflectlite.Value).Type", "(internal/reflectlite.Value).IsNil", "internal/reflectlite.TypeOf", "(internal/reflectlite.Value).Elem", "(internal/reflectlite.Value).Set"], unfollowed := true, recurses := true, named := ["jotter/wire.shapes", "jotter/octet.table", "errors.errorType", "jotter/wire.size"], apart := false, laid := [("errors.errorType", laid_errors_errorType), ("jotter/octet.table", laid_jotter_octet_table), ("jotter/wire.size", laid_jotter_wire_size), ("jotter/wire.shapes", laid_jotter_wire_shapes)] }
def WireFaultsSaid : Prop := wireFaultsRow.holds Tryd.pinned (OpenSpec.ofChange wireFaultsSpec)

/-- ITS FALSE NEIGHBOUR: 'it returns false'. Refute it at one input. -/
def wireFaultsWrong : ChangeSpec := { name := "wireFaults", fn := fun _ => fun
  | [d] => { results := [.lit (.bool false)], args := [d] }
  | _ => none }
def WireFaultsWrongFalsely : Prop := wireFaultsRow.holds Tryd.pinned (OpenSpec.ofChange wireFaultsWrong)

/- THE SECOND FORM. 'bulk': how many values and letters a reading holds, each counted each time it is reached (what is shared counts as often as it is met; a slice's spare places count too). A statement '..UptoSaid' is the law's where the arguments, and the package variables that the reading takes, are together of bulk at most 1048576: NARROWER than '..Said'. Prove '..Said' where nothing that the law and all that it calls make is longer than what came in: it says more and counts as full. Else prove '..UptoSaid'. A law counts once. -/
mutual
def uptoBulk {H : Type} : DataW H → Nat
  | .lit (.string bytes) => bytes.length + 1
  | .lit _ => 1
  | .nil => 1
  | .ptr d => uptoBulk d + 1
  | .slice elems spare => uptoBulkAll elems + uptoBulkAll spare + 1
  | .agg parts => uptoBulkAll parts + 1
  | .iface _ d => uptoBulk d + 1
  | .map entries => uptoBulkEntries entries + 1
  | .held _ => 1
def uptoBulkAll {H : Type} : List (DataW H) → Nat
  | [] => 0
  | d :: r => uptoBulk d + uptoBulkAll r
def uptoBulkEntries {H : Type} : List (Lit × DataW H) → Nat
  | [] => 0
  | x :: r => uptoBulkEntry x + uptoBulkEntries r
def uptoBulkEntry {H : Type} : Lit × DataW H → Nat
  | (.string bytes, d) => bytes.length + uptoBulk d + 1
  | (_, d) => uptoBulk d + 1
 end
def uptoSmall : (H : Type) → List (DataW H) → Bool := fun _ ds => decide (uptoBulkAll ds ≤ 1048576)
def OpenSpec.upto (s : _root_.Go.ChangeSpec) : _root_.Go.OpenSpec := { _root_.Go.OpenSpec.ofChange s with cond := some uptoSmall }

/-- 'jotterlaw06.WireRefuses', WHERE WHAT IT READS IS OF BULK AT MOST 1048576: true; the input reads as it did. -/
def wireRefusesUptoRow : OpenClaim := { program := "ytoophonmonojcaadoor", sum := "fe0750381f7f6af32aa8d6125f24e6d37bf034c152ea74371eb5ec33514b5b63", func := "jotter/jotterlaw06.WireRefuses", spec := "wireRefuses", inPlace := ["internal/reflectlite.ValueOf", "(internal/reflectlite.Value).Type", "(internal/reflectlite.Value).IsNil", "internal/reflectlite.TypeOf", "(internal/reflectlite.Value).Elem", "(internal/reflectlite.Value).Set"], unfollowed := true, recurses := true, named := ["jotter/wire.shapes", "jotter/wire.size", "jotter/octet.table", "errors.errorType"], apart := false, laid := [("errors.errorType", laid_errors_errorType), ("jotter/octet.table", laid_jotter_octet_table), ("jotter/wire.size", laid_jotter_wire_size), ("jotter/wire.shapes", laid_jotter_wire_shapes)], narrowed := true }
def WireRefusesUptoSaid : Prop := wireRefusesUptoRow.holds Tryd.pinned (OpenSpec.upto wireRefusesSpec)

/-- 'jotterlaw06.WireLogs', WHERE WHAT IT READS IS OF BULK AT MOST 1048576: true; the input reads as it did. -/
def wireLogsUptoRow : OpenClaim := { program := "ytoophonmonojcaadoor", sum := "fe0750381f7f6af32aa8d6125f24e6d37bf034c152ea74371eb5ec33514b5b63", func := "jotter/jotterlaw06.WireLogs", spec := "wireLogs", inPlace := ["internal/reflectlite.TypeOf"], unfollowed := true, recurses := true, named := ["jotter/wire.itemShapes", "jotter/wire.itemFields", "jotter/wire.size", "jotter/octet.table"], apart := false, laid := [("jotter/octet.table", laid_jotter_octet_table), ("jotter/wire.size", laid_jotter_wire_size), ("jotter/wire.itemShapes", laid_jotter_wire_itemShapes), ("jotter/wire.itemFields", laid_jotter_wire_itemFields)], narrowed := true }
def WireLogsUptoSaid : Prop := wireLogsUptoRow.holds Tryd.pinned (OpenSpec.upto wireLogsSpec)

/-- 'jotterlaw03.WalRound', WHERE WHAT IT READS IS OF BULK AT MOST 1048576: true; the input reads as it did. -/
def walRoundUptoRow : OpenClaim := { program := "ytoophonmonojcaadoor", sum := "fe0750381f7f6af32aa8d6125f24e6d37bf034c152ea74371eb5ec33514b5b63", func := "jotter/jotterlaw03.WalRound", spec := "walRound", inPlace := ["internal/reflectlite.TypeOf", "internal/reflectlite.ValueOf", "(internal/reflectlite.Value).Type", "(internal/reflectlite.Value).IsNil", "(internal/reflectlite.Value).Elem", "(internal/reflectlite.Value).Set"], unfollowed := true, recurses := true, named := ["jotter/octet.table", "errors.errorType"], apart := false, laid := [("errors.errorType", laid_errors_errorType), ("jotter/octet.table", laid_jotter_octet_table)], narrowed := true }
def WalRoundUptoSaid : Prop := walRoundUptoRow.holds Tryd.pinned (OpenSpec.upto walRoundSpec)

/-- 'jotterlaw03.WalFrames', WHERE WHAT IT READS IS OF BULK AT MOST 1048576: true; the input reads as it did. -/
def walFramesUptoRow : OpenClaim := { program := "ytoophonmonojcaadoor", sum := "fe0750381f7f6af32aa8d6125f24e6d37bf034c152ea74371eb5ec33514b5b63", func := "jotter/jotterlaw03.WalFrames", spec := "walFrames", inPlace := ["internal/reflectlite.TypeOf", "internal/reflectlite.ValueOf", "(internal/reflectlite.Value).Type", "(internal/reflectlite.Value).IsNil", "(internal/reflectlite.Value).Elem", "(internal/reflectlite.Value).Set"], unfollowed := true, recurses := true, named := ["jotter/octet.table", "errors.errorType"], apart := false, laid := [("errors.errorType", laid_errors_errorType), ("jotter/octet.table", laid_jotter_octet_table)], narrowed := true }
def WalFramesUptoSaid : Prop := walFramesUptoRow.holds Tryd.pinned (OpenSpec.upto walFramesSpec)

/-- 'jotterlaw03.WalScans', WHERE WHAT IT READS IS OF BULK AT MOST 1048576: true; the input reads as it did. -/
def walScansUptoRow : OpenClaim := { program := "ytoophonmonojcaadoor", sum := "fe0750381f7f6af32aa8d6125f24e6d37bf034c152ea74371eb5ec33514b5b63", func := "jotter/jotterlaw03.WalScans", spec := "walScans", inPlace := ["internal/reflectlite.TypeOf", "internal/reflectlite.ValueOf", "(internal/reflectlite.Value).Type", "(internal/reflectlite.Value).IsNil", "(internal/reflectlite.Value).Elem", "(internal/reflectlite.Value).Set"], unfollowed := true, recurses := true, named := ["jotter/octet.table", "errors.errorType"], apart := false, laid := [("errors.errorType", laid_errors_errorType), ("jotter/octet.table", laid_jotter_octet_table)], narrowed := true }
def WalScansUptoSaid : Prop := walScansUptoRow.holds Tryd.pinned (OpenSpec.upto walScansSpec)

/-- 'jotterlaw03.WalPrefix', WHERE WHAT IT READS IS OF BULK AT MOST 1048576: true; the input reads as it did. -/
def walPrefixUptoRow : OpenClaim := { program := "ytoophonmonojcaadoor", sum := "fe0750381f7f6af32aa8d6125f24e6d37bf034c152ea74371eb5ec33514b5b63", func := "jotter/jotterlaw03.WalPrefix", spec := "walPrefix", inPlace := ["internal/reflectlite.TypeOf", "internal/reflectlite.ValueOf", "(internal/reflectlite.Value).Type", "(internal/reflectlite.Value).IsNil", "(internal/reflectlite.Value).Elem", "(internal/reflectlite.Value).Set"], unfollowed := true, recurses := true, named := ["jotter/octet.table", "errors.errorType"], apart := false, laid := [("errors.errorType", laid_errors_errorType), ("jotter/octet.table", laid_jotter_octet_table)], narrowed := true }
def WalPrefixUptoSaid : Prop := walPrefixUptoRow.holds Tryd.pinned (OpenSpec.upto walPrefixSpec)

/-- 'jotterlaw03.WalTold', WHERE WHAT IT READS IS OF BULK AT MOST 1048576: true; the input reads as it did. -/
def walToldUptoRow : OpenClaim := { program := "ytoophonmonojcaadoor", sum := "fe0750381f7f6af32aa8d6125f24e6d37bf034c152ea74371eb5ec33514b5b63", func := "jotter/jotterlaw03.WalTold", spec := "walTold", inPlace := ["internal/reflectlite.TypeOf", "internal/reflectlite.ValueOf", "(internal/reflectlite.Value).Type", "(internal/reflectlite.Value).IsNil", "(internal/reflectlite.Value).Elem", "(internal/reflectlite.Value).Set"], unfollowed := true, recurses := true, named := ["jotter/octet.table", "errors.errorType"], apart := false, laid := [("errors.errorType", laid_errors_errorType), ("jotter/octet.table", laid_jotter_octet_table)], narrowed := true }
def WalToldUptoSaid : Prop := walToldUptoRow.holds Tryd.pinned (OpenSpec.upto walToldSpec)

/-- 'jotterlaw03.WalWhole', WHERE WHAT IT READS IS OF BULK AT MOST 1048576: true; the input reads as it did. -/
def walWholeUptoRow : OpenClaim := { program := "ytoophonmonojcaadoor", sum := "fe0750381f7f6af32aa8d6125f24e6d37bf034c152ea74371eb5ec33514b5b63", func := "jotter/jotterlaw03.WalWhole", spec := "walWhole", inPlace := ["internal/reflectlite.TypeOf", "internal/reflectlite.ValueOf", "(internal/reflectlite.Value).Type", "(internal/reflectlite.Value).IsNil", "(internal/reflectlite.Value).Elem", "(internal/reflectlite.Value).Set"], unfollowed := true, recurses := true, named := ["jotter/octet.table", "errors.errorType"], apart := false, laid := [("errors.errorType", laid_errors_errorType), ("jotter/octet.table", laid_jotter_octet_table)], narrowed := true }
def WalWholeUptoSaid : Prop := walWholeUptoRow.holds Tryd.pinned (OpenSpec.upto walWholeSpec)

/-- 'jotterlaw06.WireWrites', WHERE WHAT IT READS IS OF BULK AT MOST 1048576: true; the input reads as it did. -/
def wireWritesUptoRow : OpenClaim := { program := "ytoophonmonojcaadoor", sum := "fe0750381f7f6af32aa8d6125f24e6d37bf034c152ea74371eb5ec33514b5b63", func := "jotter/jotterlaw06.WireWrites", spec := "wireWrites", inPlace := ["internal/reflectlite.ValueOf", "(internal/reflectlite.Value).Type", "(internal/reflectlite.Value).IsNil", "internal/reflectlite.TypeOf", "(internal/reflectlite.Value).Elem", "(internal/reflectlite.Value).Set"], unfollowed := true, recurses := true, named := ["jotter/wire.itemShapes", "jotter/wire.itemFields", "jotter/wire.size", "errors.errorType"], apart := false, laid := [("errors.errorType", laid_errors_errorType), ("jotter/wire.size", laid_jotter_wire_size), ("jotter/wire.itemShapes", laid_jotter_wire_itemShapes), ("jotter/wire.itemFields", laid_jotter_wire_itemFields)], narrowed := true }
def WireWritesUptoSaid : Prop := wireWritesUptoRow.holds Tryd.pinned (OpenSpec.upto wireWritesSpec)

/-- 'jotterlaw06.WireReads', WHERE WHAT IT READS IS OF BULK AT MOST 1048576: true; the input reads as it did. -/
def wireReadsUptoRow : OpenClaim := { program := "ytoophonmonojcaadoor", sum := "fe0750381f7f6af32aa8d6125f24e6d37bf034c152ea74371eb5ec33514b5b63", func := "jotter/jotterlaw06.WireReads", spec := "wireReads", inPlace := ["internal/reflectlite.ValueOf", "(internal/reflectlite.Value).Type", "(internal/reflectlite.Value).IsNil", "internal/reflectlite.TypeOf", "(internal/reflectlite.Value).Elem", "(internal/reflectlite.Value).Set"], unfollowed := true, recurses := true, named := ["jotter/wire.itemShapes", "jotter/wire.itemFields", "jotter/wire.size", "errors.errorType"], apart := false, laid := [("errors.errorType", laid_errors_errorType), ("jotter/wire.size", laid_jotter_wire_size), ("jotter/wire.itemShapes", laid_jotter_wire_itemShapes), ("jotter/wire.itemFields", laid_jotter_wire_itemFields)], narrowed := true }
def WireReadsUptoSaid : Prop := wireReadsUptoRow.holds Tryd.pinned (OpenSpec.upto wireReadsSpec)

/-- 'jotterlaw06.WireItems', WHERE WHAT IT READS IS OF BULK AT MOST 1048576: true; the input reads as it did. -/
def wireItemsUptoRow : OpenClaim := { program := "ytoophonmonojcaadoor", sum := "fe0750381f7f6af32aa8d6125f24e6d37bf034c152ea74371eb5ec33514b5b63", func := "jotter/jotterlaw06.WireItems", spec := "wireItems", inPlace := ["internal/reflectlite.ValueOf", "(internal/reflectlite.Value).Type", "(internal/reflectlite.Value).IsNil", "internal/reflectlite.TypeOf", "(internal/reflectlite.Value).Elem", "(internal/reflectlite.Value).Set"], unfollowed := true, recurses := true, named := ["jotter/wire.itemShapes", "jotter/wire.size", "jotter/wire.itemFields", "errors.errorType"], apart := false, laid := [("errors.errorType", laid_errors_errorType), ("jotter/wire.size", laid_jotter_wire_size), ("jotter/wire.itemShapes", laid_jotter_wire_itemShapes), ("jotter/wire.itemFields", laid_jotter_wire_itemFields)], narrowed := true }
def WireItemsUptoSaid : Prop := wireItemsUptoRow.holds Tryd.pinned (OpenSpec.upto wireItemsSpec)

/-- 'jotterlaw03.WalOpens', WHERE WHAT IT READS IS OF BULK AT MOST 1048576: true; the input reads as it did. -/
def walOpensUptoRow : OpenClaim := { program := "ytoophonmonojcaadoor", sum := "fe0750381f7f6af32aa8d6125f24e6d37bf034c152ea74371eb5ec33514b5b63", func := "jotter/jotterlaw03.WalOpens", spec := "walOpens", inPlace := ["internal/reflectlite.TypeOf", "internal/reflectlite.ValueOf", "(internal/reflectlite.Value).Type", "(internal/reflectlite.Value).IsNil", "(internal/reflectlite.Value).Elem", "(internal/reflectlite.Value).Set"], unfollowed := true, recurses := true, named := ["jotter/octet.table", "errors.errorType"], apart := false, laid := [("errors.errorType", laid_errors_errorType), ("jotter/octet.table", laid_jotter_octet_table)], narrowed := true }
def WalOpensUptoSaid : Prop := walOpensUptoRow.holds Tryd.pinned (OpenSpec.upto walOpensSpec)

/-- 'jotterlaw06.WireTakes', WHERE WHAT IT READS IS OF BULK AT MOST 1048576: true; the input reads as it did. -/
def wireTakesUptoRow : OpenClaim := { program := "ytoophonmonojcaadoor", sum := "fe0750381f7f6af32aa8d6125f24e6d37bf034c152ea74371eb5ec33514b5b63", func := "jotter/jotterlaw06.WireTakes", spec := "wireTakes", inPlace := ["internal/reflectlite.ValueOf", "(internal/reflectlite.Value).Type", "(internal/reflectlite.Value).IsNil", "internal/reflectlite.TypeOf", "(internal/reflectlite.Value).Elem", "(internal/reflectlite.Value).Set"], unfollowed := true, recurses := true, named := ["jotter/wire.shapes", "jotter/wire.size", "jotter/octet.table", "errors.errorType"], apart := false, laid := [("errors.errorType", laid_errors_errorType), ("jotter/octet.table", laid_jotter_octet_table), ("jotter/wire.size", laid_jotter_wire_size), ("jotter/wire.shapes", laid_jotter_wire_shapes)], narrowed := true }
def WireTakesUptoSaid : Prop := wireTakesUptoRow.holds Tryd.pinned (OpenSpec.upto wireTakesSpec)

/-- 'jotterlaw03.WalKeeps', WHERE WHAT IT READS IS OF BULK AT MOST 1048576: true; the input reads as it did. -/
def walKeepsUptoRow : OpenClaim := { program := "ytoophonmonojcaadoor", sum := "fe0750381f7f6af32aa8d6125f24e6d37bf034c152ea74371eb5ec33514b5b63", func := "jotter/jotterlaw03.WalKeeps", spec := "walKeeps", inPlace := ["internal/reflectlite.TypeOf", "internal/reflectlite.ValueOf", "(internal/reflectlite.Value).Type", "(internal/reflectlite.Value).IsNil", "(internal/reflectlite.Value).Elem", "(internal/reflectlite.Value).Set"], unfollowed := true, recurses := true, named := ["jotter/octet.table", "errors.errorType"], apart := false, laid := [("errors.errorType", laid_errors_errorType), ("jotter/octet.table", laid_jotter_octet_table)], narrowed := true }
def WalKeepsUptoSaid : Prop := walKeepsUptoRow.holds Tryd.pinned (OpenSpec.upto walKeepsSpec)

/-- 'jotterlaw06.WireEncodes', WHERE WHAT IT READS IS OF BULK AT MOST 1048576: true; the input reads as it did. -/
def wireEncodesUptoRow : OpenClaim := { program := "ytoophonmonojcaadoor", sum := "fe0750381f7f6af32aa8d6125f24e6d37bf034c152ea74371eb5ec33514b5b63", func := "jotter/jotterlaw06.WireEncodes", spec := "wireEncodes", inPlace := ["internal/reflectlite.ValueOf", "(internal/reflectlite.Value).Type", "(internal/reflectlite.Value).IsNil", "internal/reflectlite.TypeOf", "(internal/reflectlite.Value).Elem", "(internal/reflectlite.Value).Set"], unfollowed := true, recurses := true, named := ["jotter/wire.shapes", "jotter/wire.size", "jotter/octet.table", "errors.errorType"], apart := false, laid := [("errors.errorType", laid_errors_errorType), ("jotter/octet.table", laid_jotter_octet_table), ("jotter/wire.size", laid_jotter_wire_size), ("jotter/wire.shapes", laid_jotter_wire_shapes)], narrowed := true }
def WireEncodesUptoSaid : Prop := wireEncodesUptoRow.holds Tryd.pinned (OpenSpec.upto wireEncodesSpec)

/-- 'jotterlaw06.WireDecodes', WHERE WHAT IT READS IS OF BULK AT MOST 1048576: true; the input reads as it did. -/
def wireDecodesUptoRow : OpenClaim := { program := "ytoophonmonojcaadoor", sum := "fe0750381f7f6af32aa8d6125f24e6d37bf034c152ea74371eb5ec33514b5b63", func := "jotter/jotterlaw06.WireDecodes", spec := "wireDecodes", inPlace := ["internal/reflectlite.ValueOf", "(internal/reflectlite.Value).Type", "(internal/reflectlite.Value).IsNil", "internal/reflectlite.TypeOf", "(internal/reflectlite.Value).Elem", "(internal/reflectlite.Value).Set"], unfollowed := true, recurses := true, named := ["jotter/wire.shapes", "jotter/wire.size", "jotter/octet.table", "errors.errorType"], apart := false, laid := [("errors.errorType", laid_errors_errorType), ("jotter/octet.table", laid_jotter_octet_table), ("jotter/wire.size", laid_jotter_wire_size), ("jotter/wire.shapes", laid_jotter_wire_shapes)], narrowed := true }
def WireDecodesUptoSaid : Prop := wireDecodesUptoRow.holds Tryd.pinned (OpenSpec.upto wireDecodesSpec)

/-- 'jotterlaw06.WireOne', WHERE WHAT IT READS IS OF BULK AT MOST 1048576: true; the input reads as it did. -/
def wireOneUptoRow : OpenClaim := { program := "ytoophonmonojcaadoor", sum := "fe0750381f7f6af32aa8d6125f24e6d37bf034c152ea74371eb5ec33514b5b63", func := "jotter/jotterlaw06.WireOne", spec := "wireOne", inPlace := ["internal/reflectlite.ValueOf", "(internal/reflectlite.Value).Type", "(internal/reflectlite.Value).IsNil", "internal/reflectlite.TypeOf", "(internal/reflectlite.Value).Elem", "(internal/reflectlite.Value).Set"], unfollowed := true, recurses := true, named := ["jotter/wire.shapes", "jotter/wire.size", "jotter/octet.table", "errors.errorType"], apart := false, laid := [("errors.errorType", laid_errors_errorType), ("jotter/octet.table", laid_jotter_octet_table), ("jotter/wire.size", laid_jotter_wire_size), ("jotter/wire.shapes", laid_jotter_wire_shapes)], narrowed := true }
def WireOneUptoSaid : Prop := wireOneUptoRow.holds Tryd.pinned (OpenSpec.upto wireOneSpec)

/-- 'jotterlaw06.WireTold', WHERE WHAT IT READS IS OF BULK AT MOST 1048576: true; the input reads as it did. -/
def wireToldUptoRow : OpenClaim := { program := "ytoophonmonojcaadoor", sum := "fe0750381f7f6af32aa8d6125f24e6d37bf034c152ea74371eb5ec33514b5b63", func := "jotter/jotterlaw06.WireTold", spec := "wireTold", inPlace := ["internal/reflectlite.ValueOf", "(internal/reflectlite.Value).Type", "(internal/reflectlite.Value).IsNil", "internal/reflectlite.TypeOf", "(internal/reflectlite.Value).Elem", "(internal/reflectlite.Value).Set"], unfollowed := true, recurses := true, named := ["jotter/wire.shapes", "jotter/wire.size", "jotter/octet.table", "errors.errorType"], apart := false, laid := [("errors.errorType", laid_errors_errorType), ("jotter/octet.table", laid_jotter_octet_table), ("jotter/wire.size", laid_jotter_wire_size), ("jotter/wire.shapes", laid_jotter_wire_shapes)], narrowed := true }
def WireToldUptoSaid : Prop := wireToldUptoRow.holds Tryd.pinned (OpenSpec.upto wireToldSpec)

/-- 'jotterlaw06.WireFaults', WHERE WHAT IT READS IS OF BULK AT MOST 1048576: true; the input reads as it did. -/
def wireFaultsUptoRow : OpenClaim := { program := "ytoophonmonojcaadoor", sum := "fe0750381f7f6af32aa8d6125f24e6d37bf034c152ea74371eb5ec33514b5b63", func := "jotter/jotterlaw06.WireFaults", spec := "wireFaults", inPlace := ["internal/reflectlite.ValueOf", "(internal/reflectlite.Value).Type", "(internal/reflectlite.Value).IsNil", "internal/reflectlite.TypeOf", "(internal/reflectlite.Value).Elem", "(internal/reflectlite.Value).Set"], unfollowed := true, recurses := true, named := ["jotter/wire.shapes", "jotter/octet.table", "errors.errorType", "jotter/wire.size"], apart := false, laid := [("errors.errorType", laid_errors_errorType), ("jotter/octet.table", laid_jotter_octet_table), ("jotter/wire.size", laid_jotter_wire_size), ("jotter/wire.shapes", laid_jotter_wire_shapes)], narrowed := true }
def WireFaultsUptoSaid : Prop := wireFaultsUptoRow.holds Tryd.pinned (OpenSpec.upto wireFaultsSpec)

end Rows
end Go.Proofs.YtoophonmonojcaaDoor

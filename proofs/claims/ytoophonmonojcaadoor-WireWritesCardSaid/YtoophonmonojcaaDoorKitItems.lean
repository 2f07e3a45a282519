/- What the items' rows share: from the listed variables to the walks' facts; a world for the witness. -/
import Derived.Test.YtoophonmonojcaaDoorKitWire
import Derived.Test.YtoophonmonojcaaDoorGItem
namespace Go.Proofs.YtoophonmonojcaaDoor
open Go.ChangeShapes Go.WideShapes Go.ChangeAt Go.RowKit Go.Deep

theorem gShapesI : Tryd.prog.globalNamed "jotter/wire.itemShapes" = some 1 := by kernel_rfl
theorem gShapesIType : (Tryd.prog.globals[1]?).map (·.type) = some 121 := by kernel_rfl
theorem cellsShapesI : Tryd.prog.cellsOf 121 = 3 := by kernel_rfl
theorem gFieldsI : Tryd.prog.globalNamed "jotter/wire.itemFields" = some 2 := by kernel_rfl
theorem gFieldsIType : (Tryd.prog.globals[2]?).map (·.type) = some 122 := by kernel_rfl
theorem cellsFieldsI : Tryd.prog.cellsOf 122 = 7 := by kernel_rfl
theorem shapesI_of_laid {W : World} {rest : List (String × DataW Unit)} (h : laidMet Tryd.prog (("jotter/wire.itemShapes", Rows.laid_jotter_wire_itemShapes) :: rest) W) : ShapesI W := by
  have e : (Rows.laid_jotter_wire_itemShapes : DataW Unit) = .agg (([[], [1], [8, 9, 10, 11, 12, 13]] : List (List Nat)).map shapeD) := by
    simp [Rows.laid_jotter_wire_itemShapes, shapeD]
  rw [e] at h
  have := shapes_at gShapesI gShapesIType Tryd.underlying121 cellsShapesI h
  intro k hk
  have := this k hk
  have hc : k = 0 ∨ k = 1 ∨ k = 2 := by omega
  rcases hc with rfl | rfl | rfl <;> exact this
theorem fieldsI_of_laid {W : World} {rest : List (String × DataW Unit)} (h : laidMet Tryd.prog (("jotter/wire.itemFields", Rows.laid_jotter_wire_itemFields) :: rest) W) : FieldsI W := by
  have h1 : Lib.TabIs Tryd.prog W "jotter/wire.itemFields" .i64 (fieldsI.map fun (x : Nat) => (x : Int)) :=
    Lib.tabIs_of_head (rest := rest) gFieldsI gFieldsIType Tryd.underlying122 Tryd.underlying3 cellsI cellsFieldsI h
  intro i hi
  have := World.var?_cell gFieldsI h1 i
  rw [this]
  simp only [List.getElem?_toArray, List.getElem?_map, List.getD_eq_getElem?_getD]
  have hl : i < fieldsI.length := hi
  rw [List.getElem?_eq_getElem hl]
  rfl
theorem of_laidI {W : World} (h : laidMetH Tryd.prog [("errors.errorType", Rows.laid_errors_errorType), ("jotter/wire.size", Rows.laid_jotter_wire_size), ("jotter/wire.itemShapes", Rows.laid_jotter_wire_itemShapes), ("jotter/wire.itemFields", Rows.laid_jotter_wire_itemFields)] W) : EType W ∧ Sizes W ∧ ShapesI W ∧ FieldsI W := by
  have h' : laidMet Tryd.prog [("jotter/wire.size", Rows.laid_jotter_wire_size), ("jotter/wire.itemShapes", Rows.laid_jotter_wire_itemShapes), ("jotter/wire.itemFields", Rows.laid_jotter_wire_itemFields)] W ∧ handlesMet Tryd.prog [("errors.errorType", Rows.laid_errors_errorType)] W := by
    unfold laidMetH at h
    exact h
  exact ⟨etype_of_handles h'.2 (by simp), sizes_of_laid h'.1, shapesI_of_laid h'.1.tail, fieldsI_of_laid h'.1.tail.tail⟩
theorem of_laidL {W : World} (h : laidMet Tryd.prog [("jotter/octet.table", Rows.laid_jotter_octet_table), ("jotter/wire.size", Rows.laid_jotter_wire_size), ("jotter/wire.itemShapes", Rows.laid_jotter_wire_itemShapes), ("jotter/wire.itemFields", Rows.laid_jotter_wire_itemFields)] W) : Tab W ∧ Sizes W ∧ ShapesI W ∧ FieldsI W :=
  ⟨tab_of_laid h, sizes_of_laid h.tail, shapesI_of_laid h.tail.tail, fieldsI_of_laid h.tail.tail.tail⟩
abbrev fieldCells : Array Value := (fieldsI.map fun (x : Nat) => Value.int .i64 (x : Int)).toArray
/-- A WORLD FOR THE WITNESS of a row that lists the items' variables. -/
noncomputable def laidWorldI (os : Os) : World :=
  let w0 := World.holding Tryd.prog os ⟨#[rowI [1], rowI [8, 9, 10, 11, 12, 13]], #[], []⟩
  { w0 with heap := (((((w0.heap.modify 5 (withCells tabCells)).modify 3 (withCells #[.iface 172 (.agg #[hnd 29])])).modify 4 (withCells sizeCells)).modify 1 (withCells #[.slice none 0 0, sl 0 1, sl 1 6])).modify 2 (withCells fieldCells)) }
noncomputable abbrev laidWorldL (os : Os) : World := laidWorldI os
end Go.Proofs.YtoophonmonojcaaDoor

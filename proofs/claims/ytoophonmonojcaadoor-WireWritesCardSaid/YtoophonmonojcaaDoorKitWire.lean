/- What wire's rows share: from the listed variables (wire.size, wire.shapes, wire.itemShapes, wire.itemFields) to the walks' facts. -/
import Derived.Test.YtoophonmonojcaaDoorGArg
import Derived.Test.YtoophonmonojcaaDoorGEnc
import Derived.Stop.LaidErr
namespace Go.Proofs.YtoophonmonojcaaDoor
open Go.ChangeShapes Go.WideShapes Go.ChangeAt Go.RowKit Go.Deep

theorem cellsI : Tryd.prog.cellsOf 3 = 1 := by kernel_rfl
theorem cellsInts : Tryd.prog.cellsOf 36 = 1 := by kernel_rfl
theorem gSize : Tryd.prog.globalNamed "jotter/wire.size" = some 4 := by kernel_rfl
theorem gSizeType : (Tryd.prog.globals[4]?).map (·.type) = some 113 := by kernel_rfl
theorem cellsSize : Tryd.prog.cellsOf 113 = 14 := by kernel_rfl
theorem gShapes : Tryd.prog.globalNamed "jotter/wire.shapes" = some 0 := by kernel_rfl
theorem gShapesType : (Tryd.prog.globals[0]?).map (·.type) = some 116 := by kernel_rfl
theorem cellsShapes : Tryd.prog.cellsOf 116 = 7 := by kernel_rfl

theorem sizes_of_laid {W : World} {rest : List (String × DataW Unit)} (h : laidMet Tryd.prog (("jotter/wire.size", Rows.laid_jotter_wire_size) :: rest) W) : Sizes W := by
  have h1 : Lib.TabIs Tryd.prog W "jotter/wire.size" .i64 (sizeL.map fun (x : Nat) => (x : Int)) :=
    Lib.tabIs_of_head (rest := rest) gSize gSizeType Tryd.underlying113 Tryd.underlying3 cellsI cellsSize h
  intro i hi
  have := World.var?_cell gSize h1 i
  rw [this]
  simp only [List.getElem?_toArray, List.getElem?_map, List.getD_eq_getElem?_getD]
  have hl : i < sizeL.length := by simpa [sizeL] using hi
  rw [List.getElem?_eq_getElem hl]
  rfl

/-- A shape as a row lists it. -/
def shapeD (l : List Nat) : DataW Unit := if l = [] then .nil else .slice (l.map fun (x : Nat) => .lit (.int .i64 (x : Int))) []
theorem shape_of_trod {W : World} {sp : Nat → Bool} {hd : Bool} {n : Nat} {c : List Value} {l : List Nat} {p : List MemPlace} (h : DataW.trod (fun _ => ()) Tryd.prog W 0 sp hd n 36 c = some (shapeD l, p)) :
    ∃ ao m cap, c = [.slice ao m cap] ∧ l.length = m ∧ RdN W ao l := by
  rcases open_ints Tryd.underlying36 Tryd.underlying3 cellsI h with ⟨rfl, hx⟩ | ⟨a, len, cap, zs, rfl, _, hl, hm, hlen, hx, hz, hw⟩
  · have hn : l = [] := by
      by_cases hn : l = []
      · exact hn
      · simp [shapeD, hn] at hx
    subst hn
    exact ⟨none, 0, 0, rfl, rfl, fun i hi => by simp at hi⟩
  · have hn : l ≠ [] := by
      rintro rfl
      simp [shapeD] at hx
    simp only [shapeD, if_neg hn, Prod.mk.injEq, DataW.slice.injEq] at hx
    have e : (l.map fun (x : Nat) => (x : Int)) = zs.take len := by
      have := hx.1.1
      simp only [lits] at this
      have e2 := congrArg (List.map fun d : DataW Unit => match d with | .lit (.int _ z) => z | _ => 0) this
      simpa [List.map_map, Function.comp_def] using e2
    have hll : l.length = len := by
      have := congrArg List.length e
      simp at this
      have h2 : len ≤ zs.length := by rw [hlen]; split <;> omega
      omega
    refine ⟨some a, len, cap, rfl, hll, fun i hi => ?_⟩
    have hc := hz i (by rw [hlen]; split <;> omega)
    have hs := spot_none (hz 0 (by rw [hlen]; split <;> omega))
    have hz0 : a.add 0 = a := by simp [Addr.add]
    rw [hz0] at hs
    refine ⟨a.block, a.off, by rw [← hs], ?_⟩
    rw [hs, add_plain] at hc
    rw [hc]
    have : zs.getD i 0 = ((l.getD i 0 : Nat) : Int) := by
      have e3 := congrArg (fun q => q[i]?) e
      simp only [List.getElem?_map, List.getElem?_take, show i < len by omega, if_true] at e3
      rw [List.getD_eq_getElem?_getD, List.getD_eq_getElem?_getD, ← e3, List.getElem?_eq_getElem hi]
      rfl
    rw [this]

theorem shapes_at {W : World} {name : String} {rest : List (String × DataW Unit)} {g t N : Nat} {ls : List (List Nat)} (hg : Tryd.prog.globalNamed name = some g) (hty : (Tryd.prog.globals[g]?).map (·.type) = some t)
    (ht : Tryd.prog.underlying t = some (.array N 36)) (hct : Tryd.prog.cellsOf t = N) (h : laidMet Tryd.prog ((name, .agg (ls.map shapeD)) :: rest) W) :
    ∀ k, k < N → ∃ ao n cap, W.cell? ⟨g, k, none⟩ = some (.slice ao n cap) ∧ (ls.getD k []).length = n ∧ RdN W ao (ls.getD k []) := by
  obtain ⟨ps, ⟨g', t', cs, fuel, p, q, hg', ht', hvar, hd, _, _⟩, _⟩ := h
  obtain rfl := Option.some.inj (hg.symm.trans hg')
  obtain rfl := Option.some.inj (hty.symm.trans ht')
  obtain ⟨xs, m, rfl, hx, hl, hxl, hf⟩ := DataW.trod_array ht hd
  rw [hct] at hl
  intro k hk
  have e := hf k hk
  rw [cellsInts, Nat.mul_one] at e
  simp only [Prod.mk.injEq, DataW.agg.injEq] at hx
  have hlen : ls.length = N := by
    have := congrArg List.length hx.1
    simp at this
    omega
  rw [List.getElem?_eq_getElem (by omega)] at e
  have hk2 : (xs[k]).1 = shapeD (ls.getD k []) := by
    have := congrArg (fun q => q[k]?) hx.1
    simp only [List.getElem?_map] at this
    rw [List.getElem?_eq_getElem (show k < ls.length by omega), List.getElem?_eq_getElem (show k < xs.length by omega)] at this
    simp only [Option.map_some, Option.some.injEq] at this
    rw [← this]
    simp [List.getD_eq_getElem?_getD, show k < ls.length by omega]
  have hpair : xs[k] = (shapeD (ls.getD k []), (xs[k]).2) := by rw [← hk2]
  rw [hpair] at e
  obtain ⟨ao, n, cap, hc, h1, h2⟩ := shape_of_trod e
  refine ⟨ao, n, cap, ?_, h1, h2⟩
  rw [World.var?_cell hg hvar k]
  have := congrArg (fun q => q[0]?) hc
  simp at this
  exact this
theorem shapes_of_laid {W : World} {rest : List (String × DataW Unit)} (h : laidMet Tryd.prog (("jotter/wire.shapes", Rows.laid_jotter_wire_shapes) :: rest) W) : Shapes W := by
  have e : (Rows.laid_jotter_wire_shapes : DataW Unit) = .agg (([[], [1, 2, 3, 4], [1, 2, 5, 6, 8, 9, 10, 11, 12, 13], [1, 2, 6], [1, 2], [1, 2, 5, 6, 7, 9, 10, 11, 12, 13], [1, 2, 6]] : List (List Nat)).map shapeD) := by
    simp [Rows.laid_jotter_wire_shapes, shapeD]
  rw [e] at h
  have := shapes_at gShapes gShapesType Tryd.underlying116 cellsShapes h
  intro k hk
  have := this k hk
  have hc : k = 0 ∨ k = 1 ∨ k = 2 ∨ k = 3 ∨ k = 4 ∨ k = 5 ∨ k = 6 := by omega
  rcases hc with rfl | rfl | rfl | rfl | rfl | rfl | rfl <;> exact this

/-- All four, of a row that lists errors.errorType, octet.table, wire.size and wire.shapes. -/
theorem of_laid4 {W : World} (h : laidMetH Tryd.prog [("errors.errorType", Rows.laid_errors_errorType), ("jotter/octet.table", Rows.laid_jotter_octet_table), ("jotter/wire.size", Rows.laid_jotter_wire_size), ("jotter/wire.shapes", Rows.laid_jotter_wire_shapes)] W) : Tab W ∧ EType W ∧ Sizes W ∧ Shapes W := by
  have h2 := of_laid2 (rest := [("jotter/wire.size", Rows.laid_jotter_wire_size), ("jotter/wire.shapes", Rows.laid_jotter_wire_shapes)]) h (by rfl)
  have h' : laidMet Tryd.prog [("jotter/octet.table", Rows.laid_jotter_octet_table), ("jotter/wire.size", Rows.laid_jotter_wire_size), ("jotter/wire.shapes", Rows.laid_jotter_wire_shapes)] W := by
    unfold laidMetH at h
    exact h.1
  exact ⟨h2.1, h2.2, sizes_of_laid h'.tail, shapes_of_laid h'.tail.tail⟩

/-- The first block behind the settled world's own. -/
noncomputable def low : Nat := (World.holding Tryd.prog default ⟨#[], #[], []⟩).heap.size
def rowI (l : List Nat) : Obj := .cells (l.map fun (x : Nat) => Value.int .i64 (x : Int)).toArray 3
abbrev sizeCells : Array Value := (sizeL.map fun (x : Nat) => Value.int .i64 (x : Int)).toArray
abbrev tabCells : Array Value := (table.map fun (x : Nat) => Value.int .u32 (x : Int)).toArray
noncomputable abbrev sl (i n : Nat) : Value := .slice (some ⟨low + i, 0, none⟩) n n
/-- A WORLD FOR THE WITNESS of a row that lists errors.errorType, the table, wire.size and wire.shapes. -/
noncomputable def laidWorld4 (os : Os) : World :=
  let w0 := World.holding Tryd.prog os ⟨#[rowI [1, 2, 3, 4], rowI [1, 2, 5, 6, 8, 9, 10, 11, 12, 13], rowI [1, 2, 6], rowI [1, 2], rowI [1, 2, 5, 6, 7, 9, 10, 11, 12, 13], rowI [1, 2, 6]], #[], []⟩
  { w0 with heap := (((w0.heap.modify 5 (withCells tabCells)).modify 3 (withCells #[.iface 172 (.agg #[hnd 29])])).modify 4 (withCells sizeCells)).modify 0 (withCells #[.slice none 0 0, sl 0 4, sl 1 10, sl 2 3, sl 3 2, sl 4 10, sl 5 3]) }
end Go.Proofs.YtoophonmonojcaaDoor

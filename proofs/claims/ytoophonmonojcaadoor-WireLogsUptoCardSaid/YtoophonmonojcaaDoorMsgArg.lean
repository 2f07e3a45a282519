/- An argument that is a message or a log item (structs of numbers), opened for the walks. -/
import Derived.Test.YtoophonmonojcaaDoorRowsArg
import Derived.Test.YtoophonmonojcaaDoorWireOp
namespace Go.Proofs.YtoophonmonojcaaDoor
open Go.ChangeShapes Go.WideShapes Go.ChangeAt Go.RowKit Go.Deep
set_option maxRecDepth 100000

theorem cellsOp : Tryd.prog.cellsOf 23 = 5 := by kernel_rfl
theorem cellsMsg : Tryd.prog.cellsOf 25 = 14 := by kernel_rfl
theorem cellsItem : Tryd.prog.cellsOf 39 = 8 := by kernel_rfl
theorem cellsInt : Tryd.prog.cellsOf 3 = 1 := by kernel_rfl

/-- One number out of a struct's cells. -/
theorem cut_int {H : Type} {enc : TypeId × Value → H} {w : World} {sp : Nat → Bool} {hd : Bool} {m : Nat} {t : TypeId} {k : IntKind} {cs : List Value} {y : Option (DataW H × List MemPlace)} (ht : Tryd.prog.underlying t = some (.int k)) (h : DataW.trod enc Tryd.prog w 0 sp hd m t cs = y) (hy : y.isSome = true) : ∃ z, cs = [.int k z] ∧ (Lit.int k z).wf = true := by
  obtain ⟨x, rfl⟩ := Option.isSome_iff_exists.1 hy
  obtain ⟨z, h1, _, h3⟩ := DataW.trod_int ht h
  exact ⟨z, h1, h3⟩

theorem op_cells {H : Type} {enc : TypeId × Value → H} {w : World} {sp : Nat → Bool} {hd : Bool} {n : Nat} {cs : List Value} {x : DataW H × List MemPlace} (h : DataW.trod enc Tryd.prog w 0 sp hd n 23 cs = some x) :
    ∃ o : O, cs = [.int .i64 o.k, .int .i64 o.p, .int .u8 o.ch, .int .i64 o.cl, .int .i64 o.s] ∧ o.ok := by
  obtain ⟨xs, m, _, _, hl, hxl, hf⟩ := DataW.trod_struct Tryd.underlying23 h
  rw [cellsOp] at hl
  match cs, hl with
  | [a, b, c, d, e], _ =>
    obtain ⟨k, h1, w1⟩ := cut_int Tryd.underlying3 (hf 0 _ rfl) (by simp [hxl])
    obtain ⟨p, h2, w2⟩ := cut_int Tryd.underlying3 (hf 1 _ rfl) (by simp [hxl])
    obtain ⟨ch, h3, w3⟩ := cut_int Tryd.underlying5 (hf 2 _ rfl) (by simp [hxl])
    obtain ⟨cl, h4, w4⟩ := cut_int Tryd.underlying3 (hf 3 _ rfl) (by simp [hxl])
    obtain ⟨s, h5, w5⟩ := cut_int Tryd.underlying3 (hf 4 _ rfl) (by simp [hxl])
    simp [cellsInt, cellsU8] at h1 h2 h3 h4 h5
    subst h1 h2 h3 h4 h5
    exact ⟨⟨k, p, ch, cl, s⟩, rfl, bounds_i64 w1, bounds_i64 w2, bounds_u8 w3, bounds_i64 w4, bounds_i64 w5⟩

theorem msg_cells {H : Type} {enc : TypeId × Value → H} {w : World} {sp : Nat → Bool} {hd : Bool} {n : Nat} {cs : List Value} {x : DataW H × List MemPlace} (h : DataW.trod enc Tryd.prog w 0 sp hd n 25 cs = some x) :
    ∃ m : M, Value.agg cs.toArray = m.v ∧ m.ok := by
  obtain ⟨xs, mm, _, _, hl, hxl, hf⟩ := DataW.trod_struct Tryd.underlying25 h
  rw [cellsMsg] at hl
  match cs, hl with
  | [a, b, c, d, e, f, g, i, j, o1, o2, o3, o4, o5], _ =>
    obtain ⟨k, h1, w1⟩ := cut_int Tryd.underlying3 (hf 0 _ rfl) (by simp [hxl])
    obtain ⟨ep, h2, w2⟩ := cut_int Tryd.underlying3 (hf 1 _ rfl) (by simp [hxl])
    obtain ⟨cl, h3, w3⟩ := cut_int Tryd.underlying3 (hf 2 _ rfl) (by simp [hxl])
    obtain ⟨ha, h4, w4⟩ := cut_int Tryd.underlying3 (hf 3 _ rfl) (by simp [hxl])
    obtain ⟨fi, h5, w5⟩ := cut_int Tryd.underlying3 (hf 4 _ rfl) (by simp [hxl])
    obtain ⟨nu, h6, w6⟩ := cut_int Tryd.underlying3 (hf 5 _ rfl) (by simp [hxl])
    obtain ⟨ac, h7, w7⟩ := cut_int Tryd.underlying3 (hf 6 _ rfl) (by simp [hxl])
    obtain ⟨re, h8, w8⟩ := cut_int Tryd.underlying3 (hf 7 _ rfl) (by simp [hxl])
    obtain ⟨ta, h9, w9⟩ := cut_int Tryd.underlying3 (hf 8 _ rfl) (by simp [hxl])
    have ho := hf 9 _ rfl
    have hx9 : (xs[9]?).isSome = true := by simp [hxl]
    obtain ⟨y, hy⟩ := Option.isSome_iff_exists.1 hx9
    rw [hy] at ho
    obtain ⟨o, h10, w10⟩ := op_cells ho
    simp [cellsInt, cellsOp] at h1 h2 h3 h4 h5 h6 h7 h8 h9 h10
    obtain ⟨q1, q2, q3, q4, q5⟩ := h10
    subst h1 h2 h3 h4 h5 h6 h7 h8 h9 q1 q2 q3 q4 q5
    exact ⟨⟨k, ep, cl, ha, fi, nu, ac, re, ta, o⟩, rfl, bounds_i64 w1, bounds_i64 w2, bounds_i64 w3, bounds_i64 w4, bounds_i64 w5, bounds_i64 w6, bounds_i64 w7, bounds_i64 w8, bounds_i64 w9, w10⟩

theorem msg_open {H : Type} {enc : TypeId × Value → H} {W : World} {base : Nat} {v : Value} {d : DataW H} {p : List MemPlace} (h : DataW.Trod enc Tryd.prog W 0 (fun _ => true) true 25 v d p) (hv : Value.okWide Tryd.prog W .any base 25 v) :
    ∃ m : M, v = m.v ∧ m.ok := by
  obtain ⟨fuel, hf⟩ := h
  obtain ⟨m, hm, ho⟩ := msg_cells hf
  refine ⟨m, ?_, ho⟩
  rw [← hm]
  simp only [Value.okWide, Tryd.underlying25] at hv
  obtain ⟨cs, rfl, _⟩ := hv
  simp [Value.cells]

/-- A log item's numbers. -/
structure It where (k e t : Int) (op : O)
def It.ok (x : It) : Prop := i64 x.k ∧ i64 x.e ∧ i64 x.t ∧ x.op.ok
def It.cells (x : It) : List Value := [.int .i64 x.k, .int .i64 x.e, .int .i64 x.t, .int .i64 x.op.k, .int .i64 x.op.p, .int .u8 x.op.ch, .int .i64 x.op.cl, .int .i64 x.op.s]
def It.v (x : It) : Value := .agg x.cells.toArray
theorem item_cells {H : Type} {enc : TypeId × Value → H} {w : World} {sp : Nat → Bool} {hd : Bool} {n : Nat} {cs : List Value} {x : DataW H × List MemPlace} (h : DataW.trod enc Tryd.prog w 0 sp hd n 39 cs = some x) :
    ∃ m : It, cs = m.cells ∧ m.ok := by
  obtain ⟨xs, mm, _, _, hl, hxl, hf⟩ := DataW.trod_struct Tryd.underlying39 h
  rw [cellsItem] at hl
  match cs, hl with
  | [a, b, c, o1, o2, o3, o4, o5], _ =>
    obtain ⟨k, h1, w1⟩ := cut_int Tryd.underlying3 (hf 0 _ rfl) (by simp [hxl])
    obtain ⟨ep, h2, w2⟩ := cut_int Tryd.underlying3 (hf 1 _ rfl) (by simp [hxl])
    obtain ⟨ta, h3, w3⟩ := cut_int Tryd.underlying3 (hf 2 _ rfl) (by simp [hxl])
    have ho := hf 3 _ rfl
    have hx9 : (xs[3]?).isSome = true := by simp [hxl]
    obtain ⟨y, hy⟩ := Option.isSome_iff_exists.1 hx9
    rw [hy] at ho
    obtain ⟨o, h10, w10⟩ := op_cells ho
    simp [cellsInt, cellsOp] at h1 h2 h3 h10
    obtain ⟨q1, q2, q3, q4, q5⟩ := h10
    subst h1 h2 h3 q1 q2 q3 q4 q5
    exact ⟨⟨k, ep, ta, o⟩, rfl, bounds_i64 w1, bounds_i64 w2, bounds_i64 w3, w10⟩
theorem item_open {H : Type} {enc : TypeId × Value → H} {W : World} {base : Nat} {v : Value} {d : DataW H} {p : List MemPlace} (h : DataW.Trod enc Tryd.prog W 0 (fun _ => true) true 39 v d p) (hv : Value.okWide Tryd.prog W .any base 39 v) :
    ∃ m : It, v = m.v ∧ m.ok := by
  obtain ⟨fuel, hf⟩ := h
  obtain ⟨m, hm, ho⟩ := item_cells hf
  refine ⟨m, ?_, ho⟩
  rw [It.v, ← hm]
  simp only [Value.okWide, Tryd.underlying39] at hv
  obtain ⟨cs, rfl, _⟩ := hv
  simp [Value.cells]
end Go.Proofs.YtoophonmonojcaaDoor

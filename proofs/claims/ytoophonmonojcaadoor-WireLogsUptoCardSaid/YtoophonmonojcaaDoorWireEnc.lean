/- Contract of wire's Encode. -/
import Derived.Test.YtoophonmonojcaaDoorWireSpec
import Derived.Deep.RegionHeld3
import Derived.Deep.CutRange
namespace Go.Proofs.YtoophonmonojcaaDoor
open Go.RowKit

/-- What Encode answers of a message of one of the six kinds: its datagram, or the first field that may not stand. -/
def EncPost (w : World) (k : Nat) (m : M) (e : Ending) (w' : World) : Prop :=
  (Good k m ∧ ∃ g, e = .returned (.tuple #[.slice (some ⟨g, 0, none⟩) (encB m).length (encB m).length, .nilIface]) ∧ w.heap.size ≤ g ∧ Row w' g (encB m) ∧ Below w.heap.size w w') ∨
  (∃ f g : Nat, 1 ≤ f ∧ f < 14 ∧ (∀ i, 1 ≤ i → i < f → badAt (shapeN k) m.at (makerOf m) i = false) ∧ badAt (shapeN k) m.at (makerOf m) f = true ∧ e = .returned (.tuple #[.slice none 0 0, faultV g]) ∧ NewFault w f 63 g w')

theorem nums_of {w : World} {g : Nat} {m : M} (h : w.heap[g]? = some (.cells #[.int .i64 m.k, .int .i64 m.e, .int .i64 m.c, .int .i64 m.ha, .int .i64 m.fi, .int .i64 m.nu, .int .i64 m.ac, .int .i64 m.re, .int .i64 m.ta, .int .i64 m.op.k, .int .i64 m.op.p, .int .i64 m.op.ch, .int .i64 m.op.cl, .int .i64 m.op.s] 114 (0, 0))) : Nums w g m.at := by
  intro i hi
  have hc : i = 0 ∨ i = 1 ∨ i = 2 ∨ i = 3 ∨ i = 4 ∨ i = 5 ∨ i = 6 ∨ i = 7 ∨ i = 8 ∨ i = 9 ∨ i = 10 ∨ i = 11 ∨ i = 12 ∨ i = 13 := by omega
  rcases hc with rfl | rfl | rfl | rfl | rfl | rfl | rfl | rfl | rfl | rfl | rfl | rfl | rfl | rfl <;> simp [World.cell?, h, M.at]

theorem shape_len (k : Nat) (h1 : 1 ≤ k) (h6 : k ≤ 6) : 2 ≤ (shapeN k).length ∧ (shapeN k).length ≤ 10 := by
  have hc : k = 1 ∨ k = 2 ∨ k = 3 ∨ k = 4 ∨ k = 5 ∨ k = 6 := by omega
  rcases hc with rfl | rfl | rfl | rfl | rfl | rfl <;> decide
/-- A message's cells, and the shape of its kind. -/
abbrev MsgCells (w : World) (g : Nat) (k ep c ha fi nu ac re ta ok op oc ol os : Int) (kk : Nat) (sv : Value) : Prop := w.cell? ⟨g, 0, none⟩ = some (.int .i64 k) ∧ w.cell? ⟨g, 1, none⟩ = some (.int .i64 ep) ∧ w.cell? ⟨g, 2, none⟩ = some (.int .i64 c) ∧ w.cell? ⟨g, 3, none⟩ = some (.int .i64 ha) ∧ w.cell? ⟨g, 4, none⟩ = some (.int .i64 fi) ∧ w.cell? ⟨g, 5, none⟩ = some (.int .i64 nu) ∧ w.cell? ⟨g, 6, none⟩ = some (.int .i64 ac) ∧ w.cell? ⟨g, 7, none⟩ = some (.int .i64 re) ∧ w.cell? ⟨g, 8, none⟩ = some (.int .i64 ta) ∧ w.cell? ⟨g, 9, none⟩ = some (.int .i64 ok) ∧ w.cell? ⟨g, 10, none⟩ = some (.int .i64 op) ∧ w.cell? ⟨g, 11, none⟩ = some (.int .u8 oc) ∧ w.cell? ⟨g, 12, none⟩ = some (.int .i64 ol) ∧ w.cell? ⟨g, 13, none⟩ = some (.int .i64 os) ∧ w.cell? ⟨0, kk, none⟩ = some sv
theorem msgKeep {w : World} {g : Nat} {k ep c ha fi nu ac re ta ok op oc ol os : Int} {kk : Nat} {sv : Value} (h : MsgCells w g k ep c ha fi nu ac re ta ok op oc ol os kk sv) (X : Obj) : MsgCells (w.alloc X) g k ep c ha fi nu ac re ta ok op oc ol os kk sv := by
  obtain ⟨h0, h1, h2, h3, h4, h5, h6, h7, h8, h9, h10, h11, h12, h13, h14⟩ := h
  exact ⟨cell_alloc h0 X, cell_alloc h1 X, cell_alloc h2 X, cell_alloc h3 X, cell_alloc h4 X, cell_alloc h5 X, cell_alloc h6 X, cell_alloc h7 X, cell_alloc h8 X, cell_alloc h9 X, cell_alloc h10 X, cell_alloc h11 X, cell_alloc h12 X, cell_alloc h13 X, cell_alloc h14 X⟩
theorem msgDrew {w : World} {g : Nat} {k ep c ha fi nu ac re ta ok op oc ol os : Int} {kk : Nat} {sv : Value} (h : MsgCells w g k ep c ha fi nu ac re ta ok op oc ol os kk sv) : MsgCells w.drew g k ep c ha fi nu ac re ta ok op oc ol os kk sv := h
theorem msgSet {w : World} {g : Nat} {k ep c ha fi nu ac re ta ok op oc ol os : Int} {kk : Nat} {sv : Value} (h : MsgCells w g k ep c ha fi nu ac re ta ok op oc ol os kk sv) (b : Nat) (vs : List Value) (h1 : g ≠ b) (h2 : 0 ≠ b) : MsgCells (w.setCells b 0 vs) g k ep c ha fi nu ac re ta ok op oc ol os kk sv := by
  have e : ∀ (x : Nat) (hx : x ≠ b) (i : Nat) (v : Value), w.cell? ⟨x, i, none⟩ = some v → (w.setCells b 0 vs).cell? ⟨x, i, none⟩ = some v := fun x hx i v hv => (World.cell?_setCells_out b vs 0 w ⟨x, i, none⟩ (fun hb _ => absurd hb hx)).trans hv
  obtain ⟨h0, h1', h2', h3, h4, h5, h6, h7, h8, h9, h10, h11, h12, h13, h14⟩ := h
  exact ⟨e g h1 _ _ h0, e g h1 _ _ h1', e g h1 _ _ h2', e g h1 _ _ h3, e g h1 _ _ h4, e g h1 _ _ h5, e g h1 _ _ h6, e g h1 _ _ h7, e g h1 _ _ h8, e g h1 _ _ h9, e g h1 _ _ h10, e g h1 _ _ h11, e g h1 _ _ h12, e g h1 _ _ h13, e _ h2 _ _ h14⟩
theorem there_new (w : World) (cs : Array Value) (t : TypeId) (n : Nat) (h : n = cs.size) : (w.alloc (.cells cs t)).there w.heap.size 0 n := by
  subst h
  intro i hi
  have e := heap_alloc_new w (.cells cs t)
  rw [Nat.zero_add]
  constructor
  · unfold World.cell?
    simp only [e, Option.isSome_none, Bool.false_eq_true, if_false]
    rw [Array.getElem?_eq_getElem hi]; rfl
  · unfold World.frozen?
    simp only [e]
    simp
theorem there_keep {w : World} {b o n : Nat} (h : w.there b o n) (X : Obj) : (w.alloc X).there b o n := by
  intro j hj
  obtain ⟨h1, h2⟩ := h j hj
  obtain ⟨v, hv⟩ := Option.isSome_iff_exists.1 h1
  have hb := block_lt hv
  refine ⟨by rw [cell_alloc hv]; rfl, ?_⟩
  have e : (w.alloc X).heap[b]? = w.heap[b]? := heap_push w X b hb
  rw [← h2]
  unfold World.frozen?
  simp only [e]
theorem setCells_row (w : World) (g : Nat) (t : TypeId) (cur : Array Value) (vs : List Value) (hg : w.heap[g]? = some (.cells cur t (0, 0))) (hl : vs.length = cur.size) (h1 : ∀ v ∈ vs, v.oneCell' = true) : w.setCells g 0 vs = w.setRow g vs.toArray := by
  have e1 := run_storeCells_from (P := Tryd.prog) g t vs 0 cur w hg (by omega) h1
  have hc : ∀ j, j < vs.length → (w.cell? ⟨g, 0 + j, none⟩).isSome = true ∧ w.frozen? ⟨g, 0 + j, none⟩ = false := by
    intro j hj
    rw [Nat.zero_add]
    constructor
    · unfold World.cell?
      simp only [hg, Option.isSome_none, Bool.false_eq_true, if_false]
      rw [Array.getElem?_eq_getElem (by omega)]; rfl
    · unfold World.frozen?
      simp only [hg]
      simp
  have e2 := run_storeCells_cells (P := Tryd.prog) g 0 vs 0 w (fun j hj => by simpa using (hc j hj).1) (fun j hj => by simpa using (hc j hj).2) h1
  rw [e1] at e2
  simp only [List.take_zero, List.nil_append] at e2
  injection e2 with _ e3
  simpa using e3.symm
theorem encRegion {w1 W : World} {B b : Nat} {cur : Array Value} {vs : List Value} (hW : W.heap[b]? = some (.cells cur 114 (0, 0))) (hl : vs.length = cur.size) (h1 : ∀ v ∈ vs, v.oneCell' = true) (hb : B ≤ b) (hB : Below B w1 W) :
    (W.setCells b 0 vs).heap[b]? = some (.cells vs.toArray 114 (0, 0)) ∧ Below B w1 (W.setCells b 0 vs) := by
  rw [setCells_row W b 114 cur vs hW hl h1]
  exact ⟨setRow_heap W b cur _ _ _ hW, below_setRow hB hb _⟩
theorem encRegion1 {w1 : World} (D E : Obj) {cur : Array Value} {vs : List Value} (hl : vs.length = cur.size) (h1 : ∀ v ∈ vs, v.oneCell' = true) :
    ((((w1.alloc D).alloc E).alloc (.cells cur 114)).drew.setCells (w1.heap.size + 1 + 1) 0 vs).heap[w1.heap.size + 1 + 1]? = some (.cells vs.toArray 114 (0, 0)) ∧ Below w1.heap.size w1 ((((w1.alloc D).alloc E).alloc (.cells cur 114)).drew.setCells (w1.heap.size + 1 + 1) 0 vs) := by
  refine encRegion (cur := cur) ?_ hl h1 (by omega) (below_three w1 D E _)
  have e : ((w1.alloc D).alloc E).heap.size = w1.heap.size + 1 + 1 := by simp
  rw [← e]
  exact heap_alloc_new _ _
theorem encRegion2 {w1 : World} (D E : Obj) {cur : Array Value} {vs : List Value} (hl : vs.length = cur.size) (h1 : ∀ v ∈ vs, v.oneCell' = true) :
    ((((w1.alloc (.cells cur 114)).alloc D).alloc E).drew.setCells w1.heap.size 0 vs).heap[w1.heap.size]? = some (.cells vs.toArray 114 (0, 0)) ∧ Below w1.heap.size w1 ((((w1.alloc (.cells cur 114)).alloc D).alloc E).drew.setCells w1.heap.size 0 vs) := by
  refine encRegion (cur := cur) ?_ hl h1 (Nat.le_refl _) (below_three w1 _ D E)
  show (((w1.alloc (.cells cur 114)).alloc D).alloc E).heap[w1.heap.size]? = _
  rw [heap_push _ _ _ (by simp; omega), heap_one]
theorem msgCells_of {w : World} {g : Nat} {k ep c ha fi nu ac re ta ok op oc ol os : Int} {kk : Nat} {sv : Value} (h : w.heap[g]? = some (.cells #[.int .i64 k, .int .i64 ep, .int .i64 c, .int .i64 ha, .int .i64 fi, .int .i64 nu, .int .i64 ac, .int .i64 re, .int .i64 ta, .int .i64 ok, .int .i64 op, .int .u8 oc, .int .i64 ol, .int .i64 os] 25 (0, 0))) (hs : w.cell? ⟨0, kk, none⟩ = some sv) : MsgCells w g k ep c ha fi nu ac re ta ok op oc ol os kk sv :=
  ⟨by simp [World.cell?, h], by simp [World.cell?, h], by simp [World.cell?, h], by simp [World.cell?, h], by simp [World.cell?, h], by simp [World.cell?, h], by simp [World.cell?, h], by simp [World.cell?, h], by simp [World.cell?, h], by simp [World.cell?, h], by simp [World.cell?, h], by simp [World.cell?, h], by simp [World.cell?, h], by simp [World.cell?, h], hs⟩

set_option maxRecDepth 100000 in
set_option maxHeartbeats 2000000 in
theorem encode_core (k : Nat) (ep c ha fi nu ac re ta ok op oc ol os : Int) (w : World) (Q : Ending → World → Prop) (hQ : ∀ e w', EncPost w k ⟨k, ep, c, ha, fi, nu, ac, re, ta, ⟨ok, op, oc, ol, os⟩⟩ e w' → Q e w')
    (h1 : 1 ≤ k) (h6 : k ≤ 6) (ho : 0 ≤ oc ∧ oc ≤ 255) (ht : Tab w) (hs : Sizes w) (hsh : Shapes w) : Calls Tryd.prog 23 #[.agg #[.int .i64 (k : Int), .int .i64 ep, .int .i64 c, .int .i64 ha, .int .i64 fi, .int .i64 nu, .int .i64 ac, .int .i64 re, .int .i64 ta, .int .i64 ok, .int .i64 op, .int .u8 oc, .int .i64 ol, .int .i64 os]] w Q := by
  obtain ⟨ao, n, cap, hcell, hlen, hrd⟩ := hsh k (by omega)
  have hsl := shape_len k h1 h6
  rw [hlen] at hsl
  obtain ⟨b, off, rfl, -, -⟩ := hrd.some (by omega)
  have hn0 : 0 < n := by omega
  have hn14 : n ≤ 14 := by omega
  clear hsl
  have hflat : ∀ w, Calls Tryd.prog 75 #[.agg #[.int .i64 (k : Int), .int .i64 ep, .int .i64 c, .int .i64 ha, .int .i64 fi, .int .i64 nu, .int .i64 ac, .int .i64 re, .int .i64 ta, .int .i64 ok, .int .i64 op, .int .u8 oc, .int .i64 ol, .int .i64 os]] w (OpPost w (M.mk (k : Int) ep c ha fi nu ac re ta ⟨ok, op, oc, ol, os⟩).flat) := fun w => flat_any (M.mk (k : Int) ep c ha fi nu ac re ta ⟨ok, op, oc, ol, os⟩) w ho
  simp only [M.flat] at hflat
  have HFL := Lib.hid hflat
  have HQ := Lib.hid hQ
  have HO := Lib.hid ho; have HT := Lib.hid ht; have HS := Lib.hid hs; have HL := Lib.hid hlen; have HR := Lib.hid hrd
  clear ho ht hs hsh hlen hrd hflat hQ
  have q1 : (1 : Int) ≤ (k : Int) := by omega
  have q2 : (k : Int) ≤ 6 := by omega
  have q0 : (0 : Int) ≤ (k : Int) := by omega
  have q7 : (k : Int) < 7 := by omega
  have hgl := block_lt hcell
  go_enter Tryd.func23, Tryd.ntmps23
  go_wp2_with fail
  have hcs : MsgCells (w.alloc (.cells #[.int .i64 (k : Int), .int .i64 ep, .int .i64 c, .int .i64 ha, .int .i64 fi, .int .i64 nu, .int .i64 ac, .int .i64 re, .int .i64 ta, .int .i64 ok, .int .i64 op, .int .u8 oc, .int .i64 ol, .int .i64 os] 25)) w.heap.size (k : Int) ep c ha fi nu ac re ta ok op oc ol os k (.slice (some ⟨b, off, none⟩) n cap) := msgCells_of (heap_alloc_new _ _) (cell_alloc hcell _)
  have hb0 : Below w.heap.size w (w.alloc (.cells #[.int .i64 (k : Int), .int .i64 ep, .int .i64 c, .int .i64 ha, .int .i64 fi, .int .i64 nu, .int .i64 ac, .int .i64 re, .int .i64 ta, .int .i64 ok, .int .i64 op, .int .u8 oc, .int .i64 ol, .int .i64 os] 25)) := (Below.refl _ w).alloc (Nat.le_refl _) _
  have hs0 : (w.alloc (.cells #[.int .i64 (k : Int), .int .i64 ep, .int .i64 c, .int .i64 ha, .int .i64 fi, .int .i64 nu, .int .i64 ac, .int .i64 re, .int .i64 ta, .int .i64 ok, .int .i64 op, .int .u8 oc, .int .i64 ol, .int .i64 os] 25)).heap.size = w.heap.size + 1 := by simp
  generalize w.alloc (.cells #[.int .i64 (k : Int), .int .i64 ep, .int .i64 c, .int .i64 ha, .int .i64 fi, .int .i64 nu, .int .i64 ac, .int .i64 re, .int .i64 ta, .int .i64 ok, .int .i64 op, .int .u8 oc, .int .i64 ol, .int .i64 os] 25) = w1 at hcs hb0 hs0 ⊢
  generalize hg : w.heap.size = g at hcs hs0 hb0 ⊢
  have HB0 := Lib.hid hb0; have HG := Lib.hid hg
  clear hcell hgl hb0 hg
  have hcd := msgDrew hcs
  have hcs2 := hcs
  obtain ⟨x0, x1, x2, x3, x4, x5, x6, x7, x8, x9, x10, x11, x12, x13, x14⟩ := hcs2
  have hone : ∀ v ∈ [Value.int .i64 (k : Int), Value.int .i64 ep, Value.int .i64 c, Value.int .i64 ha, Value.int .i64 fi, Value.int .i64 nu, Value.int .i64 ac, Value.int .i64 re, Value.int .i64 ta, Value.int .i64 ok, Value.int .i64 op, Value.int .i64 oc, Value.int .i64 ol, Value.int .i64 os], v.oneCell' = true := by simp [Value.oneCell']
  have hinfo : Option.map (fun x => x.size) (Tryd.prog.info? 114) = some [Value.int .i64 (k : Int), Value.int .i64 ep, Value.int .i64 c, Value.int .i64 ha, Value.int .i64 fi, Value.int .i64 nu, Value.int .i64 ac, Value.int .i64 re, Value.int .i64 ta, Value.int .i64 ok, Value.int .i64 op, Value.int .i64 oc, Value.int .i64 ol, Value.int .i64 os].length := by kernel_rfl
  have hth1 : ∀ D E : Obj, (((w1.alloc D).alloc E).alloc (.cells #[Value.int .i64 0, Value.int .i64 0, Value.int .i64 0, Value.int .i64 0, Value.int .i64 0, Value.int .i64 0, Value.int .i64 0, Value.int .i64 0, Value.int .i64 0, Value.int .i64 0, Value.int .i64 0, Value.int .i64 0, Value.int .i64 0, Value.int .i64 0] 114)).drew.there (w1.heap.size + 1 + 1) 0 [Value.int .i64 (k : Int), Value.int .i64 ep, Value.int .i64 c, Value.int .i64 ha, Value.int .i64 fi, Value.int .i64 nu, Value.int .i64 ac, Value.int .i64 re, Value.int .i64 ta, Value.int .i64 ok, Value.int .i64 op, Value.int .i64 oc, Value.int .i64 ol, Value.int .i64 os].length := fun D E => by
    have := there_new ((w1.alloc D).alloc E) #[Value.int .i64 0, Value.int .i64 0, Value.int .i64 0, Value.int .i64 0, Value.int .i64 0, Value.int .i64 0, Value.int .i64 0, Value.int .i64 0, Value.int .i64 0, Value.int .i64 0, Value.int .i64 0, Value.int .i64 0, Value.int .i64 0, Value.int .i64 0] 114 14 rfl
    have e : ((w1.alloc D).alloc E).heap.size = w1.heap.size + 1 + 1 := by simp
    rw [e] at this
    exact this
  have hth2 : ∀ D E : Obj, (((w1.alloc (.cells #[Value.int .i64 0, Value.int .i64 0, Value.int .i64 0, Value.int .i64 0, Value.int .i64 0, Value.int .i64 0, Value.int .i64 0, Value.int .i64 0, Value.int .i64 0, Value.int .i64 0, Value.int .i64 0, Value.int .i64 0, Value.int .i64 0, Value.int .i64 0] 114)).alloc D).alloc E).drew.there w1.heap.size 0 [Value.int .i64 (k : Int), Value.int .i64 ep, Value.int .i64 c, Value.int .i64 ha, Value.int .i64 fi, Value.int .i64 nu, Value.int .i64 ac, Value.int .i64 re, Value.int .i64 ta, Value.int .i64 ok, Value.int .i64 op, Value.int .i64 oc, Value.int .i64 ol, Value.int .i64 os].length := fun D E => there_keep (there_keep (there_new w1 #[Value.int .i64 0, Value.int .i64 0, Value.int .i64 0, Value.int .i64 0, Value.int .i64 0, Value.int .i64 0, Value.int .i64 0, Value.int .i64 0, Value.int .i64 0, Value.int .i64 0, Value.int .i64 0, Value.int .i64 0, Value.int .i64 0, Value.int .i64 0] 114 14 rfl) D) E
  have hn1 : g ≠ w1.heap.size := by omega
  have hn2 : g ≠ w1.heap.size + 1 + 1 := by omega
  have hn3 : 0 ≠ w1.heap.size := by omega
  have hn4 : 0 ≠ w1.heap.size + 1 + 1 := by omega
  have HT1 := Lib.hid hth1; have HT2 := Lib.hid hth2; have HS0 := Lib.hid hs0
  clear hth1 hth2 hs0
  go_cut [4, 5] from 17 to 22 (fun s t wx => ∃ gv, s = .pointer (some ⟨gv, 0, none⟩) ∧ t = .slice (some ⟨b, off, none⟩) n cap ∧ Hid (g + 1 ≤ gv ∧ wx.heap[gv]? = some (.cells #[.int .i64 (k : Int), .int .i64 ep, .int .i64 c, .int .i64 ha, .int .i64 fi, .int .i64 nu, .int .i64 ac, .int .i64 re, .int .i64 ta, .int .i64 ok, .int .i64 op, .int .i64 oc, .int .i64 ol, .int .i64 os] 114 (0, 0)) ∧ Below w1.heap.size w1 wx))
  case first =>
    go_region_held3 (fun w' => MsgCells w' g (k : Int) ep c ha fi nu ac re ta ok op oc ol os k (.slice (some ⟨b, off, none⟩) n cap)) (with_reducible first | exact hcs | exact hcd | exact msgKeep hcd _ | exact msgKeep (msgKeep hcd _) _ | exact msgKeep (msgKeep (msgKeep hcd _) _) _ | exact msgKeep hcs _ | exact msgKeep (msgKeep hcs _) _ | exact msgKeep (msgKeep (msgKeep hcs _) _) _ | exact msgDrew (msgKeep hcs _) | exact msgDrew (msgKeep (msgKeep hcs _) _) | exact msgDrew (msgKeep (msgKeep (msgKeep hcs _) _) _) | exact msgSet (msgDrew (msgKeep (msgKeep (msgKeep hcs _) _) _)) _ _ hn2 hn4 | exact msgSet (msgDrew (msgKeep (msgKeep (msgKeep hcs _) _) _)) _ _ hn1 hn3)
      (first
       | ((with_reducible refine (HFL.out _).mono ?_); rintro e w' ⟨rfl, D, E, rfl⟩; have ht1 := HT1.out D E; have ht2 := HT2.out D E))
    all_goals (go_wp2_with fail; go_meet)
    · exact ⟨_, rfl, rfl, by have := HS0.out; omega, encRegion1 D E rfl hone⟩
    · exact ⟨_, rfl, rfl, by have := HS0.out; omega, encRegion2 D E rfl hone⟩
  case rest =>
    obtain ⟨gv, rfl, rfl, hx⟩ := hcut
    obtain ⟨hgv, hheap, hbx⟩ := hx.out
    have HBX := Lib.hid ((HG.out ▸ HB0.out : Below w.heap.size w w1).trans (hbx.mono (HG.out ▸ HB0.out : Below w.heap.size w w1).size))
    have hy0 : wc.cell? ⟨g, 0, none⟩ = some (.int .i64 (k : Int)) := (hbx.cell (p := ⟨g, 0, none⟩) (block_lt x0)).trans x0
    have hy2 : wc.cell? ⟨g, 2, none⟩ = some (.int .i64 c) := (hbx.cell (p := ⟨g, 2, none⟩) (block_lt x2)).trans x2
    obtain ⟨V, hV⟩ : ∃ V, V = (M.mk k ep c ha fi nu ac re ta ⟨ok, op, oc, ol, os⟩).at := ⟨_, rfl⟩
    have HNU := Lib.hid (show Nums wc gv V by rw [hV]; exact nums_of (m := M.mk k ep c ha fi nu ac re ta ⟨ok, op, oc, ol, os⟩) hheap)
    have HV0 := Lib.hid (show V 0 = (k : Int) by rw [hV]; rfl)
    have HV := Lib.hid hV
    have HRX := Lib.hid (HR.out.keep HBX.out)
    have HSX := Lib.hid (HS.out.step HBX.out)
    clear hx hgv hheap hbx hV x0 x1 x2 x3 x4 x5 x6 x7 x8 x9 x10 x11 x12 x13 x14 hcs hcd hone hinfo hn1 hn2 hn3 hn4
    by_cases hk2 : k = 2
    · have HMK := Lib.hid (show c = makerOf (M.mk k ep c ha fi nu ac re ta ⟨ok, op, oc, ol, os⟩) by unfold makerOf; rw [if_pos (by simp [hk2])])
      have hd2 : ((k : Int) == 2) = true := by simp; omega
      clear hk2
      go_wp2_with fail
      go_loopw [7] (fun i wr => ∃ f : Nat, 1 ≤ f ∧ f ≤ 14 ∧ i = .int .i64 f ∧ wr = wc ∧ Hid (∀ j, 1 ≤ j → j < f → badAt (shapeN k) V c j = false)) (fun i _ => 14 - (intOf i).toNat)
      case atStart => exact ⟨1, by omega, by omega, rfl, rfl, fun j h1 h2 => by omega⟩
      case round =>
        obtain ⟨f, hf1, hf14, rfl, rfl, hgood⟩ := hrel
        by_cases hlt : f < 14
        · have hcell := HNU.out f hlt
          have hcl := block_lt hcell
          have p1 : (0 : Int) ≤ (f : Int) := by omega
          have p2 : (f : Int) < 14 := by omega
          by_cases hm : f ∈ shapeN k
          · have HM := Lib.hid hm
            have hdec : decide (f ∈ shapeN k) = true := by simp [hm]
            clear hm
            by_cases hmay : mayB f V c = true
            · have HMY := Lib.hid hmay
              go_wp2_with (first
                | (go_at_call 76; refine (named_any (some ⟨b, off, none⟩) n cap (shapeN k) f _ HL.out HRX.out (by omega)).mono ?_; rintro e w' ⟨rfl, rfl⟩; rw [hdec])
                | (go_at_call 77; refine (may_any f gv V c _ hlt hf1 HNU.out).mono ?_; rintro e w' ⟨rfl, rfl⟩; rw [hmay]))
              go_roundw
              case rel =>
                refine ⟨f + 1, by omega, by omega, by go_num, trivial, ?_⟩
                intro j h1 h2
                rcases Nat.lt_or_ge j f with h | h
                · exact hgood.out j h1 h
                · obtain rfl : j = f := by omega
                  unfold badAt
                  rw [if_pos HM.out, HMY.out]; rfl
              case measure => simp [intOf]; omega
            · have HMY := Lib.hid hmay
              have hmay2 : mayB f V c = false := by simpa using hmay
              clear hmay
              go_wp2_with (first
                | (go_at_call 76; refine (named_any (some ⟨b, off, none⟩) n cap (shapeN k) f _ HL.out HRX.out (by omega)).mono ?_; rintro e w' ⟨rfl, rfl⟩; rw [hdec])
                | (go_at_call 77; refine (may_any f gv V c _ hlt hf1 HNU.out).mono ?_; rintro e w' ⟨rfl, rfl⟩; rw [hmay2])
                | (go_at_call 74; refine (wrap_any _ _ _).mono ?_; rintro e w' ⟨rfl, rfl⟩))
              refine HQ.out _ _ (.inr ⟨f, _, hf1, hlt, ?_, ?_, rfl, (newFault_alloc _ _ _).after HBX.out⟩)
              · rw [← HV.out, ← HMK.out]; exact hgood.out
              · rw [← HV.out, ← HMK.out]
                unfold badAt
                rw [if_pos HM.out, hmay2]; rfl
          · have HM := Lib.hid hm
            have hdec : decide (f ∈ shapeN k) = false := by simp [hm]
            clear hm
            by_cases hz : V f = 0
            · have hd : (V f != 0) = false := by simp [hz]
              have HZ := Lib.hid hz
              clear hz
              go_wp2_with (go_at_call 76; refine (named_any (some ⟨b, off, none⟩) n cap (shapeN k) f _ HL.out HRX.out (by omega)).mono ?_; rintro e w' ⟨rfl, rfl⟩; rw [hdec])
              go_roundw
              case rel =>
                refine ⟨f + 1, by omega, by omega, by go_num, trivial, ?_⟩
                intro j h1 h2
                rcases Nat.lt_or_ge j f with h | h
                · exact hgood.out j h1 h
                · obtain rfl : j = f := by omega
                  exact (badAt_out HM.out).2 HZ.out
              case measure => simp [intOf]; omega
            · have hd : (V f != 0) = true := by simp [hz]
              have HZ := Lib.hid hz
              clear hz
              go_wp2_with (first
                | (go_at_call 76; refine (named_any (some ⟨b, off, none⟩) n cap (shapeN k) f _ HL.out HRX.out (by omega)).mono ?_; rintro e w' ⟨rfl, rfl⟩; rw [hdec])
                | (go_at_call 74; refine (wrap_any _ _ _).mono ?_; rintro e w' ⟨rfl, rfl⟩))
              refine HQ.out _ _ (.inr ⟨f, _, hf1, hlt, ?_, ?_, rfl, (newFault_alloc _ _ _).after HBX.out⟩)
              · rw [← HV.out, ← HMK.out]; exact hgood.out
              · rw [← HV.out, ← HMK.out]
                unfold badAt
                rw [if_neg HM.out, hd]
        · obtain rfl : f = 14 := by omega
          have hG : Good k (M.mk k ep c ha fi nu ac re ta ⟨ok, op, oc, ol, os⟩) := by
            unfold Good
            rw [← HV.out, ← HMK.out]
            exact hgood.out
          have hF := (good_fine k (M.mk k ep c ha fi nu ac re ta ⟨ok, op, oc, ol, os⟩) rfl h1 h6).1 hG
          have hR := fine_range hF k rfl
          rw [← HV.out] at hR
          have HG := Lib.hid hG; have HRG := Lib.hid hR
          clear hG hF hR
          go_wp2_with fail
          refine (lay_any gv V b off n cap (shapeN k) _ HL.out HRX.out hn0 hn14 HNU.out HSX.out (by rw [HV0.out]; omega) (by rw [HV0.out]; omega) HRG.out).mono ?_
          rintro e w2 ⟨g2, rfl, hg2, hrow, hb2⟩
          have HROW := Lib.hid hrow; have HB2 := Lib.hid (HBX.out.trans (hb2.mono HBX.out.size)); clear hrow hb2
          go_wp2_with fail
          refine (seal_any _ _ _ (layB V (shapeN k)) _ rfl HROW.out.rd (by have := lay_len V (shapeN k); have := HL.out; omega) (HT.out.step HB2.out)).mono ?_
          rintro e w3 ⟨g3, rfl, hg3, hrow3, hb3⟩
          have HROW3 := Lib.hid hrow3; have HB3 := Lib.hid (HB2.out.trans (hb3.mono HB2.out.size)); clear hrow3 hb3
          have HE := Lib.hid (show sealed (layB V (shapeN k)) = encB (M.mk k ep c ha fi nu ac re ta ⟨ok, op, oc, ol, os⟩) by rw [HV.out]; rfl)
          rw [HE.out]
          go_wp2
          refine HQ.out _ _ (.inl ⟨HG.out, g3, rfl, Nat.le_trans HB2.out.size hg3, ?_, HB3.out⟩)
          rw [← HE.out]; exact HROW3.out
    · have HMK := Lib.hid (show (0 : Int) = makerOf (M.mk k ep c ha fi nu ac re ta ⟨ok, op, oc, ol, os⟩) by unfold makerOf; rw [if_neg (by simp; omega)])
      have hd2 : ((k : Int) == 2) = false := by simp; omega
      clear hk2
      go_wp2_with fail
      go_loopw [7] (fun i wr => ∃ f : Nat, 1 ≤ f ∧ f ≤ 14 ∧ i = .int .i64 f ∧ wr = wc ∧ Hid (∀ j, 1 ≤ j → j < f → badAt (shapeN k) V 0 j = false)) (fun i _ => 14 - (intOf i).toNat)
      case atStart => exact ⟨1, by omega, by omega, rfl, rfl, fun j h1 h2 => by omega⟩
      case round =>
        obtain ⟨f, hf1, hf14, rfl, rfl, hgood⟩ := hrel
        by_cases hlt : f < 14
        · have hcell := HNU.out f hlt
          have hcl := block_lt hcell
          have p1 : (0 : Int) ≤ (f : Int) := by omega
          have p2 : (f : Int) < 14 := by omega
          by_cases hm : f ∈ shapeN k
          · have HM := Lib.hid hm
            have hdec : decide (f ∈ shapeN k) = true := by simp [hm]
            clear hm
            by_cases hmay : mayB f V 0 = true
            · have HMY := Lib.hid hmay
              go_wp2_with (first
                | (go_at_call 76; refine (named_any (some ⟨b, off, none⟩) n cap (shapeN k) f _ HL.out HRX.out (by omega)).mono ?_; rintro e w' ⟨rfl, rfl⟩; rw [hdec])
                | (go_at_call 77; refine (may_any f gv V 0 _ hlt hf1 HNU.out).mono ?_; rintro e w' ⟨rfl, rfl⟩; rw [hmay]))
              go_roundw
              case rel =>
                refine ⟨f + 1, by omega, by omega, by go_num, trivial, ?_⟩
                intro j h1 h2
                rcases Nat.lt_or_ge j f with h | h
                · exact hgood.out j h1 h
                · obtain rfl : j = f := by omega
                  unfold badAt
                  rw [if_pos HM.out, HMY.out]; rfl
              case measure => simp [intOf]; omega
            · have HMY := Lib.hid hmay
              have hmay2 : mayB f V 0 = false := by simpa using hmay
              clear hmay
              go_wp2_with (first
                | (go_at_call 76; refine (named_any (some ⟨b, off, none⟩) n cap (shapeN k) f _ HL.out HRX.out (by omega)).mono ?_; rintro e w' ⟨rfl, rfl⟩; rw [hdec])
                | (go_at_call 77; refine (may_any f gv V 0 _ hlt hf1 HNU.out).mono ?_; rintro e w' ⟨rfl, rfl⟩; rw [hmay2])
                | (go_at_call 74; refine (wrap_any _ _ _).mono ?_; rintro e w' ⟨rfl, rfl⟩))
              refine HQ.out _ _ (.inr ⟨f, _, hf1, hlt, ?_, ?_, rfl, (newFault_alloc _ _ _).after HBX.out⟩)
              · rw [← HV.out, ← HMK.out]; exact hgood.out
              · rw [← HV.out, ← HMK.out]
                unfold badAt
                rw [if_pos HM.out, hmay2]; rfl
          · have HM := Lib.hid hm
            have hdec : decide (f ∈ shapeN k) = false := by simp [hm]
            clear hm
            by_cases hz : V f = 0
            · have hd : (V f != 0) = false := by simp [hz]
              have HZ := Lib.hid hz
              clear hz
              go_wp2_with (go_at_call 76; refine (named_any (some ⟨b, off, none⟩) n cap (shapeN k) f _ HL.out HRX.out (by omega)).mono ?_; rintro e w' ⟨rfl, rfl⟩; rw [hdec])
              go_roundw
              case rel =>
                refine ⟨f + 1, by omega, by omega, by go_num, trivial, ?_⟩
                intro j h1 h2
                rcases Nat.lt_or_ge j f with h | h
                · exact hgood.out j h1 h
                · obtain rfl : j = f := by omega
                  exact (badAt_out HM.out).2 HZ.out
              case measure => simp [intOf]; omega
            · have hd : (V f != 0) = true := by simp [hz]
              have HZ := Lib.hid hz
              clear hz
              go_wp2_with (first
                | (go_at_call 76; refine (named_any (some ⟨b, off, none⟩) n cap (shapeN k) f _ HL.out HRX.out (by omega)).mono ?_; rintro e w' ⟨rfl, rfl⟩; rw [hdec])
                | (go_at_call 74; refine (wrap_any _ _ _).mono ?_; rintro e w' ⟨rfl, rfl⟩))
              refine HQ.out _ _ (.inr ⟨f, _, hf1, hlt, ?_, ?_, rfl, (newFault_alloc _ _ _).after HBX.out⟩)
              · rw [← HV.out, ← HMK.out]; exact hgood.out
              · rw [← HV.out, ← HMK.out]
                unfold badAt
                rw [if_neg HM.out, hd]
        · obtain rfl : f = 14 := by omega
          have hG : Good k (M.mk k ep c ha fi nu ac re ta ⟨ok, op, oc, ol, os⟩) := by
            unfold Good
            rw [← HV.out, ← HMK.out]
            exact hgood.out
          have hF := (good_fine k (M.mk k ep c ha fi nu ac re ta ⟨ok, op, oc, ol, os⟩) rfl h1 h6).1 hG
          have hR := fine_range hF k rfl
          rw [← HV.out] at hR
          have HG := Lib.hid hG; have HRG := Lib.hid hR
          clear hG hF hR
          go_wp2_with fail
          refine (lay_any gv V b off n cap (shapeN k) _ HL.out HRX.out hn0 hn14 HNU.out HSX.out (by rw [HV0.out]; omega) (by rw [HV0.out]; omega) HRG.out).mono ?_
          rintro e w2 ⟨g2, rfl, hg2, hrow, hb2⟩
          have HROW := Lib.hid hrow; have HB2 := Lib.hid (HBX.out.trans (hb2.mono HBX.out.size)); clear hrow hb2
          go_wp2_with fail
          refine (seal_any _ _ _ (layB V (shapeN k)) _ rfl HROW.out.rd (by have := lay_len V (shapeN k); have := HL.out; omega) (HT.out.step HB2.out)).mono ?_
          rintro e w3 ⟨g3, rfl, hg3, hrow3, hb3⟩
          have HROW3 := Lib.hid hrow3; have HB3 := Lib.hid (HB2.out.trans (hb3.mono HB2.out.size)); clear hrow3 hb3
          have HE := Lib.hid (show sealed (layB V (shapeN k)) = encB (M.mk k ep c ha fi nu ac re ta ⟨ok, op, oc, ol, os⟩) by rw [HV.out]; rfl)
          rw [HE.out]
          go_wp2
          refine HQ.out _ _ (.inl ⟨HG.out, g3, rfl, Nat.le_trans HB2.out.size hg3, ?_, HB3.out⟩)
          rw [← HE.out]; exact HROW3.out
end Go.Proofs.YtoophonmonojcaaDoor

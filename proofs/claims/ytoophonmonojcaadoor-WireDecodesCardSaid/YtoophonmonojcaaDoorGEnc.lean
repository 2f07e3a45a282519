/- Several texts laid as one, in this order: WireEnc, WirePick, WireMsg. -/
import Derived.Test.YtoophonmonojcaaDoorGSpec
import Derived.Deep.RegionHeld3
import Derived.Deep.CutRange
import Derived.Test.YtoophonmonojcaaDoorGOct
import Derived.Laws.ResultCell
import Derived.Laws.Tables
import Derived.Great.BuildSlice
import Derived.Test.YtoophonmonojcaaDoorGOwn
/- Contract of wire's Encode. -/
namespace Go.Proofs.YtoophonmonojcaaDoor
open Go.RowKit

/-- What Encode answers of a message of one of the six kinds: its datagram, or the first field that may not stand. -/
def EncPost (w : World) (k : Nat) (m : M) (e : Ending) (w' : World) : Prop :=
  (Good k m ∧ ∃ g, e = .returned (.tuple #[.slice (some ⟨g, 0, none⟩) (encB m).length (encB m).length, .nilIface]) ∧ w.heap.size ≤ g ∧ Row w' g (encB m) ∧ Below w.heap.size w w') ∨
  (∃ f g : Nat, 1 ≤ f ∧ f < 14 ∧ (∀ i, 1 ≤ i → i < f → badAt (shapeN k) m.at (makerOf m) i = false) ∧ badAt (shapeN k) m.at (makerOf m) f = true ∧ e = .returned (.tuple #[.slice none 0 0, faultV g]) ∧ NewFault w f 63 g w')

theorem nums_of {w : World} {g : Nat} {m : M} (h : w.heap[g]? = some (.cells #[.int .i64 m.k, .int .i64 m.e, .int .i64 m.c, .int .i64 m.ha, .int .i64 m.fi, .int .i64 m.nu, .int .i64 m.ac, .int .i64 m.re, .int .i64 m.ta, .int .i64 m.op.k, .int .i64 m.op.p, .int .i64 m.op.ch, .int .i64 m.op.cl, .int .i64 m.op.s] 114 (0, 0))) : Nums w g m.at := by
  intro i hi
  have hc : i = 0 ∨ i = 1 ∨ i = 2 ∨ i = 3 ∨ i = 4 ∨ i = 5 ∨ i = 6 ∨ i = 7 ∨ i = 8 ∨ i = 9 ∨ i = 10 ∨ i = 11 ∨ i = 12 ∨ i = 13 := by omega
  rcases hc with rfl | rfl | rfl | rfl | rfl | rfl | rfl | rfl | rfl | rfl | rfl | rfl | rfl | rfl <;> simp [World.cell?, h, M.at]

theorem shape_len (k : Nat) (h1 : 1 ≤ k) (h6 : k ≤ 6) : 2 ≤ (shapeN k).length ∧ (shapeN k).length ≤ 10 := by
  have hc : k = 1 ∨ k = 2 ∨ k = 3 ∨ k = 4 ∨ k = 5 ∨ k = 6 := by omega
  rcases hc with rfl | rfl | rfl | rfl | rfl | rfl <;> decide
/-- A message's cells, and the shape of its kind. -/
abbrev MsgCells (w : World) (g : Nat) (k ep c ha fi nu ac re ta ok op oc ol os : Int) (kk : Nat) (sv : Value) : Prop := w.cell? ⟨g, 0, none⟩ = some (.int .i64 k) ∧ w.cell? ⟨g, 1, none⟩ = some (.int .i64 ep) ∧ w.cell? ⟨g, 2, none⟩ = some (.int .i64 c) ∧ w.cell? ⟨g, 3, none⟩ = some (.int .i64 ha) ∧ w.cell? ⟨g, 4, none⟩ = some (.int .i64 fi) ∧ w.cell? ⟨g, 5, none⟩ = some (.int .i64 nu) ∧ w.cell? ⟨g, 6, none⟩ = some (.int .i64 ac) ∧ w.cell? ⟨g, 7, none⟩ = some (.int .i64 re) ∧ w.cell? ⟨g, 8, none⟩ = some (.int .i64 ta) ∧ w.cell? ⟨g, 9, none⟩ = some (.int .i64 ok) ∧ w.cell? ⟨g, 10, none⟩ = some (.int .i64 op) ∧ w.cell? ⟨g, 11, none⟩ = some (.int .u8 oc) ∧ w.cell? ⟨g, 12, none⟩ = some (.int .i64 ol) ∧ w.cell? ⟨g, 13, none⟩ = some (.int .i64 os) ∧ w.cell? ⟨0, kk, none⟩ = some sv
theorem msgKeep {w : World} {g : Nat} {k ep c ha fi nu ac re ta ok op oc ol os : Int} {kk : Nat} {sv : Value} (h : MsgCells w g k ep c ha fi nu ac re ta ok op oc ol os kk sv) (X : Obj) : MsgCells (w.alloc X) g k ep c ha fi nu ac re ta ok op oc ol os kk sv := by
  obtain ⟨h0, h1, h2, h3, h4, h5, h6, h7, h8, h9, h10, h11, h12, h13, h14⟩ := h
  exact ⟨cell_alloc h0 X, cell_alloc h1 X, cell_alloc h2 X, cell_alloc h3 X, cell_alloc h4 X, cell_alloc h5 X, cell_alloc h6 X, cell_alloc h7 X, cell_alloc h8 X, cell_alloc h9 X, cell_alloc h10 X, cell_alloc h11 X, cell_alloc h12 X, cell_alloc h13 X, cell_alloc h14 X⟩
theorem msgDrew {w : World} {g : Nat} {k ep c ha fi nu ac re ta ok op oc ol os : Int} {kk : Nat} {sv : Value} (h : MsgCells w g k ep c ha fi nu ac re ta ok op oc ol os kk sv) : MsgCells w.drew g k ep c ha fi nu ac re ta ok op oc ol os kk sv := h
theorem msgSet {w : World} {g : Nat} {k ep c ha fi nu ac re ta ok op oc ol os : Int} {kk : Nat} {sv : Value} (h : MsgCells w g k ep c ha fi nu ac re ta ok op oc ol os kk sv) (b : Nat) (vs : List Value) (h1 : g ≠ b) (h2 : 0 ≠ b) : MsgCells (w.setCells b 0 vs) g k ep c ha fi nu ac re ta ok op oc ol os kk sv := by
  have e : ∀ (x : Nat) (hx : x ≠ b) (i : Nat) (v : Value), w.cell? ⟨x, i, none⟩ = some v → (w.setCells b 0 vs).cell? ⟨x, i, none⟩ = some v := fun x hx i v hv => (World.cell?_setCells_out b vs 0 w ⟨x, i, none⟩ (fun hb _ => absurd hb hx)).trans hv
  obtain ⟨h0, h1', h2', h3, h4, h5, h6, h7, h8, h9, h10, h11, h12, h13, h14⟩ := h
  exact ⟨e g h1 _ _ h0, e g h1 _ _ h1', e g h1 _ _ h2', e g h1 _ _ h3, e g h1 _ _ h4, e g h1 _ _ h5, e g h1 _ _ h6, e g h1 _ _ h7, e g h1 _ _ h8, e g h1 _ _ h9, e g h1 _ _ h10, e g h1 _ _ h11, e g h1 _ _ h12, e g h1 _ _ h13, e _ h2 _ _ h14⟩
theorem there_new (w : World) (cs : Array Value) (t : TypeId) (n : Nat) (h : n = cs.size) : (w.alloc (.cells cs t)).there w.heap.size 0 n := by
  subst h
  intro i hi
  have e := heap_alloc_new w (.cells cs t)
  rw [Nat.zero_add]
  constructor
  · unfold World.cell?
    simp only [e, Option.isSome_none, Bool.false_eq_true, if_false]
    rw [Array.getElem?_eq_getElem hi]; rfl
  · unfold World.frozen?
    simp only [e]
    simp
theorem there_keep {w : World} {b o n : Nat} (h : w.there b o n) (X : Obj) : (w.alloc X).there b o n := by
  intro j hj
  obtain ⟨h1, h2⟩ := h j hj
  obtain ⟨v, hv⟩ := Option.isSome_iff_exists.1 h1
  have hb := block_lt hv
  refine ⟨by rw [cell_alloc hv]; rfl, ?_⟩
  have e : (w.alloc X).heap[b]? = w.heap[b]? := heap_push w X b hb
  rw [← h2]
  unfold World.frozen?
  simp only [e]
theorem setCells_row (w : World) (g : Nat) (t : TypeId) (cur : Array Value) (vs : List Value) (hg : w.heap[g]? = some (.cells cur t (0, 0))) (hl : vs.length = cur.size) (h1 : ∀ v ∈ vs, v.oneCell' = true) : w.setCells g 0 vs = w.setRow g vs.toArray := by
  have e1 := run_storeCells_from (P := Tryd.prog) g t vs 0 cur w hg (by omega) h1
  have hc : ∀ j, j < vs.length → (w.cell? ⟨g, 0 + j, none⟩).isSome = true ∧ w.frozen? ⟨g, 0 + j, none⟩ = false := by
    intro j hj
    rw [Nat.zero_add]
    constructor
    · unfold World.cell?
      simp only [hg, Option.isSome_none, Bool.false_eq_true, if_false]
      rw [Array.getElem?_eq_getElem (by omega)]; rfl
    · unfold World.frozen?
      simp only [hg]
      simp
  have e2 := run_storeCells_cells (P := Tryd.prog) g 0 vs 0 w (fun j hj => by simpa using (hc j hj).1) (fun j hj => by simpa using (hc j hj).2) h1
  rw [e1] at e2
  simp only [List.take_zero, List.nil_append] at e2
  injection e2 with _ e3
  simpa using e3.symm
theorem encRegion {w1 W : World} {B b : Nat} {cur : Array Value} {vs : List Value} (hW : W.heap[b]? = some (.cells cur 114 (0, 0))) (hl : vs.length = cur.size) (h1 : ∀ v ∈ vs, v.oneCell' = true) (hb : B ≤ b) (hB : Below B w1 W) :
    (W.setCells b 0 vs).heap[b]? = some (.cells vs.toArray 114 (0, 0)) ∧ Below B w1 (W.setCells b 0 vs) := by
  rw [setCells_row W b 114 cur vs hW hl h1]
  exact ⟨setRow_heap W b cur _ _ _ hW, below_setRow hB hb _⟩
theorem encRegion1 {w1 : World} (D E : Obj) {cur : Array Value} {vs : List Value} (hl : vs.length = cur.size) (h1 : ∀ v ∈ vs, v.oneCell' = true) :
    ((((w1.alloc D).alloc E).alloc (.cells cur 114)).drew.setCells (w1.heap.size + 1 + 1) 0 vs).heap[w1.heap.size + 1 + 1]? = some (.cells vs.toArray 114 (0, 0)) ∧ Below w1.heap.size w1 ((((w1.alloc D).alloc E).alloc (.cells cur 114)).drew.setCells (w1.heap.size + 1 + 1) 0 vs) := by
  refine encRegion (cur := cur) ?_ hl h1 (by omega) (below_three w1 D E _)
  have e : ((w1.alloc D).alloc E).heap.size = w1.heap.size + 1 + 1 := by simp
  rw [← e]
  exact heap_alloc_new _ _
theorem encRegion2 {w1 : World} (D E : Obj) {cur : Array Value} {vs : List Value} (hl : vs.length = cur.size) (h1 : ∀ v ∈ vs, v.oneCell' = true) :
    ((((w1.alloc (.cells cur 114)).alloc D).alloc E).drew.setCells w1.heap.size 0 vs).heap[w1.heap.size]? = some (.cells vs.toArray 114 (0, 0)) ∧ Below w1.heap.size w1 ((((w1.alloc (.cells cur 114)).alloc D).alloc E).drew.setCells w1.heap.size 0 vs) := by
  refine encRegion (cur := cur) ?_ hl h1 (Nat.le_refl _) (below_three w1 _ D E)
  show (((w1.alloc (.cells cur 114)).alloc D).alloc E).heap[w1.heap.size]? = _
  rw [heap_push _ _ _ (by simp; omega), heap_one]
theorem msgCells_of {w : World} {g : Nat} {k ep c ha fi nu ac re ta ok op oc ol os : Int} {kk : Nat} {sv : Value} (h : w.heap[g]? = some (.cells #[.int .i64 k, .int .i64 ep, .int .i64 c, .int .i64 ha, .int .i64 fi, .int .i64 nu, .int .i64 ac, .int .i64 re, .int .i64 ta, .int .i64 ok, .int .i64 op, .int .u8 oc, .int .i64 ol, .int .i64 os] 25 (0, 0))) (hs : w.cell? ⟨0, kk, none⟩ = some sv) : MsgCells w g k ep c ha fi nu ac re ta ok op oc ol os kk sv :=
  ⟨by simp [World.cell?, h], by simp [World.cell?, h], by simp [World.cell?, h], by simp [World.cell?, h], by simp [World.cell?, h], by simp [World.cell?, h], by simp [World.cell?, h], by simp [World.cell?, h], by simp [World.cell?, h], by simp [World.cell?, h], by simp [World.cell?, h], by simp [World.cell?, h], by simp [World.cell?, h], by simp [World.cell?, h], hs⟩

set_option maxRecDepth 100000 in
set_option maxHeartbeats 2000000 in
theorem encode_core (k : Nat) (ep c ha fi nu ac re ta ok op oc ol os : Int) (w : World) (Q : Ending → World → Prop) (hQ : ∀ e w', EncPost w k ⟨k, ep, c, ha, fi, nu, ac, re, ta, ⟨ok, op, oc, ol, os⟩⟩ e w' → Q e w')
    (h1 : 1 ≤ k) (h6 : k ≤ 6) (ho : 0 ≤ oc ∧ oc ≤ 255) (ht : Tab w) (hs : Sizes w) (hsh : Shapes w) : Calls Tryd.prog 23 #[.agg #[.int .i64 (k : Int), .int .i64 ep, .int .i64 c, .int .i64 ha, .int .i64 fi, .int .i64 nu, .int .i64 ac, .int .i64 re, .int .i64 ta, .int .i64 ok, .int .i64 op, .int .u8 oc, .int .i64 ol, .int .i64 os]] w Q := by
  obtain ⟨ao, n, cap, hcell, hlen, hrd⟩ := hsh k (by omega)
  have hsl := shape_len k h1 h6
  rw [hlen] at hsl
  obtain ⟨b, off, rfl, -, -⟩ := hrd.some (by omega)
  have hn0 : 0 < n := by omega
  have hn14 : n ≤ 14 := by omega
  clear hsl
  have hflat : ∀ w, Calls Tryd.prog 75 #[.agg #[.int .i64 (k : Int), .int .i64 ep, .int .i64 c, .int .i64 ha, .int .i64 fi, .int .i64 nu, .int .i64 ac, .int .i64 re, .int .i64 ta, .int .i64 ok, .int .i64 op, .int .u8 oc, .int .i64 ol, .int .i64 os]] w (OpPost w (M.mk (k : Int) ep c ha fi nu ac re ta ⟨ok, op, oc, ol, os⟩).flat) := fun w => flat_any (M.mk (k : Int) ep c ha fi nu ac re ta ⟨ok, op, oc, ol, os⟩) w ho
  simp only [M.flat] at hflat
  have HFL := Lib.hid hflat
  have HQ := Lib.hid hQ
  have HO := Lib.hid ho; have HT := Lib.hid ht; have HS := Lib.hid hs; have HL := Lib.hid hlen; have HR := Lib.hid hrd
  clear ho ht hs hsh hlen hrd hflat hQ
  have q1 : (1 : Int) ≤ (k : Int) := by omega
  have q2 : (k : Int) ≤ 6 := by omega
  have q0 : (0 : Int) ≤ (k : Int) := by omega
  have q7 : (k : Int) < 7 := by omega
  have hgl := block_lt hcell
  go_enter Tryd.func23, Tryd.ntmps23
  go_wp2_with fail
  have hcs : MsgCells (w.alloc (.cells #[.int .i64 (k : Int), .int .i64 ep, .int .i64 c, .int .i64 ha, .int .i64 fi, .int .i64 nu, .int .i64 ac, .int .i64 re, .int .i64 ta, .int .i64 ok, .int .i64 op, .int .u8 oc, .int .i64 ol, .int .i64 os] 25)) w.heap.size (k : Int) ep c ha fi nu ac re ta ok op oc ol os k (.slice (some ⟨b, off, none⟩) n cap) := msgCells_of (heap_alloc_new _ _) (cell_alloc hcell _)
  have hb0 : Below w.heap.size w (w.alloc (.cells #[.int .i64 (k : Int), .int .i64 ep, .int .i64 c, .int .i64 ha, .int .i64 fi, .int .i64 nu, .int .i64 ac, .int .i64 re, .int .i64 ta, .int .i64 ok, .int .i64 op, .int .u8 oc, .int .i64 ol, .int .i64 os] 25)) := (Below.refl _ w).alloc (Nat.le_refl _) _
  have hs0 : (w.alloc (.cells #[.int .i64 (k : Int), .int .i64 ep, .int .i64 c, .int .i64 ha, .int .i64 fi, .int .i64 nu, .int .i64 ac, .int .i64 re, .int .i64 ta, .int .i64 ok, .int .i64 op, .int .u8 oc, .int .i64 ol, .int .i64 os] 25)).heap.size = w.heap.size + 1 := by simp
  generalize w.alloc (.cells #[.int .i64 (k : Int), .int .i64 ep, .int .i64 c, .int .i64 ha, .int .i64 fi, .int .i64 nu, .int .i64 ac, .int .i64 re, .int .i64 ta, .int .i64 ok, .int .i64 op, .int .u8 oc, .int .i64 ol, .int .i64 os] 25) = w1 at hcs hb0 hs0 ⊢
  generalize hg : w.heap.size = g at hcs hs0 hb0 ⊢
  have HB0 := Lib.hid hb0; have HG := Lib.hid hg
  clear hcell hgl hb0 hg
  have hcd := msgDrew hcs
  have hcs2 := hcs
  obtain ⟨x0, x1, x2, x3, x4, x5, x6, x7, x8, x9, x10, x11, x12, x13, x14⟩ := hcs2
  have hone : ∀ v ∈ [Value.int .i64 (k : Int), Value.int .i64 ep, Value.int .i64 c, Value.int .i64 ha, Value.int .i64 fi, Value.int .i64 nu, Value.int .i64 ac, Value.int .i64 re, Value.int .i64 ta, Value.int .i64 ok, Value.int .i64 op, Value.int .i64 oc, Value.int .i64 ol, Value.int .i64 os], v.oneCell' = true := by simp [Value.oneCell']
  have hinfo : Option.map (fun x => x.size) (Tryd.prog.info? 114) = some [Value.int .i64 (k : Int), Value.int .i64 ep, Value.int .i64 c, Value.int .i64 ha, Value.int .i64 fi, Value.int .i64 nu, Value.int .i64 ac, Value.int .i64 re, Value.int .i64 ta, Value.int .i64 ok, Value.int .i64 op, Value.int .i64 oc, Value.int .i64 ol, Value.int .i64 os].length := by kernel_rfl
  have hth1 : ∀ D E : Obj, (((w1.alloc D).alloc E).alloc (.cells #[Value.int .i64 0, Value.int .i64 0, Value.int .i64 0, Value.int .i64 0, Value.int .i64 0, Value.int .i64 0, Value.int .i64 0, Value.int .i64 0, Value.int .i64 0, Value.int .i64 0, Value.int .i64 0, Value.int .i64 0, Value.int .i64 0, Value.int .i64 0] 114)).drew.there (w1.heap.size + 1 + 1) 0 [Value.int .i64 (k : Int), Value.int .i64 ep, Value.int .i64 c, Value.int .i64 ha, Value.int .i64 fi, Value.int .i64 nu, Value.int .i64 ac, Value.int .i64 re, Value.int .i64 ta, Value.int .i64 ok, Value.int .i64 op, Value.int .i64 oc, Value.int .i64 ol, Value.int .i64 os].length := fun D E => by
    have := there_new ((w1.alloc D).alloc E) #[Value.int .i64 0, Value.int .i64 0, Value.int .i64 0, Value.int .i64 0, Value.int .i64 0, Value.int .i64 0, Value.int .i64 0, Value.int .i64 0, Value.int .i64 0, Value.int .i64 0, Value.int .i64 0, Value.int .i64 0, Value.int .i64 0, Value.int .i64 0] 114 14 rfl
    have e : ((w1.alloc D).alloc E).heap.size = w1.heap.size + 1 + 1 := by simp
    rw [e] at this
    exact this
  have hth2 : ∀ D E : Obj, (((w1.alloc (.cells #[Value.int .i64 0, Value.int .i64 0, Value.int .i64 0, Value.int .i64 0, Value.int .i64 0, Value.int .i64 0, Value.int .i64 0, Value.int .i64 0, Value.int .i64 0, Value.int .i64 0, Value.int .i64 0, Value.int .i64 0, Value.int .i64 0, Value.int .i64 0] 114)).alloc D).alloc E).drew.there w1.heap.size 0 [Value.int .i64 (k : Int), Value.int .i64 ep, Value.int .i64 c, Value.int .i64 ha, Value.int .i64 fi, Value.int .i64 nu, Value.int .i64 ac, Value.int .i64 re, Value.int .i64 ta, Value.int .i64 ok, Value.int .i64 op, Value.int .i64 oc, Value.int .i64 ol, Value.int .i64 os].length := fun D E => there_keep (there_keep (there_new w1 #[Value.int .i64 0, Value.int .i64 0, Value.int .i64 0, Value.int .i64 0, Value.int .i64 0, Value.int .i64 0, Value.int .i64 0, Value.int .i64 0, Value.int .i64 0, Value.int .i64 0, Value.int .i64 0, Value.int .i64 0, Value.int .i64 0, Value.int .i64 0] 114 14 rfl) D) E
  have hn1 : g ≠ w1.heap.size := by omega
  have hn2 : g ≠ w1.heap.size + 1 + 1 := by omega
  have hn3 : 0 ≠ w1.heap.size := by omega
  have hn4 : 0 ≠ w1.heap.size + 1 + 1 := by omega
  have HT1 := Lib.hid hth1; have HT2 := Lib.hid hth2; have HS0 := Lib.hid hs0
  clear hth1 hth2 hs0
  go_cut [4, 5] from 17 to 22 (fun s t wx => ∃ gv, s = .pointer (some ⟨gv, 0, none⟩) ∧ t = .slice (some ⟨b, off, none⟩) n cap ∧ Hid (g + 1 ≤ gv ∧ wx.heap[gv]? = some (.cells #[.int .i64 (k : Int), .int .i64 ep, .int .i64 c, .int .i64 ha, .int .i64 fi, .int .i64 nu, .int .i64 ac, .int .i64 re, .int .i64 ta, .int .i64 ok, .int .i64 op, .int .i64 oc, .int .i64 ol, .int .i64 os] 114 (0, 0)) ∧ Below w1.heap.size w1 wx))
  case first =>
    go_region_held3 (fun w' => MsgCells w' g (k : Int) ep c ha fi nu ac re ta ok op oc ol os k (.slice (some ⟨b, off, none⟩) n cap)) (with_reducible first | exact hcs | exact hcd | exact msgKeep hcd _ | exact msgKeep (msgKeep hcd _) _ | exact msgKeep (msgKeep (msgKeep hcd _) _) _ | exact msgKeep hcs _ | exact msgKeep (msgKeep hcs _) _ | exact msgKeep (msgKeep (msgKeep hcs _) _) _ | exact msgDrew (msgKeep hcs _) | exact msgDrew (msgKeep (msgKeep hcs _) _) | exact msgDrew (msgKeep (msgKeep (msgKeep hcs _) _) _) | exact msgSet (msgDrew (msgKeep (msgKeep (msgKeep hcs _) _) _)) _ _ hn2 hn4 | exact msgSet (msgDrew (msgKeep (msgKeep (msgKeep hcs _) _) _)) _ _ hn1 hn3)
      (first
       | ((with_reducible refine (HFL.out _).mono ?_); rintro e w' ⟨rfl, D, E, rfl⟩; have ht1 := HT1.out D E; have ht2 := HT2.out D E))
    all_goals (go_wp2_with fail; go_meet)
    · exact ⟨_, rfl, rfl, by have := HS0.out; omega, encRegion1 D E rfl hone⟩
    · exact ⟨_, rfl, rfl, by have := HS0.out; omega, encRegion2 D E rfl hone⟩
  case rest =>
    obtain ⟨gv, rfl, rfl, hx⟩ := hcut
    obtain ⟨hgv, hheap, hbx⟩ := hx.out
    have HBX := Lib.hid ((HG.out ▸ HB0.out : Below w.heap.size w w1).trans (hbx.mono (HG.out ▸ HB0.out : Below w.heap.size w w1).size))
    have hy0 : wc.cell? ⟨g, 0, none⟩ = some (.int .i64 (k : Int)) := (hbx.cell (p := ⟨g, 0, none⟩) (block_lt x0)).trans x0
    have hy2 : wc.cell? ⟨g, 2, none⟩ = some (.int .i64 c) := (hbx.cell (p := ⟨g, 2, none⟩) (block_lt x2)).trans x2
    obtain ⟨V, hV⟩ : ∃ V, V = (M.mk k ep c ha fi nu ac re ta ⟨ok, op, oc, ol, os⟩).at := ⟨_, rfl⟩
    have HNU := Lib.hid (show Nums wc gv V by rw [hV]; exact nums_of (m := M.mk k ep c ha fi nu ac re ta ⟨ok, op, oc, ol, os⟩) hheap)
    have HV0 := Lib.hid (show V 0 = (k : Int) by rw [hV]; rfl)
    have HV := Lib.hid hV
    have HRX := Lib.hid (HR.out.keep HBX.out)
    have HSX := Lib.hid (HS.out.step HBX.out)
    clear hx hgv hheap hbx hV x0 x1 x2 x3 x4 x5 x6 x7 x8 x9 x10 x11 x12 x13 x14 hcs hcd hone hinfo hn1 hn2 hn3 hn4
    by_cases hk2 : k = 2
    · have HMK := Lib.hid (show c = makerOf (M.mk k ep c ha fi nu ac re ta ⟨ok, op, oc, ol, os⟩) by unfold makerOf; rw [if_pos (by simp [hk2])])
      have hd2 : ((k : Int) == 2) = true := by simp; omega
      clear hk2
      go_wp2_with fail
      go_loopw [7] (fun i wr => ∃ f : Nat, 1 ≤ f ∧ f ≤ 14 ∧ i = .int .i64 f ∧ wr = wc ∧ Hid (∀ j, 1 ≤ j → j < f → badAt (shapeN k) V c j = false)) (fun i _ => 14 - (intOf i).toNat)
      case atStart => exact ⟨1, by omega, by omega, rfl, rfl, fun j h1 h2 => by omega⟩
      case round =>
        obtain ⟨f, hf1, hf14, rfl, rfl, hgood⟩ := hrel
        by_cases hlt : f < 14
        · have hcell := HNU.out f hlt
          have hcl := block_lt hcell
          have p1 : (0 : Int) ≤ (f : Int) := by omega
          have p2 : (f : Int) < 14 := by omega
          by_cases hm : f ∈ shapeN k
          · have HM := Lib.hid hm
            have hdec : decide (f ∈ shapeN k) = true := by simp [hm]
            clear hm
            by_cases hmay : mayB f V c = true
            · have HMY := Lib.hid hmay
              go_wp2_with (first
                | (go_at_call 76; refine (named_any (some ⟨b, off, none⟩) n cap (shapeN k) f _ HL.out HRX.out (by omega)).mono ?_; rintro e w' ⟨rfl, rfl⟩; rw [hdec])
                | (go_at_call 77; refine (may_any f gv V c _ hlt hf1 HNU.out).mono ?_; rintro e w' ⟨rfl, rfl⟩; rw [hmay]))
              go_roundw
              case rel =>
                refine ⟨f + 1, by omega, by omega, by go_num, trivial, ?_⟩
                intro j h1 h2
                rcases Nat.lt_or_ge j f with h | h
                · exact hgood.out j h1 h
                · obtain rfl : j = f := by omega
                  unfold badAt
                  rw [if_pos HM.out, HMY.out]; rfl
              case measure => simp [intOf]; omega
            · have HMY := Lib.hid hmay
              have hmay2 : mayB f V c = false := by simpa using hmay
              clear hmay
              go_wp2_with (first
                | (go_at_call 76; refine (named_any (some ⟨b, off, none⟩) n cap (shapeN k) f _ HL.out HRX.out (by omega)).mono ?_; rintro e w' ⟨rfl, rfl⟩; rw [hdec])
                | (go_at_call 77; refine (may_any f gv V c _ hlt hf1 HNU.out).mono ?_; rintro e w' ⟨rfl, rfl⟩; rw [hmay2])
                | (go_at_call 74; refine (wrap_any _ _ _).mono ?_; rintro e w' ⟨rfl, rfl⟩))
              refine HQ.out _ _ (.inr ⟨f, _, hf1, hlt, ?_, ?_, rfl, (newFault_alloc _ _ _).after HBX.out⟩)
              · rw [← HV.out, ← HMK.out]; exact hgood.out
              · rw [← HV.out, ← HMK.out]
                unfold badAt
                rw [if_pos HM.out, hmay2]; rfl
          · have HM := Lib.hid hm
            have hdec : decide (f ∈ shapeN k) = false := by simp [hm]
            clear hm
            by_cases hz : V f = 0
            · have hd : (V f != 0) = false := by simp [hz]
              have HZ := Lib.hid hz
              clear hz
              go_wp2_with (go_at_call 76; refine (named_any (some ⟨b, off, none⟩) n cap (shapeN k) f _ HL.out HRX.out (by omega)).mono ?_; rintro e w' ⟨rfl, rfl⟩; rw [hdec])
              go_roundw
              case rel =>
                refine ⟨f + 1, by omega, by omega, by go_num, trivial, ?_⟩
                intro j h1 h2
                rcases Nat.lt_or_ge j f with h | h
                · exact hgood.out j h1 h
                · obtain rfl : j = f := by omega
                  exact (badAt_out HM.out).2 HZ.out
              case measure => simp [intOf]; omega
            · have hd : (V f != 0) = true := by simp [hz]
              have HZ := Lib.hid hz
              clear hz
              go_wp2_with (first
                | (go_at_call 76; refine (named_any (some ⟨b, off, none⟩) n cap (shapeN k) f _ HL.out HRX.out (by omega)).mono ?_; rintro e w' ⟨rfl, rfl⟩; rw [hdec])
                | (go_at_call 74; refine (wrap_any _ _ _).mono ?_; rintro e w' ⟨rfl, rfl⟩))
              refine HQ.out _ _ (.inr ⟨f, _, hf1, hlt, ?_, ?_, rfl, (newFault_alloc _ _ _).after HBX.out⟩)
              · rw [← HV.out, ← HMK.out]; exact hgood.out
              · rw [← HV.out, ← HMK.out]
                unfold badAt
                rw [if_neg HM.out, hd]
        · obtain rfl : f = 14 := by omega
          have hG : Good k (M.mk k ep c ha fi nu ac re ta ⟨ok, op, oc, ol, os⟩) := by
            unfold Good
            rw [← HV.out, ← HMK.out]
            exact hgood.out
          have hF := (good_fine k (M.mk k ep c ha fi nu ac re ta ⟨ok, op, oc, ol, os⟩) rfl h1 h6).1 hG
          have hR := fine_range hF k rfl
          rw [← HV.out] at hR
          have HG := Lib.hid hG; have HRG := Lib.hid hR
          clear hG hF hR
          go_wp2_with fail
          refine (lay_any gv V b off n cap (shapeN k) _ HL.out HRX.out hn0 hn14 HNU.out HSX.out (by rw [HV0.out]; omega) (by rw [HV0.out]; omega) HRG.out).mono ?_
          rintro e w2 ⟨g2, rfl, hg2, hrow, hb2⟩
          have HROW := Lib.hid hrow; have HB2 := Lib.hid (HBX.out.trans (hb2.mono HBX.out.size)); clear hrow hb2
          go_wp2_with fail
          refine (seal_any _ _ _ (layB V (shapeN k)) _ rfl HROW.out.rd (by have := lay_len V (shapeN k); have := HL.out; omega) (HT.out.step HB2.out)).mono ?_
          rintro e w3 ⟨g3, rfl, hg3, hrow3, hb3⟩
          have HROW3 := Lib.hid hrow3; have HB3 := Lib.hid (HB2.out.trans (hb3.mono HB2.out.size)); clear hrow3 hb3
          have HE := Lib.hid (show sealed (layB V (shapeN k)) = encB (M.mk k ep c ha fi nu ac re ta ⟨ok, op, oc, ol, os⟩) by rw [HV.out]; rfl)
          rw [HE.out]
          go_wp2
          refine HQ.out _ _ (.inl ⟨HG.out, g3, rfl, Nat.le_trans HB2.out.size hg3, ?_, HB3.out⟩)
          rw [← HE.out]; exact HROW3.out
    · have HMK := Lib.hid (show (0 : Int) = makerOf (M.mk k ep c ha fi nu ac re ta ⟨ok, op, oc, ol, os⟩) by unfold makerOf; rw [if_neg (by simp; omega)])
      have hd2 : ((k : Int) == 2) = false := by simp; omega
      clear hk2
      go_wp2_with fail
      go_loopw [7] (fun i wr => ∃ f : Nat, 1 ≤ f ∧ f ≤ 14 ∧ i = .int .i64 f ∧ wr = wc ∧ Hid (∀ j, 1 ≤ j → j < f → badAt (shapeN k) V 0 j = false)) (fun i _ => 14 - (intOf i).toNat)
      case atStart => exact ⟨1, by omega, by omega, rfl, rfl, fun j h1 h2 => by omega⟩
      case round =>
        obtain ⟨f, hf1, hf14, rfl, rfl, hgood⟩ := hrel
        by_cases hlt : f < 14
        · have hcell := HNU.out f hlt
          have hcl := block_lt hcell
          have p1 : (0 : Int) ≤ (f : Int) := by omega
          have p2 : (f : Int) < 14 := by omega
          by_cases hm : f ∈ shapeN k
          · have HM := Lib.hid hm
            have hdec : decide (f ∈ shapeN k) = true := by simp [hm]
            clear hm
            by_cases hmay : mayB f V 0 = true
            · have HMY := Lib.hid hmay
              go_wp2_with (first
                | (go_at_call 76; refine (named_any (some ⟨b, off, none⟩) n cap (shapeN k) f _ HL.out HRX.out (by omega)).mono ?_; rintro e w' ⟨rfl, rfl⟩; rw [hdec])
                | (go_at_call 77; refine (may_any f gv V 0 _ hlt hf1 HNU.out).mono ?_; rintro e w' ⟨rfl, rfl⟩; rw [hmay]))
              go_roundw
              case rel =>
                refine ⟨f + 1, by omega, by omega, by go_num, trivial, ?_⟩
                intro j h1 h2
                rcases Nat.lt_or_ge j f with h | h
                · exact hgood.out j h1 h
                · obtain rfl : j = f := by omega
                  unfold badAt
                  rw [if_pos HM.out, HMY.out]; rfl
              case measure => simp [intOf]; omega
            · have HMY := Lib.hid hmay
              have hmay2 : mayB f V 0 = false := by simpa using hmay
              clear hmay
              go_wp2_with (first
                | (go_at_call 76; refine (named_any (some ⟨b, off, none⟩) n cap (shapeN k) f _ HL.out HRX.out (by omega)).mono ?_; rintro e w' ⟨rfl, rfl⟩; rw [hdec])
                | (go_at_call 77; refine (may_any f gv V 0 _ hlt hf1 HNU.out).mono ?_; rintro e w' ⟨rfl, rfl⟩; rw [hmay2])
                | (go_at_call 74; refine (wrap_any _ _ _).mono ?_; rintro e w' ⟨rfl, rfl⟩))
              refine HQ.out _ _ (.inr ⟨f, _, hf1, hlt, ?_, ?_, rfl, (newFault_alloc _ _ _).after HBX.out⟩)
              · rw [← HV.out, ← HMK.out]; exact hgood.out
              · rw [← HV.out, ← HMK.out]
                unfold badAt
                rw [if_pos HM.out, hmay2]; rfl
          · have HM := Lib.hid hm
            have hdec : decide (f ∈ shapeN k) = false := by simp [hm]
            clear hm
            by_cases hz : V f = 0
            · have hd : (V f != 0) = false := by simp [hz]
              have HZ := Lib.hid hz
              clear hz
              go_wp2_with (go_at_call 76; refine (named_any (some ⟨b, off, none⟩) n cap (shapeN k) f _ HL.out HRX.out (by omega)).mono ?_; rintro e w' ⟨rfl, rfl⟩; rw [hdec])
              go_roundw
              case rel =>
                refine ⟨f + 1, by omega, by omega, by go_num, trivial, ?_⟩
                intro j h1 h2
                rcases Nat.lt_or_ge j f with h | h
                · exact hgood.out j h1 h
                · obtain rfl : j = f := by omega
                  exact (badAt_out HM.out).2 HZ.out
              case measure => simp [intOf]; omega
            · have hd : (V f != 0) = true := by simp [hz]
              have HZ := Lib.hid hz
              clear hz
              go_wp2_with (first
                | (go_at_call 76; refine (named_any (some ⟨b, off, none⟩) n cap (shapeN k) f _ HL.out HRX.out (by omega)).mono ?_; rintro e w' ⟨rfl, rfl⟩; rw [hdec])
                | (go_at_call 74; refine (wrap_any _ _ _).mono ?_; rintro e w' ⟨rfl, rfl⟩))
              refine HQ.out _ _ (.inr ⟨f, _, hf1, hlt, ?_, ?_, rfl, (newFault_alloc _ _ _).after HBX.out⟩)
              · rw [← HV.out, ← HMK.out]; exact hgood.out
              · rw [← HV.out, ← HMK.out]
                unfold badAt
                rw [if_neg HM.out, hd]
        · obtain rfl : f = 14 := by omega
          have hG : Good k (M.mk k ep c ha fi nu ac re ta ⟨ok, op, oc, ol, os⟩) := by
            unfold Good
            rw [← HV.out, ← HMK.out]
            exact hgood.out
          have hF := (good_fine k (M.mk k ep c ha fi nu ac re ta ⟨ok, op, oc, ol, os⟩) rfl h1 h6).1 hG
          have hR := fine_range hF k rfl
          rw [← HV.out] at hR
          have HG := Lib.hid hG; have HRG := Lib.hid hR
          clear hG hF hR
          go_wp2_with fail
          refine (lay_any gv V b off n cap (shapeN k) _ HL.out HRX.out hn0 hn14 HNU.out HSX.out (by rw [HV0.out]; omega) (by rw [HV0.out]; omega) HRG.out).mono ?_
          rintro e w2 ⟨g2, rfl, hg2, hrow, hb2⟩
          have HROW := Lib.hid hrow; have HB2 := Lib.hid (HBX.out.trans (hb2.mono HBX.out.size)); clear hrow hb2
          go_wp2_with fail
          refine (seal_any _ _ _ (layB V (shapeN k)) _ rfl HROW.out.rd (by have := lay_len V (shapeN k); have := HL.out; omega) (HT.out.step HB2.out)).mono ?_
          rintro e w3 ⟨g3, rfl, hg3, hrow3, hb3⟩
          have HROW3 := Lib.hid hrow3; have HB3 := Lib.hid (HB2.out.trans (hb3.mono HB2.out.size)); clear hrow3 hb3
          have HE := Lib.hid (show sealed (layB V (shapeN k)) = encB (M.mk k ep c ha fi nu ac re ta ⟨ok, op, oc, ol, os⟩) by rw [HV.out]; rfl)
          rw [HE.out]
          go_wp2
          refine HQ.out _ _ (.inl ⟨HG.out, g3, rfl, Nat.le_trans HB2.out.size hg3, ?_, HB3.out⟩)
          rw [← HE.out]; exact HROW3.out
end Go.Proofs.YtoophonmonojcaaDoor

/- Contracts of wire's long and pick. -/
namespace Go.Proofs.YtoophonmonojcaaDoor
open Go.RowKit

theorem size_le (f : Nat) (h : f < 14) : sizeL.getD f 0 = 1 ∨ sizeL.getD f 0 = 2 := by
  have hc : f = 0 ∨ f = 1 ∨ f = 2 ∨ f = 3 ∨ f = 4 ∨ f = 5 ∨ f = 6 ∨ f = 7 ∨ f = 8 ∨ f = 9 ∨ f = 10 ∨ f = 11 ∨ f = 12 ∨ f = 13 := by omega
  rcases hc with h | h | h | h | h | h | h | h | h | h | h | h | h | h <;> subst h <;> decide
theorem posI_succ (l : List Nat) (i : Nat) (h : i < l.length) : posI l (i + 1) = posI l i + sizeL.getD (l.getD i 0) 0 := by
  unfold posI
  rw [List.take_succ_eq_append_getElem h, List.map_append, List.sum_append]
  have e : l.getD i 0 = l[i] := by simp [List.getD_eq_getElem?_getD, h]
  rw [e]
  simp only [List.map_cons, List.map_nil, List.sum_cons, List.sum_nil]
  omega
theorem posI_all (l : List Nat) : posI l l.length = longOf l := by unfold posI longOf; rw [List.take_length]
theorem posI_bound (l : List Nat) (i : Nat) (h : ∀ f ∈ l, f < 14) : posI l i ≤ 1 + 2 * l.length := by
  have := posI_le l i
  have : ∀ l : List Nat, (∀ f ∈ l, f < 14) → longOf l ≤ 1 + 2 * l.length := by
    intro l
    induction l with
    | nil => intro _; decide
    | cons a t ih =>
      intro h
      have h1 := ih (fun f hf => h f (by simp [hf]))
      have h2 := size_le a (h a (by simp))
      unfold longOf at *
      simp only [List.map_cons, List.sum_cons, List.length_cons]
      omega
  have := this l h
  omega

set_option maxRecDepth 100000 in
theorem long_any (ao : Option Addr) (n cap : Nat) (l : List Nat) (w : World) (hl : l.length = n) (hr : RdN w ao l) (h0 : 0 < n) (hn : n ≤ 14) (hs : Sizes w) (hp : ∀ f ∈ l, f < 14) :
    Calls Tryd.prog 81 #[.slice ao n cap] w fun e w' => e = .returned (.int .i64 (longOf l : Nat)) ∧ w = w' := by
  obtain ⟨b, off, rfl, hbw, hc⟩ := hr.some (by omega)
  rw [hl] at hc
  have HL := Lib.hid hl; have HC := Lib.hid hc; have HS := Lib.hid hs; have HP := Lib.hid hp
  clear hl hr hc hs hp
  go_enter Tryd.func81, Tryd.ntmps81
  go_wp2
  go_loopw [3, 5, 8] (fun s _ i wr => ∃ (k x : Nat), k ≤ n ∧ i = .int .i64 k ∧ s = .int .i64 x ∧ Hid (x = posI l k) ∧ x ≤ 29 ∧ wr = w) (fun _ _ i _ => n - (intOf i).toNat)
  case atStart => exact ⟨0, 1, Nat.zero_le _, rfl, rfl, rfl, by omega, rfl⟩
  case round =>
    obtain ⟨k, x, hk, rfl, rfl, hx, hx29, rfl⟩ := hrel
    by_cases hlt : k < n
    · have hxc := HC.out k hlt
      obtain ⟨f, hf⟩ : ∃ f, f = l.getD k 0 := ⟨_, rfl⟩
      have hkl : k < l.length := by have := HL.out; omega
      have hfm : f ∈ l := by rw [hf, List.getD_eq_getElem?_getD, List.getElem?_eq_getElem hkl]; exact List.getElem_mem hkl
      have p2 := HP.out f hfm
      have hsz := HS.out f p2
      rw [← hf] at hxc
      have hnx : posI l (k + 1) = x + sizeL.getD f 0 := by rw [posI_succ l k hkl, ← hf, ← hx.out]
      have hb29 := posI_bound l (k + 1) HP.out
      have hll := HL.out
      rw [hll, hnx] at hb29
      have HNX := Lib.hid hnx
      obtain ⟨z, hz⟩ : ∃ z, z = sizeL.getD f 0 := ⟨_, rfl⟩
      rw [← hz] at hsz HNX hb29
      have hsw := block_lt hsz
      have q1 : (0 : Int) ≤ (f : Int) := by omega
      have q2 : (f : Int) < 14 := by omega
      clear hkl hf hfm hnx hz hll
      go_wp2
      exact ⟨⟨k + 1, x + z, by omega, by go_num, by go_num, HNX.out.symm, by omega, trivial⟩, by simp [intOf]; omega⟩
    · obtain rfl : k = n := by omega
      go_wp2
      go_ret
      refine ⟨ret_int ?_, rfl⟩
      show (x : Int) = _
      rw [hx.out, ← posI_all, HL.out]

/-- The fourteen numbers as cells. -/
def vals (v : Nat → Int) : Array Value := #[.int .i64 (v 0), .int .i64 (v 1), .int .i64 (v 2), .int .i64 (v 3), .int .i64 (v 4), .int .i64 (v 5), .int .i64 (v 6), .int .i64 (v 7), .int .i64 (v 8), .int .i64 (v 9), .int .i64 (v 10), .int .i64 (v 11), .int .i64 (v 12), .int .i64 (v 13)]
def ValsAt (w : World) (g : Nat) (v : Nat → Int) : Prop := w.heap[g]? = some (.cells (vals v) 114 (0, 0))
theorem ValsAt.nums {w : World} {g : Nat} {v : Nat → Int} (h : ValsAt w g v) : Nums w g v := by
  intro i hi
  have hc : i = 0 ∨ i = 1 ∨ i = 2 ∨ i = 3 ∨ i = 4 ∨ i = 5 ∨ i = 6 ∨ i = 7 ∨ i = 8 ∨ i = 9 ∨ i = 10 ∨ i = 11 ∨ i = 12 ∨ i = 13 := by omega
  unfold ValsAt at h
  rcases hc with rfl | rfl | rfl | rfl | rfl | rfl | rfl | rfl | rfl | rfl | rfl | rfl | rfl | rfl <;> simp [World.cell?, h, vals]
theorem ValsAt.frozen {w : World} {g : Nat} {v : Nat → Int} (h : ValsAt w g v) (i : Nat) : w.frozen? ⟨g, i, none⟩ = false := by
  unfold ValsAt at h
  simp [World.frozen?, h]
theorem vals_set (v v' : Nat → Int) (f : Nat) (hf : f < 14) (x : Int) (h : ∀ g, g < 14 → v' g = if g = f then x else v g) : (vals v).setIfInBounds f (.int .i64 x) = vals v' := by
  unfold vals
  rw [h 0 (by omega), h 1 (by omega), h 2 (by omega), h 3 (by omega), h 4 (by omega), h 5 (by omega), h 6 (by omega), h 7 (by omega), h 8 (by omega), h 9 (by omega), h 10 (by omega), h 11 (by omega), h 12 (by omega), h 13 (by omega)]
  have hc : f = 0 ∨ f = 1 ∨ f = 2 ∨ f = 3 ∨ f = 4 ∨ f = 5 ∨ f = 6 ∨ f = 7 ∨ f = 8 ∨ f = 9 ∨ f = 10 ∨ f = 11 ∨ f = 12 ∨ f = 13 := by omega
  rcases hc with rfl | rfl | rfl | rfl | rfl | rfl | rfl | rfl | rfl | rfl | rfl | rfl | rfl | rfl <;> simp
theorem heap_setCell_same {w : World} {g : Nat} {cs : Array Value} {t : TypeId} {fr : Nat × Nat} (h : w.heap[g]? = some (.cells cs t fr)) (i : Nat) (x : Value) : (w.setCell ⟨g, i, none⟩ x).heap[g]? = some (.cells (cs.setIfInBounds i x) t fr) := by
  rw [setCell_eq_setRow w g i cs t fr x h]
  exact setRow_heap w g cs _ t fr h
theorem ValsAt.set {w : World} {g : Nat} {v v' : Nat → Int} (h : ValsAt w g v) (f : Nat) (hf : f < 14) (x : Int) (hv : ∀ g, g < 14 → v' g = if g = f then x else v g) : ValsAt (w.setCell ⟨g, f, none⟩ (.int .i64 x)) g v' := by
  unfold ValsAt at *
  rw [heap_setCell_same h, vals_set v v' f hf x hv]

/-- The fields read so far. -/
def cut (b : List UInt8) (l : List Nat) (i : Nat) (g : Nat) : Int := if g = 0 ∨ g ∈ l.take i then readB b l g else 0
theorem cut_succ (b : List UInt8) (l : List Nat) (i : Nat) (h : i < l.length) (g : Nat) : cut b l (i + 1) g = if g = l.getD i 0 then readB b l (l.getD i 0) else cut b l i g := by
  have e : l.getD i 0 = l[i] := by simp [List.getD_eq_getElem?_getD, h]
  have hm : g ∈ l.take (i + 1) ↔ g ∈ l.take i ∨ g = l[i] := by rw [List.take_succ_eq_append_getElem h, List.mem_append, List.mem_singleton]
  unfold cut
  rw [e]
  by_cases hg : g = l[i]
  · rw [if_pos hg, if_pos (.inr (hm.2 (.inr hg))), hg]
  · rw [if_neg hg]
    by_cases h2 : g = 0 ∨ g ∈ l.take i
    · rw [if_pos h2, if_pos (h2.imp id fun h => hm.2 (.inl h))]
    · rw [if_neg h2, if_neg]
      rintro (h | h)
      · exact h2 (.inl h)
      · exact (hm.1 h).elim (fun h => h2 (.inr h)) hg
theorem cut_all (b : List UInt8) (l : List Nat) (g : Nat) : cut b l l.length g = readB b l g := by
  unfold cut
  rw [List.take_length]
  split
  · rfl
  · rename_i h
    unfold readB
    rw [if_neg (fun e => h (.inl e)), if_neg (fun e => h (.inr e))]
/-- In the order that reading wants. -/
def Ord (l : List Nat) (own : Bool) : Prop := l.Nodup ∧ (∀ i, i < l.length → ((l.getD i 0 = 10 ∨ l.getD i 0 = 11) → 9 ∈ l.take i) ∧ (own = true → l.getD i 0 = 12 → 2 ∈ l.take i)) ∧ ∀ f ∈ l, 1 ≤ f ∧ f < 14
theorem readB_at (b : List UInt8) (l : List Nat) (own : Bool) (h : Ord l own) (i : Nat) (hi : i < l.length) : readB b l (l.getD i 0) = ((num ((b.drop (posI l i)).take (sizeL.getD (l.getD i 0) 0)) : Nat) : Int) := by
  have e : l.getD i 0 = l[i] := by simp [List.getD_eq_getElem?_getD, hi]
  have hm : l[i] ∈ l := List.getElem_mem hi
  have h1 := h.2.2 _ hm
  unfold readB
  rw [e, if_neg (by omega), if_pos hm, h.1.idxOf_getElem i hi]
theorem may_at (b : List UInt8) (l : List Nat) (own : Bool) (h : Ord l own) (i : Nat) (hi : i < l.length) :
    mayB (l.getD i 0) (cut b l (i + 1)) (makerB own (cut b l (i + 1))) = mayB (l.getD i 0) (readB b l) (makerB own (readB b l)) := by
  have e : l.getD i 0 = l[i] := by simp [List.getD_eq_getElem?_getD, hi]
  have hin : ∀ g, g ∈ l.take i → cut b l (i + 1) g = readB b l g := by
    intro g hg
    unfold cut
    rw [if_pos]
    exact .inr (by rw [List.take_succ_eq_append_getElem hi, List.mem_append]; exact .inl hg)
  have hself : cut b l (i + 1) (l.getD i 0) = readB b l (l.getD i 0) := by rw [cut_succ b l i hi, if_pos rfl]
  obtain ⟨h9, h2⟩ := h.2.1 i hi
  obtain ⟨f, hf⟩ : ∃ f, f = l.getD i 0 := ⟨_, rfl⟩
  rw [← hf] at hself h9 h2 ⊢
  have hb : boundsOf f (cut b l (i + 1)) (makerB own (cut b l (i + 1))) = boundsOf f (readB b l) (makerB own (readB b l)) := by
    by_cases h10 : f = 10 ∨ f = 11
    · have := hin 9 (h9 h10)
      rcases h10 with rfl | rfl
      · simp only [bnd10, this]
      · simp only [bnd11, this]
    · by_cases h12 : f = 12
      · subst h12
        have : makerB own (cut b l (i + 1)) = makerB own (readB b l) := by
          unfold makerB
          cases own with
          | false => rfl
          | true => simp only [if_true]; exact hin 2 (h2 rfl rfl)
        rw [this, bnd12, bnd12]
      · unfold boundsOf
        rw [if_neg (show ¬f = 12 from h12), if_neg (show ¬f = 12 from h12), if_neg (show ¬f = 10 from fun e => h10 (.inl e)), if_neg (show ¬f = 10 from fun e => h10 (.inl e)), if_neg (show ¬f = 11 from fun e => h10 (.inr e)), if_neg (show ¬f = 11 from fun e => h10 (.inr e))]
  unfold mayB
  rw [hb, hself]

/-- What pick answers. -/
def PickPost (w : World) (b : List UInt8) (l : List Nat) (own : Bool) (e : Ending) (w' : World) : Prop := match badI b l own with
  | none => e = .returned (.tuple #[.agg (vals (readB b l)), .nilIface]) ∧ Below w.heap.size w w'
  | some j => ∃ g, e = .returned (.tuple #[.agg (vals fun _ => 0), faultV g]) ∧ NewFault w (posI l j : Nat) 63 g w'

theorem results_cell_tmp_row {fn : Func} {p u : Tmp} {ty : TypeId} (h : fn.results = #[.cell p ty, .tmp u]) (tmps : Array Value) (w : World) (g : Nat) (t : TypeId) (cs : Array Value) (fr : Nat × Nat) (d : TypeDesc)
    (hp : tmps.getD p undef = .pointer (some ⟨g, 0, none⟩)) (hg : w.heap[g]? = some (.cells cs t fr)) (hu : Tryd.prog.underlying ty = some d) (hd : (match d with | .struct _ | .array _ _ => true | _ => false) = true) (hi : (Tryd.prog.info? ty).map (·.size) = some cs.size)
    (x : Value) (hx : tmps.getD u undef = x) : (results fn tmps).run Tryd.prog w = .ok (.tuple #[.agg cs, x]) w := by
  rw [results_cell_tmp h, hp, hx]
  have hl : (loadVar ty ⟨g, 0, none⟩).run Tryd.prog w = .ok (.agg cs) w := run_loadVar_row w g t ty cs fr d hg hu (by cases d <;> simp_all) hi
  simp only [asAddr, Sem.run_pure, Result.andThen_ok, hl]
end Go.Proofs.YtoophonmonojcaaDoor

/- A message kept in a variable; Encode's contract at it. -/
namespace Go.Proofs.YtoophonmonojcaaDoor
open Go.RowKit

/-- A message's cells. -/
def M.cs (m : M) : Array Value := #[.int .i64 m.k, .int .i64 m.e, .int .i64 m.c, .int .i64 m.ha, .int .i64 m.fi, .int .i64 m.nu, .int .i64 m.ac, .int .i64 m.re, .int .i64 m.ta, .int .i64 m.op.k, .int .i64 m.op.p, .int .u8 m.op.ch, .int .i64 m.op.cl, .int .i64 m.op.s]
theorem M.v_cs (m : M) : m.v = .agg m.cs := rfl
/-- The variable in block g holds the message. -/
def MsgAt (w : World) (g : Nat) (m : M) : Prop := w.heap[g]? = some (.cells m.cs 25 (0, 0))
theorem MsgAt.lt {w : World} {g : Nat} {m : M} (h : MsgAt w g m) : g < w.heap.size := heap_lt h
theorem MsgAt.keep {w w' : World} {g : Nat} {m : M} (h : MsgAt w g m) (hb : Below w.heap.size w w') : MsgAt w' g m := (hb.block g h.lt).trans h
theorem MsgAt.below {B : Nat} {w w' : World} {g : Nat} {m : M} (h : MsgAt w g m) (hb : Below B w w') (hg : g < B) : MsgAt w' g m := (hb.block g hg).trans h
theorem MsgAt.store {w : World} {g : Nat} {m : M} (h : MsgAt w g m) (m' : M) : MsgAt (w.setRow g m'.cs) g m' := setRow_heap w g _ _ _ _ h
theorem MsgAt.frozen {w : World} {g : Nat} {m : M} (h : MsgAt w g m) (i : Nat) : w.frozen? ⟨g, i, none⟩ = false := by
  unfold MsgAt at h
  simp [World.frozen?, h]
theorem MsgAt.num {w : World} {g : Nat} {m : M} (h : MsgAt w g m) (i : Nat) (hi : i < 9) : w.cell? ⟨g, i, none⟩ = some (.int .i64 (m.at i)) := by
  unfold MsgAt at h
  have hc : i = 0 ∨ i = 1 ∨ i = 2 ∨ i = 3 ∨ i = 4 ∨ i = 5 ∨ i = 6 ∨ i = 7 ∨ i = 8 := by omega
  rcases hc with rfl | rfl | rfl | rfl | rfl | rfl | rfl | rfl | rfl <;> simp [World.cell?, h, M.cs, M.at]
theorem MsgAt.set {w : World} {g : Nat} {m : M} (h : MsgAt w g m) (f : Nat) (h3 : 3 ≤ f) (h8 : f ≤ 8) (x : Int) : MsgAt (w.setCell ⟨g, f, none⟩ (.int .i64 x)) g (m.set f x) := by
  unfold MsgAt at *
  rw [heap_setCell_same h]
  have hc : f = 3 ∨ f = 4 ∨ f = 5 ∨ f = 6 ∨ f = 7 ∨ f = 8 := by omega
  rcases hc with rfl | rfl | rfl | rfl | rfl | rfl <;> rfl
theorem M.one (m : M) : m.cs.all (·.oneCell') = true := by simp [M.cs, Value.oneCell']
theorem infoMsg : (Tryd.prog.info? 25).map (·.size) = some 14 := by kernel_rfl
/-- Nothing but block g has turned. -/
def Turned (w w' : World) (g : Nat) : Prop := ∀ B w0, B ≤ g → Below B w0 w → Below B w0 w'
theorem wpList_storeMsg {w : World} {ops : Array Oper} {rest : List Oper} {o : Oper} {a : Act} {Q : Exit → Act → World → Prop} (hgd : o.guard = none) (x y : Operand) (ho : o.op = .store 25 x y) (hd : o.dst = none) (g : Nat) (m m' : M)
    (hx : a.eval x = .pointer (some ⟨g, 0, none⟩)) (hy : a.eval y = .agg m'.cs) (hg : MsgAt w g m) (h : ∀ w', MsgAt w' g m' → Turned w w' g → w.heap.size = w'.heap.size → wpList Tryd.prog ops Q rest a w') : wpList Tryd.prog ops Q (o :: rest) a w :=
  wpList_store_rowTo hgd 25 x y ho hd g m'.cs hx hy 25 m.cs hg infoMsg rfl m'.one (h _ (MsgAt.store hg m') (fun B w0 hB hb => below_setRow hb hB _) (by simp))
theorem wpList_loadMsg {w : World} {ops : Array Oper} {rest : List Oper} {o : Oper} {a : Act} {Q : Exit → Act → World → Prop} (hgd : o.guard = none) (x : Operand) (ho : o.op = .load 25 x) (g : Nat) (m : M)
    (hx : a.eval x = .pointer (some ⟨g, 0, none⟩)) (hg : MsgAt w g m) (h : wpList Tryd.prog ops Q rest (a.put o.dst (.agg m.cs)) w) : wpList Tryd.prog ops Q (o :: rest) a w :=
  wpList_load_row hgd 25 x ho g hx 25 m.cs (0, 0) _ hg Tryd.underlying25 rfl infoMsg h
theorem O.fine_ch {o : O} (h : o.fine) : 0 ≤ o.ch ∧ o.ch ≤ 255 := by
  obtain ⟨_, _, _, _, _, h6, h7, _⟩ := h
  by_cases h1 : o.k = 1
  · have := h6 h1; omega
  · have := h7 h1; omega
theorem M.fine_ch {m : M} (h : m.fine) : 0 ≤ m.op.ch ∧ m.op.ch ≤ 255 := by
  obtain ⟨_, _, _, _, _, _, _, _, h9, h10, _⟩ := h
  by_cases h1 : m.k = 2 ∨ m.k = 5
  · exact O.fine_ch (h9 h1).2.2
  · have := (h10 (fun e => h1 (.inl e)) (fun e => h1 (.inr e))).2
    rw [this]
    simp [zeroO]

theorem encode_any (k : Nat) (m : M) (w : World) (hm : m.k = k) (h1 : 1 ≤ k) (h6 : k ≤ 6) (ho : 0 ≤ m.op.ch ∧ m.op.ch ≤ 255) (ht : Tab w) (hs : Sizes w) (hsh : Shapes w) : Calls Tryd.prog 23 #[.agg m.cs] w (EncPost w k m) := by
  obtain ⟨mk, ep, c, ha, fi, nu, ac, re, ta, ⟨ok, op, oc, ol, os⟩⟩ := m
  dsimp only at hm ho
  subst hm
  exact encode_core k ep c ha fi nu ac re ta ok op oc ol os w _ (fun e w' h => h) h1 h6 ho ht hs hsh
/-- A message that may stand is encoded. -/
theorem encode_fine (m : M) (w : World) (h : m.fine) (ht : Tab w) (hs : Sizes w) (hsh : Shapes w) : Calls Tryd.prog 23 #[.agg m.cs] w fun e w' =>
    ∃ g, e = .returned (.tuple #[.slice (some ⟨g, 0, none⟩) (encB m).length (encB m).length, .nilIface]) ∧ w.heap.size ≤ g ∧ Row w' g (encB m) ∧ Below w.heap.size w w' := by
  obtain ⟨k, hk⟩ : ∃ k : Nat, m.k = k := ⟨m.k.toNat, by have := h.1; omega⟩
  have h1 := h.1
  have h6 := h.2.1
  have hG := (good_fine k m hk (by omega) (by omega)).2 h
  refine (encode_any k m w hk (by omega) (by omega) (M.fine_ch h) ht hs hsh).mono ?_
  rintro e w' (⟨_, hx⟩ | ⟨f, g, f1, f2, _, hb, _⟩)
  · exact hx
  · rw [hG f f1 f2] at hb; cases hb
/-- A message whose first field that may not stand is f. -/
theorem encode_bad (k : Nat) (m : M) (f : Nat) (w : World) (hm : m.k = k) (h1 : 1 ≤ k) (h6 : k ≤ 6) (ho : 0 ≤ m.op.ch ∧ m.op.ch ≤ 255) (f1 : 1 ≤ f) (f2 : f < 14) (hg : ∀ i, 1 ≤ i → i < f → badAt (shapeN k) m.at (makerOf m) i = false) (hb : badAt (shapeN k) m.at (makerOf m) f = true)
    (ht : Tab w) (hs : Sizes w) (hsh : Shapes w) : Calls Tryd.prog 23 #[.agg m.cs] w fun e w' => ∃ g, e = .returned (.tuple #[.slice none 0 0, faultV g]) ∧ NewFault w f 63 g w' := by
  refine (encode_any k m w hm h1 h6 ho ht hs hsh).mono ?_
  rintro e w' (⟨hG, _⟩ | ⟨f', g, f1', f2', hg', hb', he, hN⟩)
  · rw [hG f f1 f2] at hb; cases hb
  · rcases Nat.lt_trichotomy f f' with h | h | h
    · rw [hg' f f1 h] at hb; cases hb
    · subst h; exact ⟨g, he, hN⟩
    · rw [hg f' f1' h] at hb'; cases hb'
theorem encB_len {m : M} (h : m.fine) : 7 ≤ (encB m).length ∧ (encB m).length ≤ 19 := by
  have h1 := h.1
  have h6 := h.2.1
  obtain ⟨k, hk⟩ : ∃ k : Nat, m.k.toNat = k := ⟨_, rfl⟩
  have : (encB m).length = longOf (shapeN k) + 4 := by
    unfold encB
    rw [hk]
    simp [sealed, le4, lay_length m.at k (by omega) (by omega)]
  rw [this]
  have hc : k = 1 ∨ k = 2 ∨ k = 3 ∨ k = 4 ∨ k = 5 ∨ k = 6 := by omega
  rcases hc with rfl | rfl | rfl | rfl | rfl | rfl <;> decide
end Go.Proofs.YtoophonmonojcaaDoor

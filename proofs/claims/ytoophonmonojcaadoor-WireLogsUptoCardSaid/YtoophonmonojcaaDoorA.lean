/- Words and small laws for the walks of this seat: reading of byte slices, worlds that have changed above a block only, copies of bytes. No condition. -/
import Derived.Test.YtoophonmonojcaaDoorProg
import Derived.Test.YtoophonmonojcaaDoorCrc
import Derived.WalkKit
import Derived.WalkSpells
import Derived.WalkLawsBesides
import Derived.Outline
import Derived.Lib.Hide
import Derived.Laws.CopyOwn
import Derived.Deep.QuietTactic
import Derived.BigQuiet
import Derived.StillTailTactics
import Derived.Deep.DeepFit
import Derived.Deep.DeepMust
import Derived.Deep.DeepCutAuto
namespace Go.Proofs.YtoophonmonojcaaDoor
open Go.RowKit

theorem Tryd.infoU8 : (Tryd.prog.info? 5).map (fun i => (i.zero, i.size, i.bytes)) = some (some (.int .u8 0), 1, 1) := by kernel_rfl
theorem Tryd.infoBytes : (Tryd.prog.info? 27).map (fun i => (i.zero, i.size, i.bytes)) = some (some (.slice none 0 0), 1, 24) := by kernel_rfl
theorem Tryd.infoInt : (Tryd.prog.info? 3).map (fun i => (i.zero, i.size, i.bytes)) = some (some (.int .i64 0), 1, 8) := by kernel_rfl
theorem Tryd.sizeU8 : (Tryd.prog.info? 5).map (·.size) = some 1 := by kernel_rfl

/-- A byte as a value. -/
def bv (c : UInt8) : Value := .int .u8 (c.toNat : Int)

/-- The cells of a byte slice whose address is 'ao' read as 'l'. -/
def Rd (w : World) (ao : Option Addr) (l : List UInt8) : Prop :=
  ∀ i, i < l.length → ∃ b off, ao = some ⟨b, off, none⟩ ∧ w.cell? ⟨b, off + i, none⟩ = some (.int .u8 ((l.getD i 0).toNat : Int))

theorem block_lt {w : World} {a : Addr} {v : Value} (h : w.cell? a = some v) : a.block < w.heap.size := World.block_lt_of_cell? w a h

theorem Rd.nil (w : World) (ao : Option Addr) : Rd w ao [] := fun i hi => absurd hi (by simp)

theorem Rd.some {w : World} {ao : Option Addr} {l : List UInt8} (h : Rd w ao l) (hl : 0 < l.length) :
    ∃ b off, ao = Option.some ⟨b, off, none⟩ ∧ b < w.heap.size ∧ ∀ i, i < l.length → w.cell? ⟨b, off + i, none⟩ = Option.some (.int .u8 ((l.getD i 0).toNat : Int)) := by
  obtain ⟨b, off, e, hc⟩ := h 0 hl
  refine ⟨b, off, e, block_lt hc, fun i hi => ?_⟩
  obtain ⟨b', off', e', hc'⟩ := h i hi
  rw [e] at e'; cases e'; exact hc'

theorem Rd.mk {w : World} {b off : Nat} {l : List UInt8} (h : ∀ i, i < l.length → w.cell? ⟨b, off + i, none⟩ = Option.some (.int .u8 ((l.getD i 0).toNat : Int))) : Rd w (Option.some ⟨b, off, none⟩) l :=
  fun i hi => ⟨b, off, rfl, h i hi⟩

/-- What was read below B reads the same. -/
theorem Rd.below {B : Nat} {w w' : World} {ao : Option Addr} {l : List UInt8} (h : Rd w ao l) (hb : Below B w w') (hB : ∀ b off, ao = Option.some ⟨b, off, none⟩ → b < B) : Rd w' ao l := by
  intro i hi
  obtain ⟨b, off, e, hc⟩ := h i hi
  exact ⟨b, off, e, (hb.cell (p := ⟨b, off + i, none⟩) (hB b off e)).trans hc⟩
theorem Rd.step {w w' : World} {ao : Option Addr} {l : List UInt8} (h : Rd w ao l) (hb : Below w.heap.size w w') : Rd w' ao l := by
  intro i hi
  obtain ⟨b, off, e, hc⟩ := h i hi
  exact ⟨b, off, e, (hb.cell (p := ⟨b, off + i, none⟩) (block_lt hc)).trans hc⟩

/-- A reading opened for a walk: an address written out, or no byte. -/
theorem Rd.open {w : World} {ao : Option Addr} {l : List UInt8} {n : Nat} (h : Rd w ao l) (hl : l.length = n) :
    ∃ b off, (ao = Option.some ⟨b, off, none⟩ ∨ n ≤ 0) ∧ ∀ i, i < n → w.cell? ⟨b, off + i, none⟩ = Option.some (.int .u8 ((l.getD i 0).toNat : Int)) := by
  rcases Nat.eq_zero_or_pos n with h' | h'
  · exact ⟨0, 0, .inr (by omega), fun i hi => by omega⟩
  · obtain ⟨b, off, e, _, hc⟩ := h.some (by omega)
    exact ⟨b, off, .inl e, fun i hi => hc i (by omega)⟩

/-- A slice of a slice of bytes: its address. -/
def sub (ao : Option Addr) (k cap : Nat) : Option Addr := if cap = k then ao else ao.map (·.add k)
theorem Rd.sub {w : World} {ao : Option Addr} {l : List UInt8} (h : Rd w ao l) (k n cap : Nat) (hn : k + n ≤ l.length) (hc : l.length ≤ cap) : Rd w (sub ao k cap) ((l.drop k).take n) := by
  intro i hi
  have hi' : i < n := by simp at hi; omega
  obtain ⟨b, off, e, hcell⟩ := h (k + i) (by omega)
  have hne : ¬ cap = k := by omega
  refine ⟨b, off + k, ?_, ?_⟩
  · rw [Proofs.YtoophonmonojcaaDoor.sub, if_neg hne, e]
    rcases Nat.eq_zero_or_pos k with rfl | hk
    · simp [Addr.add]
    · simp [Addr.add, Nat.ne_of_gt hk]
  · rw [show off + k + i = off + (k + i) by omega, hcell]
    simp [List.getD_eq_getElem?_getD, hi', List.getElem?_drop]

/-- A block that holds just these bytes. -/
def Row (w : World) (g : Nat) (l : List UInt8) : Prop := w.heap[g]? = some (.cells (l.map bv).toArray 5 (0, 0))
theorem Row.lt {w : World} {g : Nat} {l : List UInt8} (h : Row w g l) : g < w.heap.size := by
  rcases Nat.lt_or_ge g w.heap.size with h1 | h1
  · exact h1
  · rw [Row, Array.getElem?_eq_none h1] at h; cases h
theorem Row.cell {w : World} {g : Nat} {l : List UInt8} (h : Row w g l) (i : Nat) (hi : i < l.length) : w.cell? ⟨g, i, none⟩ = some (.int .u8 ((l.getD i 0).toNat : Int)) := by
  simp only [Row] at h
  simp [World.cell?, h, bv, List.getD_eq_getElem?_getD, List.getElem?_eq_getElem hi]
theorem Row.rd {w : World} {g : Nat} {l : List UInt8} (h : Row w g l) : Rd w (some ⟨g, 0, none⟩) l :=
  Rd.mk fun i hi => by rw [Nat.zero_add]; exact h.cell i hi
theorem Row.below {B : Nat} {w w' : World} {g : Nat} {l : List UInt8} (h : Row w g l) (hb : Below B w w') (hB : g < B) : Row w' g l := by
  rw [Row, hb.block g hB]; exact h
theorem Row.frozen {w : World} {g : Nat} {l : List UInt8} (h : Row w g l) (o : Nat) (s : Option Nat) : w.frozen? ⟨g, o, s⟩ = false := by
  simp only [Row] at h
  simp [World.frozen?, h]

/-- Old cells and marks read as before: the walk uses the two as rules. -/
theorem bcell {W w1 : World} (hb : Below W.heap.size W w1) : (∀ b o, b < W.heap.size → w1.cell? ⟨b, o, none⟩ = W.cell? ⟨b, o, none⟩) ∧ (∀ b o, b < W.heap.size → w1.frozen? ⟨b, o, none⟩ = W.frozen? ⟨b, o, none⟩) :=
  ⟨fun b o h => hb.cell (p := ⟨b, o, none⟩) h, fun b o h => hb.frozen (p := ⟨b, o, none⟩) h⟩

theorem oneCell_bv (l : List UInt8) : ∀ v ∈ l.map bv, v.oneCell' = true := by
  intro v hv
  obtain ⟨c, _, rfl⟩ := List.mem_map.1 hv
  rfl

open Go in
/-- copy of bytes into a row that is known whole. -/
theorem wpList_copyB {P : Program} {w : World} {ops : Array Oper} {rest : List Oper} {o : Oper} {a : Act} {Q : Exit → Act → World → Prop} (hgd : o.guard = none) (d s : Operand) (dT sT : TypeId)
    (ho : o.op = .call { callee := .builtin .copy, args := #[d, s], argTypes := #[dT, sT] }) (elem : TypeId) (hu : P.underlying dT = some (.slice elem)) (hsz : (P.info? elem).map (·.size) = some 1)
    (dp sp : Option Addr) (dLen dCap sLen sCap : Nat) (hd : a.eval d = .slice dp dLen dCap) (hs : a.eval s = .slice sp sLen sCap)
    (g off : Nat) (cur : List Value) (t : TypeId) (hg : w.heap[g]? = some (.cells cur.toArray t (0, 0))) (l : List UInt8) (hl : l.length = sLen) (hr : Rd w sp l) (hle : sLen ≤ dLen)
    (hpos : 0 < sLen → dp = some ⟨g, off, none⟩) (hfit : off + sLen ≤ cur.length) (B : Nat) (w0 : World) (hb : Below B w0 w) (hBg : B ≤ g)
    (h : ∀ w', Hid (w'.heap[g]? = some (.cells (splice cur off (l.map bv)).toArray t (0, 0))) → Below B w0 w' → wpList P ops Q rest (a.put o.dst (.int .i64 (sLen : Int))) w') :
    wpList P ops Q (o :: rest) a w := by
  refine wpList_copy_splice hgd d s dT sT ho elem hu hsz dp sp dLen dCap sLen sCap hd hs g off cur t hg (l.map bv) ?_ ?_ ?_ (oneCell_bv l) B w0 hb hBg ?_
  · rw [List.length_map, hl]; exact (Nat.min_eq_left hle).symm
  · intro hp
    rw [List.length_map, hl] at hp
    obtain ⟨b, off', e, _, hc⟩ := hr.some (by omega)
    refine ⟨hpos hp, _, e, fun j v hj => ?_⟩
    obtain ⟨hj1, hj2⟩ := List.getElem?_eq_some_iff.1 hj
    rw [List.length_map] at hj1
    have := hc j hj1
    simp only [List.getElem_map] at hj2
    subst hj2
    rw [show (Addr.mk b off' none).add j = ⟨b, off' + j, none⟩ by unfold Addr.add; split <;> simp_all, this]
    simp [bv, List.getD_eq_getElem?_getD, List.getElem?_eq_getElem hj1]
  · rw [List.length_map, hl]; exact hfit
  · intro w' h1 h2
    have e : (goInt (l.map bv).length) = .int .i64 (sLen : Int) := by rw [List.length_map, hl]; rfl
    rw [e]
    exact h w' h1 h2

/-- Behind make([]byte, n): the new row, whole. -/
theorem made_row {w w1 : World} {n : Nat} {z : List Value} (h : w1.ownsRow w.heap.size 5 1 (.slice (some ⟨w.heap.size, 0, none⟩) n n) n z) (hg : w.grownBy w1 none) :
    ∃ cur : List Value, Hid (w1.heap[w.heap.size]? = some (.cells cur.toArray 5 (0, 0)) ∧ cur.length = n) ∧ Below w.heap.size w w1 := by
  obtain ⟨_, h⟩ := h
  rcases h with ⟨h, _⟩ | ⟨g, cap, cur, hv, _, hh, _, _, hs, _⟩
  · cases h
  · cases hv
    exact ⟨cur.toList, ⟨by simpa using hh, by simpa using hs⟩, (Below.refl _ w).grown hg (Nat.le_refl _) (fun k hk => by cases hk)⟩

theorem ret_slice {p : Option Addr} {a b c d : Nat} (h : a = b) (h' : c = d) : Ending.returned (.slice p a c) = Ending.returned (.slice p b d) := by rw [h, h']
theorem ret_int {k : IntKind} {a b : Int} (h : a = b) : Ending.returned (.int k a) = Ending.returned (.int k b) := by rw [h]
theorem ret_bool {a b : Bool} (h : a = b) : Ending.returned (.bool a) = Ending.returned (.bool b) := by rw [h]
/-- The byte of a number. -/
def u8 (x : Int) : UInt8 := UInt8.ofNat (x % 256).toNat
theorem u8_toNat (x : Int) : ((u8 x).toNat : Int) = x % 256 := by
  have h : (x % 256).toNat < 256 := by omega
  simp only [u8, UInt8.toNat_ofNat', Nat.reducePow]
  omega
theorem bv_u8 (x : Int) : bv (u8 x) = .int .u8 (x % 256) := by rw [bv, u8_toNat]
theorem u8_of (c : UInt8) : u8 (c.toNat : Int) = c := by
  apply UInt8.toNat_inj.1
  have := u8_toNat (c.toNat : Int)
  have h := c.toNat_lt
  omega

theorem row_new (w : World) (arr : Array Value) (l : List UInt8) (h : arr = (l.map bv).toArray) : Row (w.alloc (.cells arr 5)) w.heap.size l := by
  rw [Row, h]; exact heap_alloc_new w _

/-- The object that an error with a place is. -/
def faultObj (at_ code : Int) : Obj := .cells #[.int .i64 at_, .iface 49 (.int .i64 code)] 110 (0, 0)
/-- The error value over it. -/
abbrev faultV (g : Nat) : Value := .iface 106 (.pointer (some ⟨g, 0, none⟩))
/-- A new error with a place; nothing that was there has turned. -/
def NewFault (w : World) (at_ code : Int) (g : Nat) (w' : World) : Prop := w.heap.size ≤ g ∧ w'.heap[g]? = some (faultObj at_ code) ∧ Below w.heap.size w w'
theorem NewFault.after {w w1 : World} {a c : Int} {g : Nat} {w' : World} (hb : Below w.heap.size w w1) (h : NewFault w1 a c g w') : NewFault w a c g w' :=
  ⟨Nat.le_trans hb.size h.1, h.2.1, hb.trans (h.2.2.mono hb.size)⟩
theorem newFault_alloc (w : World) (a c : Int) : NewFault w a c w.heap.size (w.alloc (faultObj a c)) :=
  ⟨Nat.le_refl _, heap_alloc_new w _, (Below.refl _ w).alloc (Nat.le_refl _) _⟩

/-- The call hands back a new row that holds just 'l'; nothing that was there has turned. -/
def NewRow (w : World) (l : List UInt8) (e : Ending) (w' : World) : Prop :=
  ∃ g, e = .returned (.slice (some ⟨g, 0, none⟩) l.length l.length) ∧ w.heap.size ≤ g ∧ Row w' g l ∧ Below w.heap.size w w'
theorem NewRow.after {w w1 : World} {l : List UInt8} {e : Ending} {w' : World} (hb : Below w.heap.size w w1) (h : NewRow w1 l e w') : NewRow w l e w' := by
  obtain ⟨g, h1, h2, h3, h4⟩ := h
  exact ⟨g, h1, Nat.le_trans hb.size h2, h3, hb.trans (h4.mono hb.size)⟩
end Go.Proofs.YtoophonmonojcaaDoor

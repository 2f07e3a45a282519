/- Several texts laid as one, in this order: A, Octet, Sum, Open, Reader, Number. -/
import Derived.Test.YtoophonmonojcaaDoorProg
import Derived.Test.YtoophonmonojcaaDoorGCrc
import Derived.WalkKit
import Derived.WalkSpells
import Derived.WalkLawsBesides
import Derived.Outline
import Derived.Lib.Hide
import Derived.Laws.CopyOwn
import Derived.Deep.QuietTactic
import Derived.BigQuiet
import Derived.StillTailTactics
import Derived.Deep.DeepFit
import Derived.Deep.DeepMust
import Derived.Deep.DeepCutAuto
/- Words and small laws for the walks of this seat: reading of byte slices, worlds that have changed above a block only, copies of bytes. No condition. -/
namespace Go.Proofs.YtoophonmonojcaaDoor
open Go.RowKit

theorem Tryd.infoU8 : (Tryd.prog.info? 5).map (fun i => (i.zero, i.size, i.bytes)) = some (some (.int .u8 0), 1, 1) := by kernel_rfl
theorem Tryd.infoBytes : (Tryd.prog.info? 27).map (fun i => (i.zero, i.size, i.bytes)) = some (some (.slice none 0 0), 1, 24) := by kernel_rfl
theorem Tryd.infoInt : (Tryd.prog.info? 3).map (fun i => (i.zero, i.size, i.bytes)) = some (some (.int .i64 0), 1, 8) := by kernel_rfl
theorem Tryd.sizeU8 : (Tryd.prog.info? 5).map (·.size) = some 1 := by kernel_rfl

/-- A byte as a value. -/
def bv (c : UInt8) : Value := .int .u8 (c.toNat : Int)

/-- The cells of a byte slice whose address is 'ao' read as 'l'. -/
def Rd (w : World) (ao : Option Addr) (l : List UInt8) : Prop :=
  ∀ i, i < l.length → ∃ b off, ao = some ⟨b, off, none⟩ ∧ w.cell? ⟨b, off + i, none⟩ = some (.int .u8 ((l.getD i 0).toNat : Int))

theorem block_lt {w : World} {a : Addr} {v : Value} (h : w.cell? a = some v) : a.block < w.heap.size := World.block_lt_of_cell? w a h

theorem Rd.nil (w : World) (ao : Option Addr) : Rd w ao [] := fun i hi => absurd hi (by simp)

theorem Rd.some {w : World} {ao : Option Addr} {l : List UInt8} (h : Rd w ao l) (hl : 0 < l.length) :
    ∃ b off, ao = Option.some ⟨b, off, none⟩ ∧ b < w.heap.size ∧ ∀ i, i < l.length → w.cell? ⟨b, off + i, none⟩ = Option.some (.int .u8 ((l.getD i 0).toNat : Int)) := by
  obtain ⟨b, off, e, hc⟩ := h 0 hl
  refine ⟨b, off, e, block_lt hc, fun i hi => ?_⟩
  obtain ⟨b', off', e', hc'⟩ := h i hi
  rw [e] at e'; cases e'; exact hc'

theorem Rd.mk {w : World} {b off : Nat} {l : List UInt8} (h : ∀ i, i < l.length → w.cell? ⟨b, off + i, none⟩ = Option.some (.int .u8 ((l.getD i 0).toNat : Int))) : Rd w (Option.some ⟨b, off, none⟩) l :=
  fun i hi => ⟨b, off, rfl, h i hi⟩

/-- What was read below B reads the same. -/
theorem Rd.below {B : Nat} {w w' : World} {ao : Option Addr} {l : List UInt8} (h : Rd w ao l) (hb : Below B w w') (hB : ∀ b off, ao = Option.some ⟨b, off, none⟩ → b < B) : Rd w' ao l := by
  intro i hi
  obtain ⟨b, off, e, hc⟩ := h i hi
  exact ⟨b, off, e, (hb.cell (p := ⟨b, off + i, none⟩) (hB b off e)).trans hc⟩
theorem Rd.step {w w' : World} {ao : Option Addr} {l : List UInt8} (h : Rd w ao l) (hb : Below w.heap.size w w') : Rd w' ao l := by
  intro i hi
  obtain ⟨b, off, e, hc⟩ := h i hi
  exact ⟨b, off, e, (hb.cell (p := ⟨b, off + i, none⟩) (block_lt hc)).trans hc⟩

/-- A reading opened for a walk: an address written out, or no byte. -/
theorem Rd.open {w : World} {ao : Option Addr} {l : List UInt8} {n : Nat} (h : Rd w ao l) (hl : l.length = n) :
    ∃ b off, (ao = Option.some ⟨b, off, none⟩ ∨ n ≤ 0) ∧ ∀ i, i < n → w.cell? ⟨b, off + i, none⟩ = Option.some (.int .u8 ((l.getD i 0).toNat : Int)) := by
  rcases Nat.eq_zero_or_pos n with h' | h'
  · exact ⟨0, 0, .inr (by omega), fun i hi => by omega⟩
  · obtain ⟨b, off, e, _, hc⟩ := h.some (by omega)
    exact ⟨b, off, .inl e, fun i hi => hc i (by omega)⟩

/-- A slice of a slice of bytes: its address. -/
def sub (ao : Option Addr) (k cap : Nat) : Option Addr := if cap = k then ao else ao.map (·.add k)
theorem Rd.sub {w : World} {ao : Option Addr} {l : List UInt8} (h : Rd w ao l) (k n cap : Nat) (hn : k + n ≤ l.length) (hc : l.length ≤ cap) : Rd w (sub ao k cap) ((l.drop k).take n) := by
  intro i hi
  have hi' : i < n := by simp at hi; omega
  obtain ⟨b, off, e, hcell⟩ := h (k + i) (by omega)
  have hne : ¬ cap = k := by omega
  refine ⟨b, off + k, ?_, ?_⟩
  · rw [Proofs.YtoophonmonojcaaDoor.sub, if_neg hne, e]
    rcases Nat.eq_zero_or_pos k with rfl | hk
    · simp [Addr.add]
    · simp [Addr.add, Nat.ne_of_gt hk]
  · rw [show off + k + i = off + (k + i) by omega, hcell]
    simp [List.getD_eq_getElem?_getD, hi', List.getElem?_drop]

/-- A block that holds just these bytes. -/
def Row (w : World) (g : Nat) (l : List UInt8) : Prop := w.heap[g]? = some (.cells (l.map bv).toArray 5 (0, 0))
theorem Row.lt {w : World} {g : Nat} {l : List UInt8} (h : Row w g l) : g < w.heap.size := by
  rcases Nat.lt_or_ge g w.heap.size with h1 | h1
  · exact h1
  · rw [Row, Array.getElem?_eq_none h1] at h; cases h
theorem Row.cell {w : World} {g : Nat} {l : List UInt8} (h : Row w g l) (i : Nat) (hi : i < l.length) : w.cell? ⟨g, i, none⟩ = some (.int .u8 ((l.getD i 0).toNat : Int)) := by
  simp only [Row] at h
  simp [World.cell?, h, bv, List.getD_eq_getElem?_getD, List.getElem?_eq_getElem hi]
theorem Row.rd {w : World} {g : Nat} {l : List UInt8} (h : Row w g l) : Rd w (some ⟨g, 0, none⟩) l :=
  Rd.mk fun i hi => by rw [Nat.zero_add]; exact h.cell i hi
theorem Row.below {B : Nat} {w w' : World} {g : Nat} {l : List UInt8} (h : Row w g l) (hb : Below B w w') (hB : g < B) : Row w' g l := by
  rw [Row, hb.block g hB]; exact h
theorem Row.frozen {w : World} {g : Nat} {l : List UInt8} (h : Row w g l) (o : Nat) (s : Option Nat) : w.frozen? ⟨g, o, s⟩ = false := by
  simp only [Row] at h
  simp [World.frozen?, h]

/-- Old cells and marks read as before: the walk uses the two as rules. -/
theorem bcell {W w1 : World} (hb : Below W.heap.size W w1) : (∀ b o, b < W.heap.size → w1.cell? ⟨b, o, none⟩ = W.cell? ⟨b, o, none⟩) ∧ (∀ b o, b < W.heap.size → w1.frozen? ⟨b, o, none⟩ = W.frozen? ⟨b, o, none⟩) :=
  ⟨fun b o h => hb.cell (p := ⟨b, o, none⟩) h, fun b o h => hb.frozen (p := ⟨b, o, none⟩) h⟩

theorem oneCell_bv (l : List UInt8) : ∀ v ∈ l.map bv, v.oneCell' = true := by
  intro v hv
  obtain ⟨c, _, rfl⟩ := List.mem_map.1 hv
  rfl

open Go in
/-- copy of bytes into a row that is known whole. -/
theorem wpList_copyB {P : Program} {w : World} {ops : Array Oper} {rest : List Oper} {o : Oper} {a : Act} {Q : Exit → Act → World → Prop} (hgd : o.guard = none) (d s : Operand) (dT sT : TypeId)
    (ho : o.op = .call { callee := .builtin .copy, args := #[d, s], argTypes := #[dT, sT] }) (elem : TypeId) (hu : P.underlying dT = some (.slice elem)) (hsz : (P.info? elem).map (·.size) = some 1)
    (dp sp : Option Addr) (dLen dCap sLen sCap : Nat) (hd : a.eval d = .slice dp dLen dCap) (hs : a.eval s = .slice sp sLen sCap)
    (g off : Nat) (cur : List Value) (t : TypeId) (hg : w.heap[g]? = some (.cells cur.toArray t (0, 0))) (l : List UInt8) (hl : l.length = sLen) (hr : Rd w sp l) (hle : sLen ≤ dLen)
    (hpos : 0 < sLen → dp = some ⟨g, off, none⟩) (hfit : off + sLen ≤ cur.length) (B : Nat) (w0 : World) (hb : Below B w0 w) (hBg : B ≤ g)
    (h : ∀ w', Hid (w'.heap[g]? = some (.cells (splice cur off (l.map bv)).toArray t (0, 0))) → Below B w0 w' → wpList P ops Q rest (a.put o.dst (.int .i64 (sLen : Int))) w') :
    wpList P ops Q (o :: rest) a w := by
  refine wpList_copy_splice hgd d s dT sT ho elem hu hsz dp sp dLen dCap sLen sCap hd hs g off cur t hg (l.map bv) ?_ ?_ ?_ (oneCell_bv l) B w0 hb hBg ?_
  · rw [List.length_map, hl]; exact (Nat.min_eq_left hle).symm
  · intro hp
    rw [List.length_map, hl] at hp
    obtain ⟨b, off', e, _, hc⟩ := hr.some (by omega)
    refine ⟨hpos hp, _, e, fun j v hj => ?_⟩
    obtain ⟨hj1, hj2⟩ := List.getElem?_eq_some_iff.1 hj
    rw [List.length_map] at hj1
    have := hc j hj1
    simp only [List.getElem_map] at hj2
    subst hj2
    rw [show (Addr.mk b off' none).add j = ⟨b, off' + j, none⟩ by unfold Addr.add; split <;> simp_all, this]
    simp [bv, List.getD_eq_getElem?_getD, List.getElem?_eq_getElem hj1]
  · rw [List.length_map, hl]; exact hfit
  · intro w' h1 h2
    have e : (goInt (l.map bv).length) = .int .i64 (sLen : Int) := by rw [List.length_map, hl]; rfl
    rw [e]
    exact h w' h1 h2

/-- Behind make([]byte, n): the new row, whole. -/
theorem made_row {w w1 : World} {n : Nat} {z : List Value} (h : w1.ownsRow w.heap.size 5 1 (.slice (some ⟨w.heap.size, 0, none⟩) n n) n z) (hg : w.grownBy w1 none) :
    ∃ cur : List Value, Hid (w1.heap[w.heap.size]? = some (.cells cur.toArray 5 (0, 0)) ∧ cur.length = n) ∧ Below w.heap.size w w1 := by
  obtain ⟨_, h⟩ := h
  rcases h with ⟨h, _⟩ | ⟨g, cap, cur, hv, _, hh, _, _, hs, _⟩
  · cases h
  · cases hv
    exact ⟨cur.toList, ⟨by simpa using hh, by simpa using hs⟩, (Below.refl _ w).grown hg (Nat.le_refl _) (fun k hk => by cases hk)⟩

theorem ret_slice {p : Option Addr} {a b c d : Nat} (h : a = b) (h' : c = d) : Ending.returned (.slice p a c) = Ending.returned (.slice p b d) := by rw [h, h']
theorem ret_int {k : IntKind} {a b : Int} (h : a = b) : Ending.returned (.int k a) = Ending.returned (.int k b) := by rw [h]
theorem ret_bool {a b : Bool} (h : a = b) : Ending.returned (.bool a) = Ending.returned (.bool b) := by rw [h]
/-- The byte of a number. -/
def u8 (x : Int) : UInt8 := UInt8.ofNat (x % 256).toNat
theorem u8_toNat (x : Int) : ((u8 x).toNat : Int) = x % 256 := by
  have h : (x % 256).toNat < 256 := by omega
  simp only [u8, UInt8.toNat_ofNat', Nat.reducePow]
  omega
theorem bv_u8 (x : Int) : bv (u8 x) = .int .u8 (x % 256) := by rw [bv, u8_toNat]
theorem u8_of (c : UInt8) : u8 (c.toNat : Int) = c := by
  apply UInt8.toNat_inj.1
  have := u8_toNat (c.toNat : Int)
  have h := c.toNat_lt
  omega

theorem row_new (w : World) (arr : Array Value) (l : List UInt8) (h : arr = (l.map bv).toArray) : Row (w.alloc (.cells arr 5)) w.heap.size l := by
  rw [Row, h]; exact heap_alloc_new w _

/-- The object that an error with a place is. -/
def faultObj (at_ code : Int) : Obj := .cells #[.int .i64 at_, .iface 49 (.int .i64 code)] 110 (0, 0)
/-- The error value over it. -/
abbrev faultV (g : Nat) : Value := .iface 106 (.pointer (some ⟨g, 0, none⟩))
/-- A new error with a place; nothing that was there has turned. -/
def NewFault (w : World) (at_ code : Int) (g : Nat) (w' : World) : Prop := w.heap.size ≤ g ∧ w'.heap[g]? = some (faultObj at_ code) ∧ Below w.heap.size w w'
theorem NewFault.after {w w1 : World} {a c : Int} {g : Nat} {w' : World} (hb : Below w.heap.size w w1) (h : NewFault w1 a c g w') : NewFault w a c g w' :=
  ⟨Nat.le_trans hb.size h.1, h.2.1, hb.trans (h.2.2.mono hb.size)⟩
theorem newFault_alloc (w : World) (a c : Int) : NewFault w a c w.heap.size (w.alloc (faultObj a c)) :=
  ⟨Nat.le_refl _, heap_alloc_new w _, (Below.refl _ w).alloc (Nat.le_refl _) _⟩

/-- The call hands back a new row that holds just 'l'; nothing that was there has turned. -/
def NewRow (w : World) (l : List UInt8) (e : Ending) (w' : World) : Prop :=
  ∃ g, e = .returned (.slice (some ⟨g, 0, none⟩) l.length l.length) ∧ w.heap.size ≤ g ∧ Row w' g l ∧ Below w.heap.size w w'
theorem NewRow.after {w w1 : World} {l : List UInt8} {e : Ending} {w' : World} (hb : Below w.heap.size w w1) (h : NewRow w1 l e w') : NewRow w l e w' := by
  obtain ⟨g, h1, h2, h3, h4⟩ := h
  exact ⟨g, h1, Nat.le_trans hb.size h2, h3, hb.trans (h4.mono hb.size)⟩
end Go.Proofs.YtoophonmonojcaaDoor

/- Contracts of package octet: with, Put8, Put16, Sum, Seal. -/
namespace Go.Proofs.YtoophonmonojcaaDoor
open Go.RowKit

theorem splice_with (l m : List UInt8) (Z : List Value) (hZ : Z.length = l.length + m.length) : splice (splice Z 0 (l.map bv)) l.length (m.map bv) = (l ++ m).map bv := by
  have e1 : splice Z 0 (l.map bv) = l.map bv ++ Z.drop l.length := by simp [splice]
  rw [e1, splice, List.take_append_of_le_length (by simp), List.take_of_length_le (by simp), List.drop_eq_nil_of_le (by simp; omega)]
  simp

set_option maxRecDepth 100000 in
set_option maxHeartbeats 400000 in
theorem with_any (a1 a2 : Option Addr) (n1 c1 n2 c2 : Nat) (l m : List UInt8) (w : World) (h1 : l.length = n1) (h2 : m.length = n2) (r1 : Rd w a1 l) (r2 : Rd w a2 m) (hb : n1 + n2 ≤ 140737488355328) :
    Calls Tryd.prog 107 #[.slice a1 n1 c1, .slice a2 n2 c2] w (NewRow w (l ++ m)) := by
  obtain ⟨i0, hi, hz0, hz1, hz2⟩ := info_parts Tryd.infoU8
  have H1 := Lib.hid h1; have H2 := Lib.hid h2; clear h1 h2
  have R1 := Lib.hid r1; have R2 := Lib.hid r2; clear r1 r2
  go_enter Tryd.func107, Tryd.ntmps107
  go_wp2_with (first
    | (at_make; refine wpList_make_full w rfl _ _ 27 rfl w.heap.size 5 i0 (.int .u8 0) 1 Tryd.underlying27 hi hz0 hz1 .i64 .i64 _ _ (n1 + n2) rfl rfl (by omega) (by omega) (by rw [hz2]; omega) (by unfold maxLen; omega) (Nat.le_refl _) ?_; intro w1 ho1 hg1; obtain ⟨cur, hrow, hB1⟩ := made_row ho1 hg1; clear ho1 hg1)
    | (with_reducible refine wpList_copyB rfl (.tmp 13) (.tmp 14) 27 27 rfl 5 Tryd.underlying27 Tryd.sizeU8 _ _ _ _ _ _ rfl rfl w.heap.size 0 cur 5 hrow.out.1 l H1.out (R1.out.step hB1) (by omega) (fun _ => rfl) (by have := hrow.out.2; omega) w.heap.size w hB1 (Nat.le_refl _) ?_; intro w2 hrow2 hB2)
    | (with_reducible refine wpList_copyB rfl (.tmp 16) (.tmp 17) 27 27 rfl 5 Tryd.underlying27 Tryd.sizeU8 _ _ _ _ _ _ rfl rfl w.heap.size n1 (splice cur 0 (l.map bv)) 5 hrow2.out m H2.out (R2.out.step hB2) (by omega) (fun _ => by simp; omega) (by have := hrow.out.2; have := H1.out; rw [length_splice] <;> simp <;> omega) w.heap.size w hB2 (Nat.le_refl _) ?_; intro w3 hrow3 hB3))
  all_goals
    go_ret
    have e0 := hrow.out.2; have e1 := H1.out; have e2 := H2.out
    refine ⟨w.heap.size, ret_slice (by simp; omega) (by simp; omega), Nat.le_refl _, ?_, hB3⟩
    have h3 := hrow3.out
    rw [← e1, splice_with l m cur (by omega)] at h3
    exact h3

/-- One byte behind. -/
theorem put8_any (a1 : Option Addr) (n1 c1 : Nat) (l : List UInt8) (v : Int) (w : World) (h1 : l.length = n1) (r1 : Rd w a1 l) (hb : n1 ≤ 140737488355000) (_hv : 0 ≤ v) :
    Calls Tryd.prog 113 #[.slice a1 n1 c1, .int .u64 v] w (NewRow w (l ++ [u8 v])) := by
  have R1 := Lib.hid r1; clear r1
  have H1 := Lib.hid h1; clear h1
  go_enter Tryd.func113, Tryd.ntmps113
  go_wp2_with fail
  have hB := (Below.refl w.heap.size w).alloc (Nat.le_refl _) (.cells #[Value.int IntKind.u8 (v % 256)] 5)
  refine (with_any _ _ _ _ 1 1 l [u8 v] _ H1.out rfl (R1.out.step hB) (row_new w _ [u8 v] (by simp [bv_u8])).rd (by omega)).mono ?_
  intro e w' hN
  obtain ⟨g, rfl, h2, h3, h4⟩ := hN.after hB
  go_wp2
  go_ret
  exact ⟨g, ret_slice (by simp) (by simp), h2, h3, h4⟩

/-- Two bytes behind, the higher first. -/
theorem put16_any (a1 : Option Addr) (n1 c1 : Nat) (l : List UInt8) (v : Int) (w : World) (h1 : l.length = n1) (r1 : Rd w a1 l) (hb : n1 ≤ 140737488355000) (_hv : 0 ≤ v) :
    Calls Tryd.prog 79 #[.slice a1 n1 c1, .int .u64 v] w (NewRow w (l ++ [u8 (v / 256), u8 v])) := by
  have R1 := Lib.hid r1; clear r1
  have H1 := Lib.hid h1; clear h1
  go_enter Tryd.func79, Tryd.ntmps79
  go_wp2_with fail
  have hB := (Below.refl w.heap.size w).alloc (Nat.le_refl _) (.cells #[Value.int IntKind.u8 (v / 256 % 256), Value.int IntKind.u8 (v % 256)] 5)
  refine (with_any _ _ _ _ 2 2 l [u8 (v / 256), u8 v] _ H1.out rfl (R1.out.step hB) (row_new w _ [u8 (v / 256), u8 v] (by simp [bv_u8])).rd (by omega)).mono ?_
  intro e w' hN
  obtain ⟨g, rfl, h2, h3, h4⟩ := hN.after hB
  go_wp2
  go_ret
  exact ⟨g, ret_slice (by simp) (by simp), h2, h3, h4⟩
end Go.Proofs.YtoophonmonojcaaDoor

/- Contracts of octet.Sum and octet.Seal, where the table reads as the program lays it. -/
namespace Go.Proofs.YtoophonmonojcaaDoor
open Go.RowKit

/-- The table of package octet lies in memory as its initialiser lays it. -/
def Tab (w : World) : Prop := ∀ i, i < 16 → w.cell? ⟨5, i, none⟩ = some (.int .u32 ((table.getD i 0 : Nat) : Int))
theorem Tab.step {w w' : World} (h : Tab w) (hb : Below w.heap.size w w') : Tab w' := fun i hi => (hb.cell (p := ⟨5, i, none⟩) (block_lt (h i hi))).trans (h i hi)
theorem Tab.walk {w : World} (h : Tab w) (z : Int) : w.cell? ⟨5, (bits .and .u32 z 15).toNat, none⟩ = some (.int .u32 (tabv z)) :=
  h _ (by have := and15_lt z; have := and15_nonneg z; omega)

set_option maxHeartbeats 400000 in
set_option maxRecDepth 100000 in
theorem sum_any (ao : Option Addr) (n cap : Nat) (l : List UInt8) (w : World) (hl : l.length = n) (hr : Rd w ao l) (hn : n ≤ 140737488355328) (ht : Tab w) :
    Calls Tryd.prog 106 #[.slice ao n cap] w fun e w' => e = .returned (.int .u32 (sum l : Nat)) ∧ w = w' := by
  have HT := Lib.hid ht
  obtain ⟨b, off, hao, hc⟩ := hr.open hl
  have hT := ht.walk
  have hB0 := and15_nonneg
  have hB1 := and15_lt
  have HL := Lib.hid hl
  clear hl hr ht
  rcases hao with rfl | hp
  all_goals
    go_enter Tryd.func106, Tryd.ntmps106
    go_wp2
    go_loop [3, 8] (fun r i => ∃ (k x : Nat), k ≤ n ∧ i = .int .i64 k ∧ Hid (x = crcFrom 4294967295 (l.take k)) ∧ r = .int .u32 x) (fun _ i => n - (intOf i).toNat)
    case atStart => exact ⟨0, 4294967295, Nat.zero_le _, rfl, (by show _ = _; simp [crcFrom]), by simp⟩
    case round =>
      obtain ⟨k, x, hk, rfl, hx, rfl⟩ := hrel
      have hcell : k < n → w.cell? ⟨b, off + k, none⟩ = some (.int .u8 ((l.getD k 0).toNat : Int)) := fun h => hc k h
      clear hc
      by_cases hlt : k < n
      · first
          | (exfalso; omega)
          | (go_wp2
             go_round
             case rel =>
               have hx' : x < 4294967296 := by rw [hx.out]; exact crcFrom_lt _ (by decide)
               have hl := HL.out
               refine ⟨k + 1, crcStep x (l.getD k 0), by omega, by go_num, ?_, ?_⟩
               · show _ = _
                 rw [take_snoc l k (by omega), crcFrom_snoc, ← hx.out]
               · rw [← round_step x hx' (l.getD k 0), List.getD_eq_getElem?_getD, Int.emod_eq_of_lt (by omega) (by have := (l[k]?.getD 0).toNat_lt; omega)]
             case measure => simp [intOf]; omega)
      · go_wp2
        go_ret
        obtain rfl : k = n := by omega
        have hx' : x < 4294967296 := by rw [hx.out]; exact crcFrom_lt _ (by decide)
        refine ⟨ret_int ?_, rfl⟩
        have hl := HL.out
        show bits .xor .u32 IntKind.u32.max (x : Int) = _
        rw [xor_max hx', hx.out, List.take_of_length_le (by omega)]
        rfl
end Go.Proofs.YtoophonmonojcaaDoor

/- Contracts of octet.Seal, octet.Open and api.Wrap. -/
namespace Go.Proofs.YtoophonmonojcaaDoor
open Go.RowKit

theorem wrap_any (at_ code : Int) (w : World) : Calls Tryd.prog 74 #[.int .i64 at_, .int .i64 code] w fun e w' => e = .returned (faultV w.heap.size) ∧ w.alloc (faultObj at_ code) = w' := by
  go_enter Tryd.func74, Tryd.ntmps74
  go_wp2
  go_ret
  exact ⟨rfl, rfl⟩

/-- The same, the world left open. -/
theorem wrap_new (at_ code : Int) (w : World) : Calls Tryd.prog 74 #[.int .i64 at_, .int .i64 code] w fun e w' => ∃ g, e = .returned (faultV g) ∧ NewFault w at_ code g w' :=
  (wrap_any at_ code w).mono fun _ _ ⟨h1, h2⟩ => ⟨_, h1, h2 ▸ newFault_alloc w at_ code⟩

/-- The four bytes of a sum, the lowest first. -/
def le4 (s : Nat) : List UInt8 := [u8 s, u8 (s / 256), u8 (s / 65536), u8 (s / 16777216)]
def sealed (l : List UInt8) : List UInt8 := l ++ le4 (sum l)

set_option maxHeartbeats 400000 in
theorem seal_any (ao : Option Addr) (n cap : Nat) (l : List UInt8) (w : World) (hl : l.length = n) (hr : Rd w ao l) (hn : n ≤ 140737488355000) (ht : Tab w) :
    Calls Tryd.prog 71 #[.slice ao n cap] w (NewRow w (sealed l)) := by
  have HL := Lib.hid hl; have HR := Lib.hid hr; have HT := Lib.hid ht; clear hl hr ht
  have hs := sum_lt l
  have HS : ∃ s, s = sum l := ⟨_, rfl⟩
  obtain ⟨s, hs0⟩ := HS
  rw [← hs0] at hs
  have HS := Lib.hid hs0; clear hs0
  go_enter Tryd.func71, Tryd.ntmps71
  go_wp2_with (go_at_call 106; refine (sum_any _ _ _ l _ HL.out HR.out (by omega) HT.out).mono ?_; rintro e w' ⟨rfl, rfl⟩; rw [← HS.out])
  refine (with_any _ _ _ _ 4 4 l (le4 s) _ HL.out rfl (HR.out.step ((Below.refl _ w).alloc (Nat.le_refl _) _)) (row_new w _ (le4 s) ?_).rd (by omega)).mono ?_
  · simp only [le4, List.map_cons, List.map_nil, bv_u8]
    rw [Int.emod_eq_of_lt (a := (s : Int) / 16777216) (by omega) (by omega)]
  intro e w' hN
  obtain ⟨g, rfl, h2, h3, h4⟩ := hN.after ((Below.refl _ w).alloc (Nat.le_refl _) _)
  go_wp2
  go_ret
  rw [sealed, ← HS.out]
  exact ⟨g, ret_slice (by simp) (by simp), h2, h3, h4⟩

set_option maxHeartbeats 400000 in
/-- Fewer than four bytes. -/
theorem open_short (ao : Option Addr) (n cap : Nat) (w : World) (h : n < 4) :
    Calls Tryd.prog 118 #[.slice ao n cap] w fun e w' => e = .returned (.tuple #[.slice none 0 0, faultV w.heap.size]) ∧ w.alloc (faultObj n 10) = w' := by
  go_enter Tryd.func118, Tryd.ntmps118
  go_wp2_with (go_at_call 74; refine (wrap_any _ _ _).mono ?_; rintro e w' ⟨rfl, rfl⟩)
  go_ret2
  exact ⟨rfl, rfl⟩

theorem le4_getD (s i : Nat) (hi : i < 4) : (((le4 s).getD i 0).toNat : Int) = (s : Int) / 2 ^ (8 * i) % 256 := by
  match i, hi with
  | 0, _ => simp [le4, u8_toNat]
  | 1, _ => simp [le4, u8_toNat]
  | 2, _ => simp [le4, u8_toNat]
  | 3, _ => simp [le4, u8_toNat]
theorem drop_eq_le4 (l : List UInt8) (k s : Nat) (hl : l.length = k + 4) : l.drop k = le4 s ↔ ∀ i, i < 4 → l.getD (k + i) 0 = (le4 s).getD i 0 := by
  constructor
  · intro h i _
    rw [← h]; simp [List.getD_eq_getElem?_getD]
  · intro h
    apply List.ext_getElem?
    intro i
    rcases Nat.lt_or_ge i 4 with hi | hi
    · have h1 := h i hi
      have e1 : i < (l.drop k).length := by simp; omega
      have e2 : i < (le4 s).length := by simp [le4]; omega
      rw [List.getD_eq_getElem?_getD, List.getD_eq_getElem?_getD, ← List.getElem?_drop, List.getElem?_eq_getElem e1, List.getElem?_eq_getElem e2] at h1
      rw [List.getElem?_eq_getElem e1, List.getElem?_eq_getElem e2]
      exact congrArg some h1
    · rw [List.getElem?_eq_none (by simp; omega), List.getElem?_eq_none (by simp [le4]; omega)]

/-- What octet.Open answers of four bytes or more. -/
def Opened (w : World) (l : List UInt8) (e : Ending) (w' : World) : Prop :=
  (l.drop (l.length - 4) = le4 (sum (l.take (l.length - 4))) ∧ ∃ g, e = .returned (.tuple #[.slice (some ⟨g, 0, none⟩) (l.length - 4) (l.length - 4), .nilIface]) ∧ w.heap.size ≤ g ∧ Row w' g (l.take (l.length - 4)) ∧ Below w.heap.size w w') ∨
  (l.drop (l.length - 4) ≠ le4 (sum (l.take (l.length - 4))) ∧ ∃ g, e = .returned (.tuple #[.slice none 0 0, faultV g]) ∧ NewFault w (l.length - 4 : Nat) 11 g w')

set_option maxHeartbeats 1000000 in
theorem open_any (ao : Option Addr) (n cap : Nat) (l : List UInt8) (w : World) (hl : l.length = n) (hr : Rd w ao l) (h4 : 4 ≤ n) (hn : n ≤ cap) (hcap : n ≤ 140737488355000) (ht : Tab w) :
    Calls Tryd.prog 118 #[.slice ao n cap] w (Opened w l) := by
  obtain ⟨k, rfl⟩ : ∃ k, n = k + 4 := ⟨n - 4, by omega⟩
  clear h4
  obtain ⟨b, off, rfl, hbw, hc⟩ := hr.some (by omega)
  obtain ⟨s, hs0⟩ : ∃ s, s = sum (l.take k) := ⟨_, rfl⟩
  have hs := sum_lt (l.take k)
  rw [← hs0] at hs
  have hcell : ∀ i, i < 4 → w.cell? ⟨b, off + (k + i), none⟩ = some (.int .u8 ((l.getD (k + i) 0).toNat : Int)) := fun i hi => hc (k + i) (by omega)
  have hrk : Rd w (some ⟨b, off, none⟩) (l.take k) := by
    have := hr.sub 0 k cap (by omega) (by omega)
    simpa [sub, Addr.add] using this
  have HL := Lib.hid hl; have HR := Lib.hid hrk; have HT := Lib.hid ht; have HS := Lib.hid hs0; clear hl ht hc hr hrk hs0
  go_enter Tryd.func118, Tryd.ntmps118
  go_wp2_with (go_at_call 106; refine (sum_any _ _ _ (l.take k) _ (by have := HL.out; simp; omega) HR.out (by omega) HT.out).mono ?_; rintro e w' ⟨rfl, rfl⟩; rw [← HS.out])
  go_loopw [20] (fun v wr => ∃ j nq : Nat, j ≤ 4 ∧ v = .int .i64 j ∧ wr = w.drewN nq ∧ Hid (∀ i, i < j → l.getD (k + i) 0 = (le4 s).getD i 0)) (fun v _ => 4 - (intOf v).toNat)
  case atStart => exact ⟨0, 0, by omega, rfl, rfl, fun i hi => by omega⟩
  case round =>
    obtain ⟨j, nq, hj, rfl, rfl, hm⟩ := hrel
    by_cases hlt : j < 4
    · have hcc := hcell j hlt
      have hle := le4_getD s j hlt
      have HLE := Lib.hid hle
      clear hcell hle
      by_cases heq : l.getD (k + j) 0 = (le4 s).getD j 0
      · have HEQ := Lib.hid heq
        have htest : (((l[k + j]?.getD 0).toNat : Int) != (s : Int) / 2 ^ (8 * j) % 256) = false := by rw [← List.getD_eq_getElem?_getD, heq, HLE.out]; simp
        clear heq
        go_wp2
        go_quiet (fail)
        go_wp2
        go_roundw
        case rel =>
          refine ⟨j + 1, _, by omega, by go_num, rfl, ?_⟩
          intro i hi
          rcases Nat.lt_or_ge i j with h | h
          · exact hm.out i h
          · obtain rfl : i = j := by omega
            exact HEQ.out
        case measure => simp [intOf]; omega
      · have HNE := Lib.hid heq
        have htest : (((l[k + j]?.getD 0).toNat : Int) != (s : Int) / 2 ^ (8 * j) % 256) = true := by
          rw [← List.getD_eq_getElem?_getD, bne_iff_ne, ← HLE.out]
          intro h
          exact heq (UInt8.toNat_inj.1 (by omega))
        clear heq
        go_wp2
        go_quiet (fail)
        go_wp2_with (go_at_call 74; refine (wrap_any _ _ _).mono ?_; rintro e w' ⟨rfl, rfl⟩)
        go_ret2
        have hl := HL.out
        have e4 : l.length - 4 = k := by omega
        refine .inr ⟨?_, w.heap.size, ?_, ?_⟩
        · rw [e4, ← HS.out]
          intro h
          exact HNE.out ((drop_eq_le4 l k s hl).1 h j hlt)
        · rfl
        · rw [e4]
          exact (newFault_alloc _ _ _).after (below_drewN (Below.refl _ _) _)
    · obtain rfl : j = 4 := by omega
      clear hcell
      go_wp2_with fail
      refine (with_any _ _ _ _ 0 0 (l.take k) [] _ (by have := HL.out; simp; omega) rfl (HR.out.step (below_drewN (Below.refl _ _) _)) (Rd.nil _ _) (by omega)).mono ?_
      intro e w' hN
      obtain ⟨g, rfl, h2, h3, h4⟩ := hN.after (below_drewN (Below.refl _ _) _)
      have e0 := HL.out
      have e1 : (l.take k ++ []).length = k := by simp; omega
      rw [e1]
      go_wp2
      go_ret2
      have e4 : l.length - 4 = k := by omega
      refine .inl ⟨?_, g, ?_, h2, ?_, h4⟩
      · rw [e4, ← HS.out]
        exact (drop_eq_le4 l k s HL.out).2 hm.out
      · rw [e4]; rfl
      · rw [e4]; simpa using h3
end Go.Proofs.YtoophonmonojcaaDoor

/- Contracts of package octet's Reader. -/
namespace Go.Proofs.YtoophonmonojcaaDoor
open Go.RowKit

/-- A reader over the bytes l, at a place, with its first error. -/
def ReaderAt (w : World) (g gb : Nat) (l : List UInt8) (at_ : Nat) (ev : Value) : Prop :=
  w.heap[g]? = some (.cells #[.slice (some ⟨gb, 0, none⟩) l.length l.length, .int .i64 at_, ev] 185 (0, 0)) ∧ Row w gb l
theorem ReaderAt.cells {w : World} {g gb : Nat} {l : List UInt8} {at_ : Nat} {ev : Value} (h : ReaderAt w g gb l at_ ev) :
    w.cell? ⟨g, 0, none⟩ = some (.slice (some ⟨gb, 0, none⟩) l.length l.length) ∧ w.cell? ⟨g, 1, none⟩ = some (.int .i64 at_) ∧ w.cell? ⟨g, 2, none⟩ = some ev ∧ ∀ o, w.frozen? ⟨g, o, none⟩ = false := by
  obtain ⟨h1, _⟩ := h
  refine ⟨?_, ?_, ?_, fun o => ?_⟩ <;> simp [World.cell?, World.frozen?, h1]

theorem ReaderAt.ne {w : World} {g gb : Nat} {l : List UInt8} {at_ : Nat} {ev : Value} (h : ReaderAt w g gb l at_ ev) : gb ≠ g := by
  rintro rfl
  have h1 := h.1
  rw [h.2] at h1
  simp at h1
theorem ReaderAt.lt {w : World} {g gb : Nat} {l : List UInt8} {at_ : Nat} {ev : Value} (h : ReaderAt w g gb l at_ ev) : g < w.heap.size := by
  rcases Nat.lt_or_ge g w.heap.size with h1 | h1
  · exact h1
  · have := h.1; rw [Array.getElem?_eq_none h1] at this; cases this
theorem ReaderAt.below {B : Nat} {w w' : World} {g gb : Nat} {l : List UInt8} {at_ : Nat} {ev : Value} (h : ReaderAt w g gb l at_ ev) (hb : Below B w w') (hg : g < B) (hgb : gb < B) : ReaderAt w' g gb l at_ ev :=
  ⟨(hb.block g hg).trans h.1, h.2.below hb hgb⟩
theorem ReaderAt.set1 {w : World} {g gb : Nat} {l : List UInt8} {at_ : Nat} {ev : Value} (h : ReaderAt w g gb l at_ ev) (x : Nat) : ReaderAt (w.setCell ⟨g, 1, none⟩ (.int .i64 x)) g gb l x ev := by
  refine ⟨?_, ?_⟩
  · have h1 := h.1
    simp [World.setCell, Array.getElem?_modify, h1]
  · rw [Row, Below.heap_setCell _ _ _ _ h.ne]; exact h.2
theorem ReaderAt.set2 {w : World} {g gb : Nat} {l : List UInt8} {at_ : Nat} {ev : Value} (h : ReaderAt w g gb l at_ ev) (x : Value) : ReaderAt (w.setCell ⟨g, 2, none⟩ x) g gb l at_ x := by
  refine ⟨?_, ?_⟩
  · have h1 := h.1
    simp [World.setCell, Array.getElem?_modify, h1]
  · rw [Row, Below.heap_setCell _ _ _ _ h.ne]; exact h.2
theorem ReaderAt.drewN {w : World} {g gb : Nat} {l : List UInt8} {at_ : Nat} {ev : Value} (h : ReaderAt w g gb l at_ ev) (n : Nat) : ReaderAt (w.drewN n) g gb l at_ ev := h
theorem grown_setCell (w : World) (a : Addr) (u : Value) : w.grownBy (w.setCell a u) (some a.block) :=
  ⟨rfl, rfl, rfl, by simp [World.setCell], fun k _ hk => Below.heap_setCell _ _ _ _ (fun e => hk (by rw [e]))⟩
theorem grown_trans {w w1 w2 : World} {r : Option Nat} (h : w.grownBy w1 r) (h' : w1.grownBy w2 r) : w.grownBy w2 r :=
  ⟨h'.os.trans h.os, h'.tape.trans h.tape, h'.output.trans h.output, Nat.le_trans h.size h'.size, fun k hk hr => (h'.block k (Nat.lt_of_lt_of_le hk h.size) hr).trans (h.block k hk hr)⟩
theorem grown_drewN (w : World) (n : Nat) (r : Option Nat) : w.grownBy (w.drewN n) r := ⟨rfl, rfl, rfl, Nat.le_refl _, fun _ _ _ => rfl⟩
theorem grown_below {w w' : World} {r : Option Nat} (h : Below w.heap.size w w') : w.grownBy w' r := ⟨h.os, h.tape, h.output, h.size, fun k hk _ => h.block k hk⟩

/-- next handed back the next n bytes. -/
def NextOk (w : World) (g gb : Nat) (l : List UInt8) (at_ n : Nat) (e : Ending) (w' : World) : Prop :=
  ∃ ao c, e = .returned (.slice ao n c) ∧ n ≤ c ∧ Rd w' ao ((l.drop at_).take n) ∧ ReaderAt w' g gb l (at_ + n) .nilIface ∧ w.grownBy w' (some g)

theorem next_end {w : World} {g gb : Nat} {l : List UInt8} {at_ : Nat} (hr : ReaderAt w g gb l at_ .nilIface) (n k : Nat) (hle : at_ + n ≤ l.length) (e : Ending) (o : Nat) (ho : o = at_ ∨ n = 0) (x : Int) (hx : x = ((at_ + n : Nat) : Int)) (c : Nat) (hc : n ≤ c)
    (he : e = .returned (.slice (some ⟨gb, o, none⟩) n c)) : NextOk w g gb l at_ n e ((w.drewN k).setCell ⟨g, 1, none⟩ (.int .i64 x)) := by
  subst hx
  have h2 := (hr.drewN k).set1 (at_ + n)
  refine ⟨_, c, he, hc, ?_, h2, grown_trans (grown_drewN w k _) (grown_setCell _ ⟨g, 1, none⟩ _)⟩
  intro i hi
  simp only [List.length_take, List.length_drop] at hi
  have := h2.2.cell (at_ + i) (by omega)
  refine ⟨gb, o, rfl, ?_⟩
  rcases ho with rfl | h0
  · rw [this]
    simp [List.getD_eq_getElem?_getD, show i < n by omega]
  · omega

set_option maxHeartbeats 1000000 in
theorem next_ok (g gb : Nat) (l : List UInt8) (at_ n : Nat) (w : World) (hr : ReaderAt w g gb l at_ .nilIface) (hle : at_ + n ≤ l.length) (hl : l.length ≤ 140737488355328) :
    Calls Tryd.prog 137 #[.pointer (some ⟨g, 0, none⟩), .int .i64 n] w (NextOk w g gb l at_ n) := by
  obtain ⟨c0, c1, c2, cf⟩ := hr.cells
  have HR := Lib.hid hr; clear hr
  obtain ⟨m, hm⟩ : ∃ m, m = l.length := ⟨_, rfl⟩
  rw [← hm] at c0 hle hl
  have HM := Lib.hid hm; clear hm
  have t1 : decide ((n : Int) < 0) = false := by simp
  have t2 : decide ((m : Int) - at_ < (n : Int)) = false := by simp; omega
  go_enter Tryd.func137, Tryd.ntmps137
  go_wp2_with fail
  go_quiet (fail)
  go_wp2_with fail
  go_quiet (fail)
  go_wp2_with fail
  all_goals
    go_ret
    first
      | exact next_end HR.out n _ (by have := HM.out; omega) _ at_ (.inl rfl) _ (by omega) (m - at_) (by omega) rfl
      | exact next_end HR.out n _ (by have := HM.out; omega) _ 0 (.inr (by omega)) _ (by omega) 0 (by omega) rfl

/-- next found too few bytes. -/
def NextShort (w : World) (g gb : Nat) (l : List UInt8) (at_ : Nat) (e : Ending) (w' : World) : Prop :=
  e = .returned (.slice none 0 0) ∧ ∃ ge, w.heap.size ≤ ge ∧ w'.heap[ge]? = some (faultObj at_ 10) ∧ ReaderAt w' g gb l at_ (faultV ge) ∧ w.grownBy w' (some g)

set_option maxHeartbeats 1000000 in
theorem next_short (g gb : Nat) (l : List UInt8) (at_ n : Nat) (w : World) (hr : ReaderAt w g gb l at_ .nilIface) (hle : l.length < at_ + n) (ha : at_ ≤ l.length) (hl : l.length ≤ 140737488355328) :
    Calls Tryd.prog 137 #[.pointer (some ⟨g, 0, none⟩), .int .i64 n] w (NextShort w g gb l at_) := by
  obtain ⟨c0, c1, c2, cf⟩ := hr.cells
  have hg := hr.lt
  have hgb := hr.2.lt
  have HR := Lib.hid hr; clear hr
  obtain ⟨m, hm⟩ : ∃ m, m = l.length := ⟨_, rfl⟩
  rw [← hm] at c0 hle hl ha
  have HM := Lib.hid hm; clear hm
  have t1 : decide ((n : Int) < 0) = false := by simp
  have t2 : decide ((m : Int) - at_ < (n : Int)) = true := by simp; omega
  go_enter Tryd.func137, Tryd.ntmps137
  go_wp2_with fail
  go_quiet (fail)
  go_wp2_with (go_at_call 74; refine (wrap_new _ _ _).mono ?_; rintro e w1 ⟨ge, rfl, hN⟩; obtain ⟨hc1, hf1⟩ := bcell ((below_drewN (Below.refl w.heap.size w) nq).trans hN.2.2); have HN := Lib.hid hN; clear hN)
  go_ret
  obtain ⟨hge, hgo, hB⟩ := HN.out
  have hge' : w.heap.size ≤ ge := hge
  have h2 := ((HR.out.drewN nq).below hB hg hgb).set2 (faultV ge)
  refine ⟨rfl, ge, hge, ?_, h2, grown_trans (grown_trans (grown_drewN w nq _) (grown_below hB)) (grown_setCell _ ⟨g, 2, none⟩ _)⟩
  rw [Below.heap_setCell _ _ _ _ (by simp; omega)]
  exact hgo

/-- next behind an error. -/
def NextErr (w : World) (e : Ending) (w' : World) : Prop := e = .returned (.slice none 0 0) ∧ ∃ k, w.drewN k = w'

set_option maxHeartbeats 1000000 in
theorem next_err (g gb : Nat) (l : List UInt8) (at_ n ge : Nat) (w : World) (hr : ReaderAt w g gb l at_ (faultV ge)) :
    Calls Tryd.prog 137 #[.pointer (some ⟨g, 0, none⟩), .int .i64 n] w (NextErr w) := by
  obtain ⟨c0, c1, c2, cf⟩ := hr.cells
  clear hr
  obtain ⟨m, hm⟩ : ∃ m, m = l.length := ⟨_, rfl⟩
  rw [← hm] at c0
  clear hm
  go_enter Tryd.func137, Tryd.ntmps137
  go_wp2_with fail
  go_quiet (fail)
  go_wp2_with fail
  go_ret
  exact ⟨rfl, _, rfl⟩
end Go.Proofs.YtoophonmonojcaaDoor

/- Contracts of package octet's Reader, the numbers. -/
namespace Go.Proofs.YtoophonmonojcaaDoor
open Go.RowKit

/-- The next bytes as a number, the highest first. -/
def numStep (x : Nat) (c : UInt8) : Nat := (x * 256 % 4294967296) ||| c.toNat
def num (l : List UInt8) : Nat := l.foldl numStep 0
theorem num_lt (l : List UInt8) : num l < 4294967296 := by
  have h : ∀ (l : List UInt8) (x : Nat), x < 4294967296 → l.foldl numStep x < 4294967296 := by
    intro l
    induction l with
    | nil => intro x h; exact h
    | cons c t ih => intro x _; exact ih _ (Nat.or_lt_two_pow (n := 32) (by omega) (by have := byte_lt32 c; omega))
  exact h l 0 (by decide)
theorem num_snoc (l : List UInt8) (k : Nat) (h : k < l.length) : num (l.take (k + 1)) = numStep (num (l.take k)) (l.getD k 0) := by
  rw [take_snoc l k h]; simp [num, List.foldl_append]
theorem num_step_walk (x : Nat) (c : UInt8) : bits .or .u32 ((x : Int) * 256 % 4294967296) ((c.toNat : Int) % 4294967296) = ((numStep x c : Nat) : Int) := by
  have hc := byte_lt32 c
  rw [show (x : Int) * 256 % 4294967296 = ((x * 256 % 4294967296 : Nat) : Int) by omega, show (c.toNat : Int) % 4294967296 = ((c.toNat : Nat) : Int) by omega, u32_or_nat _ _ (by omega) hc]
  rfl
theorem num_one (a : UInt8) : num [a] = a.toNat := by simp [num, numStep]
theorem num_two (a b : UInt8) : num [a, b] = a.toNat * 256 + b.toNat := by
  have ha := a.toNat_lt
  have hb := b.toNat_lt
  simp only [num, List.foldl_cons, List.foldl_nil, numStep, Nat.zero_mul, Nat.zero_mod, Nat.zero_or]
  rw [Nat.mod_eq_of_lt (by omega), show a.toNat * 256 = a.toNat <<< 8 by rw [Nat.shiftLeft_eq], Nat.shiftLeft_add_eq_or_of_lt (by omega)]

/-- number handed back the next n bytes as a number. -/
def NumOk (w : World) (g gb : Nat) (l : List UInt8) (at_ n : Nat) (k : IntKind) (e : Ending) (w' : World) : Prop :=
  e = .returned (.int k (num ((l.drop at_).take n) : Nat)) ∧ ReaderAt w' g gb l (at_ + n) .nilIface ∧ w.grownBy w' (some g)

set_option maxHeartbeats 1000000 in
theorem number_ok (g gb : Nat) (l : List UInt8) (at_ n : Nat) (w : World) (hr : ReaderAt w g gb l at_ .nilIface) (hle : at_ + n ≤ l.length) (hl : l.length ≤ 140737488355328) :
    Calls Tryd.prog 134 #[.pointer (some ⟨g, 0, none⟩), .int .i64 n] w (NumOk w g gb l at_ n .u32) := by
  have HR := Lib.hid hr; clear hr
  go_enter Tryd.func134, Tryd.ntmps134
  go_wp2_with fail
  refine (next_ok g gb l at_ n _ HR.out hle hl).mono ?_
  rintro e w1 ⟨ao, c, rfl, hnc, hrd, hra, hg⟩
  have HG := Lib.hid hg
  have HA := Lib.hid hra
  have hlen : ((l.drop at_).take n).length = n := by simp; omega
  obtain ⟨b, off, hao, hc⟩ := hrd.open hlen
  clear hrd hra hg
  obtain ⟨q, hq⟩ : ∃ q, q = (l.drop at_).take n := ⟨_, rfl⟩
  rw [← hq] at hc hlen
  have HQ := Lib.hid hq; have HL := Lib.hid hlen; clear hq hlen
  have hn : n ≤ 140737488355328 := by omega
  rcases hao with hao | hp
  · rw [hao]
    clear hao
    go_wp2_with fail
    go_loop [5, 12] (fun v i => ∃ (k x : Nat), k ≤ n ∧ i = .int .i64 k ∧ v = .int .u32 x ∧ Hid (x = num (q.take k))) (fun _ i => n - (intOf i).toNat)
    case atStart => exact ⟨0, 0, Nat.zero_le _, rfl, rfl, rfl⟩
    case round =>
      obtain ⟨k, x, hk, rfl, rfl, hx⟩ := hrel
      by_cases hlt : k < n
      · have hcc := hc k hlt
        clear hc
        go_wp2
        go_round
        case rel =>
          refine ⟨k + 1, numStep x (q.getD k 0), by omega, by go_num, ?_, ?_⟩
          · rw [← num_step_walk x (q.getD k 0), List.getD_eq_getElem?_getD]
          · show _ = _
            rw [num_snoc q k (by have := HL.out; omega), ← hx.out]
        case measure => simp [intOf]; omega
      · obtain rfl : k = n := by omega
        clear hc
        go_wp2
        go_ret
        refine ⟨ret_int ?_, HA.out, HG.out⟩
        show (x : Int) = _
        rw [hx.out, ← HQ.out, List.take_of_length_le (by have := HL.out; omega)]
  · obtain rfl : n = 0 := by omega
    clear hc
    go_wp2_with fail
    refine wp_loop_rounds 1 ?_
    rw [rounds_succ]
    go_wp2
    go_ret
    exact ⟨rfl, HA.out, HG.out⟩

set_option maxHeartbeats 400000 in
theorem u8_ok (g gb : Nat) (l : List UInt8) (at_ : Nat) (w : World) (hr : ReaderAt w g gb l at_ .nilIface) (hle : at_ + 1 ≤ l.length) (hl : l.length ≤ 140737488355328) :
    Calls Tryd.prog 119 #[.pointer (some ⟨g, 0, none⟩)] w (NumOk w g gb l at_ 1 .i64) := by
  have HR := Lib.hid hr; clear hr
  have hn := num_lt ((l.drop at_).take 1)
  obtain ⟨x, hx⟩ : ∃ x, x = num ((l.drop at_).take 1) := ⟨_, rfl⟩
  have HX := Lib.hid hx
  rw [← hx] at hn
  clear hx
  go_enter Tryd.func119, Tryd.ntmps119
  go_wp2_with fail
  refine (number_ok g gb l at_ 1 _ HR.out hle hl).mono ?_
  rintro e w1 ⟨rfl, hra, hg⟩
  have HG := Lib.hid hg
  have HA := Lib.hid hra
  clear hra hg
  rw [← HX.out]
  go_wp2
  go_ret
  refine ⟨ret_int ?_, HA.out, HG.out⟩
  show (x : Int) = _
  rw [HX.out]

set_option maxHeartbeats 400000 in
theorem u16_ok (g gb : Nat) (l : List UInt8) (at_ : Nat) (w : World) (hr : ReaderAt w g gb l at_ .nilIface) (hle : at_ + 2 ≤ l.length) (hl : l.length ≤ 140737488355328) :
    Calls Tryd.prog 115 #[.pointer (some ⟨g, 0, none⟩)] w (NumOk w g gb l at_ 2 .i64) := by
  have HR := Lib.hid hr; clear hr
  have hn := num_lt ((l.drop at_).take 2)
  obtain ⟨x, hx⟩ : ∃ x, x = num ((l.drop at_).take 2) := ⟨_, rfl⟩
  have HX := Lib.hid hx
  rw [← hx] at hn
  clear hx
  go_enter Tryd.func115, Tryd.ntmps115
  go_wp2_with fail
  refine (number_ok g gb l at_ 2 _ HR.out hle hl).mono ?_
  rintro e w1 ⟨rfl, hra, hg⟩
  have HG := Lib.hid hg
  have HA := Lib.hid hra
  clear hra hg
  rw [← HX.out]
  go_wp2
  go_ret
  refine ⟨ret_int ?_, HA.out, HG.out⟩
  show (x : Int) = _
  rw [HX.out]

/-- A number where too few bytes are left: 0, and the reader has its first error. -/
def NumShort (w : World) (g gb : Nat) (l : List UInt8) (at_ : Nat) (k : IntKind) (e : Ending) (w' : World) : Prop :=
  e = .returned (.int k 0) ∧ ∃ ge, w.heap.size ≤ ge ∧ w'.heap[ge]? = some (faultObj at_ 10) ∧ ReaderAt w' g gb l at_ (faultV ge) ∧ w.grownBy w' (some g)

set_option maxHeartbeats 400000 in
theorem number_short (g gb : Nat) (l : List UInt8) (at_ n : Nat) (w : World) (hr : ReaderAt w g gb l at_ .nilIface) (hle : l.length < at_ + n) (ha : at_ ≤ l.length) (hl : l.length ≤ 140737488355328) :
    Calls Tryd.prog 134 #[.pointer (some ⟨g, 0, none⟩), .int .i64 n] w (NumShort w g gb l at_ .u32) := by
  have HR := Lib.hid hr; clear hr
  go_enter Tryd.func134, Tryd.ntmps134
  go_wp2_with fail
  refine (next_short g gb l at_ n _ HR.out hle ha hl).mono ?_
  rintro e w1 ⟨rfl, hx⟩
  have HX := Lib.hid hx; clear hx
  go_wp2_with fail
  refine wp_loop_rounds 1 ?_
  rw [rounds_succ]
  go_wp2
  go_ret
  exact ⟨rfl, HX.out⟩
theorem number_err (g gb : Nat) (l : List UInt8) (at_ n ge : Nat) (w : World) (hr : ReaderAt w g gb l at_ (faultV ge)) :
    Calls Tryd.prog 134 #[.pointer (some ⟨g, 0, none⟩), .int .i64 n] w fun e w' => e = .returned (.int .u32 0) ∧ ∃ k, w.drewN k = w' := by
  have HR := Lib.hid hr; clear hr
  go_enter Tryd.func134, Tryd.ntmps134
  go_wp2_with fail
  refine (next_err g gb l at_ n ge _ HR.out).mono ?_
  rintro e w1 ⟨rfl, k, rfl⟩
  go_wp2_with fail
  refine wp_loop_rounds 1 ?_
  rw [rounds_succ]
  go_wp2
  go_ret
  exact ⟨rfl, _, rfl⟩
theorem u16_short (g gb : Nat) (l : List UInt8) (at_ : Nat) (w : World) (hr : ReaderAt w g gb l at_ .nilIface) (hle : l.length < at_ + 2) (ha : at_ ≤ l.length) (hl : l.length ≤ 140737488355328) :
    Calls Tryd.prog 115 #[.pointer (some ⟨g, 0, none⟩)] w (NumShort w g gb l at_ .i64) := by
  have HR := Lib.hid hr; clear hr
  go_enter Tryd.func115, Tryd.ntmps115
  go_wp2_with fail
  refine (number_short g gb l at_ 2 _ HR.out hle ha hl).mono ?_
  rintro e w1 ⟨rfl, hx⟩
  have HX := Lib.hid hx; clear hx
  go_wp2
  go_ret
  exact ⟨rfl, HX.out⟩
theorem u16_err (g gb : Nat) (l : List UInt8) (at_ ge : Nat) (w : World) (hr : ReaderAt w g gb l at_ (faultV ge)) :
    Calls Tryd.prog 115 #[.pointer (some ⟨g, 0, none⟩)] w fun e w' => e = .returned (.int .i64 0) ∧ ∃ k, w.drewN k = w' := by
  have HR := Lib.hid hr; clear hr
  go_enter Tryd.func115, Tryd.ntmps115
  go_wp2_with fail
  refine (number_err g gb l at_ 2 ge _ HR.out).mono ?_
  rintro e w1 ⟨rfl, k, rfl⟩
  go_wp2
  go_ret
  exact ⟨rfl, _, rfl⟩

/-- A new reader over the bytes. -/
theorem newReader_any (ao : Option Addr) (n cap : Nat) (l : List UInt8) (w : World) (hl : l.length = n) (hr : Rd w ao l) (hn : n ≤ 140737488355000) :
    Calls Tryd.prog 114 #[.slice ao n cap] w fun e w' => ∃ g gb, e = .returned (.pointer (some ⟨g, 0, none⟩)) ∧ w.heap.size ≤ g ∧ w.heap.size ≤ gb ∧ ReaderAt w' g gb l 0 .nilIface ∧ Below w.heap.size w w' := by
  have HL := Lib.hid hl; have HR := Lib.hid hr; clear hl hr
  go_enter Tryd.func114, Tryd.ntmps114
  go_wp2_with fail
  refine (with_any _ _ _ _ 0 0 l [] _ HL.out rfl HR.out (Rd.nil _ _) (by omega)).mono ?_
  rintro e w1 ⟨gb, rfl, h2, h3, h4⟩
  have H3 := Lib.hid h3; have H4 := Lib.hid h4
  clear h3 h4
  go_wp2
  go_ret
  have h3 := H3.out
  have h4 := H4.out
  have hlt := h3.lt
  rw [List.append_nil] at h3
  refine ⟨w1.heap.size, gb, rfl, h4.size, h2, ⟨?_, ?_⟩, h4.trans ((Below.refl _ _).alloc h4.size _)⟩
  · have := heap_alloc_new w1 (.cells #[.slice (some ⟨gb, 0, none⟩) (l ++ []).length (l ++ []).length, .int .i64 0, .nilIface] 185)
    simpa using this
  · exact h3.below ((Below.refl _ _).alloc (Nat.le_refl _) _) hlt

theorem at_any (g gb : Nat) (l : List UInt8) (at_ : Nat) (ev : Value) (w : World) (hr : ReaderAt w g gb l at_ ev) :
    Calls Tryd.prog 120 #[.pointer (some ⟨g, 0, none⟩)] w fun e w' => e = .returned (.int .i64 at_) ∧ w = w' := by
  obtain ⟨c0, c1, c2, cf⟩ := hr.cells
  clear hr c0
  go_enter Tryd.func120, Tryd.ntmps120
  go_wp2
  go_ret
  exact ⟨rfl, rfl⟩
theorem err_any (g gb : Nat) (l : List UInt8) (at_ : Nat) (ev : Value) (w : World) (hr : ReaderAt w g gb l at_ ev) :
    Calls Tryd.prog 117 #[.pointer (some ⟨g, 0, none⟩)] w fun e w' => e = .returned ev ∧ w = w' := by
  obtain ⟨c0, c1, c2, cf⟩ := hr.cells
  clear hr c0
  go_enter Tryd.func117, Tryd.ntmps117
  go_wp2
  go_ret
  exact ⟨rfl, rfl⟩
end Go.Proofs.YtoophonmonojcaaDoor

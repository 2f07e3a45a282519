/- The shelf of jotterlaw03 as data: lists that were handed out and written over, and what must stand in them. -/
import Derived.Test.YtoophonmonojcaaDoorRefFrame
import Derived.Maps.AppendAt
import Derived.Deep.AppendLies
import Derived.Deep.RegionLaw
namespace Go.Proofs.YtoophonmonojcaaDoor
open Go.RowKit

/-- Of what was there, only the blocks in S may have turned. -/
structure Upd (S : Nat → Prop) (w w' : World) : Prop where
  os : w'.os = w.os
  tape : w'.tape = w.tape
  output : w'.output = w.output
  size : w.heap.size ≤ w'.heap.size
  block : ∀ k, k < w.heap.size → ¬ S k → w'.heap[k]? = w.heap[k]?
theorem Upd.refl (S : Nat → Prop) (w : World) : Upd S w w := ⟨rfl, rfl, rfl, Nat.le_refl _, fun _ _ _ => rfl⟩
theorem Upd.trans {S S' : Nat → Prop} {a b c : World} (h : Upd S a b) (k : Upd S' b c) (hS : ∀ q, q < a.heap.size → S' q → S q) : Upd S a c :=
  ⟨k.os.trans h.os, k.tape.trans h.tape, k.output.trans h.output, Nat.le_trans h.size k.size, fun q hq hn => (k.block q (Nat.lt_of_lt_of_le hq h.size) (fun h' => hn (hS q hq h'))).trans (h.block q hq hn)⟩
theorem Upd.mono {S S' : Nat → Prop} {a b : World} (h : Upd S a b) (hS : ∀ q, S q → S' q) : Upd S' a b := ⟨h.os, h.tape, h.output, h.size, fun q hq hn => h.block q hq fun h' => hn (hS q h')⟩
theorem Upd.of_below {w w' : World} (h : Below w.heap.size w w') (S : Nat → Prop) : Upd S w w' := ⟨h.os, h.tape, h.output, h.size, fun k hk _ => h.block k hk⟩
theorem Upd.of_grown {w w' : World} {r : Option Nat} {S : Nat → Prop} (h : w.grownBy w' r) (hr : ∀ k, r = some k → S k) : Upd S w w' := ⟨h.os, h.tape, h.output, h.size, fun k hk hn => h.block k hk (fun e => hn (hr k e.symm))⟩
theorem Upd.below {S : Nat → Prop} {B : Nat} {w0 w w' : World} (h : Upd S w w') (hS : ∀ k, S k → B ≤ k) (hb : Below B w0 w) (hB : B ≤ w.heap.size) : Below B w0 w' :=
  ⟨h.os.trans hb.os, h.tape.trans hb.tape, h.output.trans hb.output, Nat.le_trans hb.size h.size, fun k hk => (h.block k (by omega) (fun hs => by have := hS k hs; omega)).trans (hb.block k hk)⟩

/-- The value v reads as the bytes p; they lie in rows of bytes whose blocks are in S. -/
def SlS (w : World) (S : Nat → Prop) (v : Value) (p : List UInt8) : Prop :=
  ∃ ao cap, v = .slice ao p.length cap ∧ p.length ≤ cap ∧ Rd w ao p ∧ (ao = none → cap = 0) ∧ (p ≠ [] → ∀ a, ao = some a → S a.block ∧ ∃ cs, w.heap[a.block]? = some (.cells cs 5 (0, 0))) ∧ p.length ≤ 140737488355328
theorem SlS.same {w w' : World} {S : Nat → Prop} {v : Value} {p : List UInt8} (h : SlS w S v p) (hk : ∀ k, k < w.heap.size → S k → w'.heap[k]? = w.heap[k]?) : SlS w' S v p := by
  obtain ⟨ao, cap, h1, h2, h3, h4, h5, h6⟩ := h
  have key : p ≠ [] → ∀ a, ao = some a → w'.heap[a.block]? = w.heap[a.block]? := by
    intro hp a ha
    obtain ⟨b, off, e, hc⟩ := h3 0 (List.length_pos_iff.2 hp)
    rw [ha] at e
    cases e
    exact hk _ (block_lt hc) (h5 hp _ ha).1
  refine ⟨ao, cap, h1, h2, ?_, h4, fun hp a ha => ?_, h6⟩
  · intro i hi
    obtain ⟨b, off, e, hc⟩ := h3 i hi
    exact ⟨b, off, e, (World.cell?_of_block (w := w) (a := ⟨b, off + i, none⟩) (key (fun h => by rw [h] at hi; simp at hi) ⟨b, off, none⟩ e)).trans hc⟩
  · obtain ⟨h6, cs, h7⟩ := h5 hp a ha
    exact ⟨h6, cs, (key hp a ha).trans h7⟩
theorem SlS.mono {w : World} {S S' : Nat → Prop} {v : Value} {p : List UInt8} (h : SlS w S v p) (hS : ∀ k, S k → S' k) : SlS w S' v p := by
  obtain ⟨ao, cap, h1, h2, h3, h4, h5, h6⟩ := h
  exact ⟨ao, cap, h1, h2, h3, h4, fun hp a ha => ⟨hS _ (h5 hp a ha).1, (h5 hp a ha).2⟩, h6⟩
theorem SlS.sl {w : World} {S : Nat → Prop} {v : Value} {p : List UInt8} (h : SlS w S v p) : Sl w v p := by
  obtain ⟨ao, cap, h1, h2, h3, h4, _⟩ := h
  exact ⟨ao, cap, h1, h2, h3, h4⟩
theorem Own.slS {w : World} {B : Nat} {v : Value} {p : List UInt8} {S : Nat → Prop} (h : Own w B v p) (hS : ∀ k, v.ownBlock = some k → S k) (hp : p.length ≤ 140737488355328) : SlS w S v p := by
  have h0 := h
  obtain ⟨ao, cap, e, h1, _, h3, _, _, _⟩ := h.shape
  refine ⟨ao, cap, e, h1, h3, ?_, fun _ a ha => ?_, hp⟩
  · subst e; exact h0.rd.2.2.2.2
  · subst e; subst ha
    refine ⟨hS _ rfl, ?_⟩
    rcases h0.2 with ⟨e, _⟩ | ⟨g, c, cur, e, _, hg, _⟩
    · cases e
    · cases e; exact ⟨cur, hg⟩

/-- The value v is a slice of slices of bytes that the shelf owns. -/
def RowsS (w : World) (S : Nat → Prop) (v : Value) (ps : List (List UInt8)) : Prop :=
  ∃ vs, w.ownsRow 0 27 1 v ps.length vs ∧ vs.length = ps.length ∧ ∀ (i : Nat) (x : Value) (p : List UInt8), vs[i]? = some x → ps[i]? = some p → SlS w S x p
theorem RowsS.nil (w : World) (S : Nat → Prop) : RowsS w S (.slice none 0 0) [] := ⟨[], World.ownsRow_nil w 0 27 1, rfl, fun i x p h => by simp at h⟩
theorem ownsRow_same {w w' : World} {B e size n : Nat} {v : Value} {xs : List Value} (h : w.ownsRow B e size v n xs) (hk : ∀ k, v.ownBlock = some k → w'.heap[k]? = w.heap[k]?) : w'.ownsRow B e size v n xs := by
  obtain ⟨h1, h2⟩ := h
  refine ⟨h1, ?_⟩
  rcases h2 with h2 | ⟨g, cap, cur, rfl, hB, hg, r⟩
  · exact .inl h2
  · exact .inr ⟨g, cap, cur, rfl, hB, (hk g rfl).trans hg, r⟩
theorem RowsS.same {w w' : World} {S : Nat → Prop} {v : Value} {ps : List (List UInt8)} (h : RowsS w S v ps) (hk : ∀ k, k < w.heap.size → S k → w'.heap[k]? = w.heap[k]?) (hv : ∀ k, v.ownBlock = some k → w'.heap[k]? = w.heap[k]?) : RowsS w' S v ps := by
  obtain ⟨vs, h1, h2, h3⟩ := h
  exact ⟨vs, ownsRow_same h1 hv, h2, fun i x p hx hp => (h3 i x p hx hp).same hk⟩
theorem RowsS.mono {w : World} {S S' : Nat → Prop} {v : Value} {ps : List (List UInt8)} (h : RowsS w S v ps) (hS : ∀ k, S k → S' k) : RowsS w S' v ps := by
  obtain ⟨vs, h1, h2, h3⟩ := h
  exact ⟨vs, h1, h2, fun i x p hx hp => (h3 i x p hx hp).mono hS⟩
theorem RowsS.lt {w : World} {S : Nat → Prop} {v : Value} {ps : List (List UInt8)} (h : RowsS w S v ps) : ∀ k, v.ownBlock = some k → k < w.heap.size := by
  obtain ⟨vs, h1, _⟩ := h
  exact fun k hk => (World.ownsRow.lt h1 k hk).2
theorem ownsRow_shape {w : World} {B e n : Nat} {v : Value} {xs : List Value} (h : w.ownsRow B e 1 v n xs) : ∃ ao cap, v = .slice ao n cap ∧ n ≤ cap ∧ (ao = none → n = 0 ∧ cap = 0) ∧ ∀ a, ao = some a → ∃ g, a = ⟨g, 0, none⟩ ∧ ∃ cur, w.heap[g]? = some (.cells cur e (0, 0)) ∧ ∀ i x, xs[i]? = some x → w.cell? ⟨g, i, none⟩ = some x := by
  obtain ⟨h1, h2⟩ := h
  rcases h2 with ⟨rfl, rfl⟩ | ⟨g, cap, cur, rfl, _, hg, hn, _, _, ht⟩
  · exact ⟨none, 0, rfl, Nat.le_refl _, fun _ => ⟨rfl, rfl⟩, fun a h => by cases h⟩
  · refine ⟨some ⟨g, 0, none⟩, cap, rfl, hn, (fun h => by cases h), fun a ha => ?_⟩
    cases ha
    refine ⟨g, rfl, cur, hg, fun i x hx => ?_⟩
    have hi : i < xs.length := (List.getElem?_eq_some_iff.1 hx).1
    have e : cur.toList[i]? = xs[i]? := by rw [← ht, List.getElem?_take, if_pos (by omega)]
    simp only [World.cell?, hg, Option.isSome_none, Bool.false_eq_true, if_false]
    rw [← Array.getElem?_toList, e, hx]
theorem RowsS.read {w : World} {S : Nat → Prop} {v : Value} {ps : List (List UInt8)} (h : RowsS w S v ps) : ∃ ao cap, v = .slice ao ps.length cap ∧ ps.length ≤ cap ∧ RdRows w ao ps ∧ (ao = none → cap = 0) := by
  obtain ⟨vs, h1, h2, h3⟩ := h
  obtain ⟨ao, cap, e, hc, hn, hs⟩ := ownsRow_shape h1
  refine ⟨ao, cap, e, hc, ?_, fun h => (hn h).2⟩
  intro i hi
  cases ao with
  | none => have := (hn rfl).1; omega
  | some a =>
    obtain ⟨g, rfl, cur, _, hcell⟩ := hs a rfl
    have hx : vs[i]? = some (vs[i]'(by omega)) := List.getElem?_eq_getElem (by omega)
    refine ⟨g, 0, vs[i]'(by omega), rfl, by rw [Nat.zero_add]; exact hcell i _ hx, ?_⟩
    exact (h3 i _ _ hx (by rw [List.getD_eq_getElem?_getD, List.getElem?_eq_getElem hi]; rfl)).sl
/-- One more. -/
theorem RowsS.snoc {w w1 : World} {S : Nat → Prop} {v1 pv : Value} {ps : List (List UInt8)} {p : List UInt8} {vs : List Value} (h2 : vs.length = ps.length) (h3 : ∀ (i : Nat) (x : Value) (p : List UInt8), vs[i]? = some x → ps[i]? = some p → SlS w S x p)
    (h : w1.ownsRow 0 27 1 v1 (ps.length + 1) (vs ++ [pv])) (hp : SlS w S pv p) (hk : ∀ k, k < w.heap.size → S k → w1.heap[k]? = w.heap[k]?) : RowsS w1 S v1 (ps ++ [p]) := by
  refine ⟨vs ++ [pv], by simpa using h, by simp [h2], ?_⟩
  intro i y q hy hq
  rcases Nat.lt_or_ge i ps.length with hlt | hge
  · rw [List.getElem?_append_left (by omega)] at hy
    rw [List.getElem?_append_left hlt] at hq
    exact (h3 i y q hy hq).same hk
  · rw [List.getElem?_append_right (by omega)] at hy
    rw [List.getElem?_append_right hge] at hq
    rw [h2] at hy
    obtain ⟨e1, e2⟩ := List.getElem?_eq_some_iff.1 hq
    simp at e1
    have e : i - ps.length = 0 := by omega
    rw [e] at hy hq
    simp at hy hq
    subst hy; subst hq
    exact hp.same hk

/-- A slice of slices of bytes that was handed out. -/
def RSlS (w : World) (S : Nat → Prop) (x : Value) (ps : List (List UInt8)) : Prop :=
  ∃ ao cap, x = .slice ao ps.length cap ∧ ps.length ≤ cap ∧ (ao = none → cap = 0) ∧ ∀ i, i < ps.length → ∃ b off y, ao = some ⟨b, off, none⟩ ∧ S b ∧ w.cell? ⟨b, off + i, none⟩ = some y ∧ SlS w S y (ps.getD i [])
theorem RSlS.same {w w' : World} {S : Nat → Prop} {x : Value} {ps : List (List UInt8)} (h : RSlS w S x ps) (hk : ∀ k, k < w.heap.size → S k → w'.heap[k]? = w.heap[k]?) : RSlS w' S x ps := by
  obtain ⟨ao, cap, h1, h2, h3, h4⟩ := h
  refine ⟨ao, cap, h1, h2, h3, fun i hi => ?_⟩
  obtain ⟨b, off, y, e, hS, hc, hs⟩ := h4 i hi
  exact ⟨b, off, y, e, hS, (World.cell?_of_block (w := w) (a := ⟨b, off + i, none⟩) (hk b (block_lt hc) hS)).trans hc, hs.same hk⟩
theorem RSlS.mono {w : World} {S S' : Nat → Prop} {x : Value} {ps : List (List UInt8)} (h : RSlS w S x ps) (hS : ∀ k, S k → S' k) : RSlS w S' x ps := by
  obtain ⟨ao, cap, h1, h2, h3, h4⟩ := h
  refine ⟨ao, cap, h1, h2, h3, fun i hi => ?_⟩
  obtain ⟨b, off, y, e, hSb, hc, hs⟩ := h4 i hi
  exact ⟨b, off, y, e, hS b hSb, hc, hs.mono hS⟩
theorem RSlS.read {w : World} {S : Nat → Prop} {x : Value} {ps : List (List UInt8)} (h : RSlS w S x ps) : ∃ ao cap, x = .slice ao ps.length cap ∧ ps.length ≤ cap ∧ RdRows w ao ps ∧ (ao = none → cap = 0) ∧ ∀ p ∈ ps, p.length ≤ 140737488355328 := by
  obtain ⟨ao, cap, h1, h2, h3, h4⟩ := h
  refine ⟨ao, cap, h1, h2, fun i hi => ?_, h3, fun p hp => ?_⟩
  · obtain ⟨b, off, y, e, _, hc, hs⟩ := h4 i hi
    exact ⟨b, off, y, e, hc, hs.sl⟩
  · obtain ⟨i, hi, rfl⟩ := List.mem_iff_getElem.1 hp
    obtain ⟨_, _, y, _, _, _, hs⟩ := h4 i hi
    obtain ⟨_, _, _, _, _, _, _, hb⟩ := hs
    rw [List.getD_eq_getElem?_getD, List.getElem?_eq_getElem hi] at hb
    exact hb
def RRowsS (w : World) (S : Nat → Prop) (v : Value) (os : List (List (List UInt8))) : Prop :=
  ∃ vs, w.ownsRow 0 43 1 v os.length vs ∧ vs.length = os.length ∧ ∀ (i : Nat) (x : Value) (ps : List (List UInt8)), vs[i]? = some x → os[i]? = some ps → RSlS w S x ps
theorem RRowsS.nil (w : World) (S : Nat → Prop) : RRowsS w S (.slice none 0 0) [] := ⟨[], World.ownsRow_nil w 0 43 1, rfl, fun i x p h => by simp at h⟩
theorem RRowsS.same {w w' : World} {S : Nat → Prop} {v : Value} {os : List (List (List UInt8))} (h : RRowsS w S v os) (hk : ∀ k, k < w.heap.size → S k → w'.heap[k]? = w.heap[k]?) (hv : ∀ k, v.ownBlock = some k → w'.heap[k]? = w.heap[k]?) : RRowsS w' S v os := by
  obtain ⟨vs, h1, h2, h3⟩ := h
  exact ⟨vs, ownsRow_same h1 hv, h2, fun i x p hx hp => (h3 i x p hx hp).same hk⟩
theorem RRowsS.mono {w : World} {S S' : Nat → Prop} {v : Value} {os : List (List (List UInt8))} (h : RRowsS w S v os) (hS : ∀ k, S k → S' k) : RRowsS w S' v os := by
  obtain ⟨vs, h1, h2, h3⟩ := h
  exact ⟨vs, h1, h2, fun i x p hx hp => (h3 i x p hx hp).mono hS⟩
theorem RRowsS.lt {w : World} {S : Nat → Prop} {v : Value} {os : List (List (List UInt8))} (h : RRowsS w S v os) : ∀ k, v.ownBlock = some k → k < w.heap.size := by
  obtain ⟨vs, h1, _⟩ := h
  exact fun k hk => (World.ownsRow.lt h1 k hk).2

theorem RowsS.at {w : World} {S : Nat → Prop} {v : Value} {ps : List (List UInt8)} (h : RowsS w S v ps) : ∃ ao cap, v = .slice ao ps.length cap ∧ ∀ i, i < ps.length → ∃ g a n c, ao = some ⟨g, 0, none⟩ ∧ w.cell? ⟨g, i, none⟩ = some (.slice a n c) ∧ n = (ps.getD i []).length ∧ Rd w a (ps.getD i []) ∧ n ≤ 140737488355328 ∧ ps.length ≤ cap := by
  obtain ⟨vs, h1, h2, h3⟩ := h
  obtain ⟨ao, cap, e, hc, hn, hs⟩ := ownsRow_shape h1
  refine ⟨ao, cap, e, fun i hi => ?_⟩
  cases ao with
  | none => have := (hn rfl).1; omega
  | some a =>
    obtain ⟨g, rfl, cur, _, hcell⟩ := hs a rfl
    have hx : vs[i]? = some (vs[i]'(by omega)) := List.getElem?_eq_getElem (by omega)
    obtain ⟨a', c', e', _, hr, _, _, hb⟩ := h3 i _ _ hx (show ps[i]? = some (ps.getD i []) by rw [List.getD_eq_getElem?_getD, List.getElem?_eq_getElem hi]; rfl)
    exact ⟨g, a', _, c', rfl, by rw [hcell i _ hx, e'], rfl, hr, hb, hc⟩
theorem RRowsS.at {w : World} {S : Nat → Prop} {v : Value} {os : List (List (List UInt8))} (h : RRowsS w S v os) : ∃ ao cap, v = .slice ao os.length cap ∧ ∀ i, i < os.length → ∃ g a n c, ao = some ⟨g, 0, none⟩ ∧ w.cell? ⟨g, i, none⟩ = some (.slice a n c) ∧ n = (os.getD i []).length ∧ RdRows w a (os.getD i []) ∧ (∀ p ∈ os.getD i [], p.length ≤ 140737488355328) ∧ os.length ≤ cap := by
  obtain ⟨vs, h1, h2, h3⟩ := h
  obtain ⟨ao, cap, e, hc, hn, hs⟩ := ownsRow_shape h1
  refine ⟨ao, cap, e, fun i hi => ?_⟩
  cases ao with
  | none => have := (hn rfl).1; omega
  | some a =>
    obtain ⟨g, rfl, cur, _, hcell⟩ := hs a rfl
    have hx : vs[i]? = some (vs[i]'(by omega)) := List.getElem?_eq_getElem (by omega)
    obtain ⟨a', c', e', _, hr, _, hb⟩ := (h3 i _ _ hx (show os[i]? = some (os.getD i []) by rw [List.getD_eq_getElem?_getD, List.getElem?_eq_getElem hi]; rfl)).read
    exact ⟨g, a', _, c', rfl, by rw [hcell i _ hx, e'], rfl, hr, hb, hc⟩

/-- No two of the shelf's own lists share their memory. -/
def Apart (a b : Value) : Prop := ∀ k, a.ownBlock = some k → b.ownBlock ≠ some k
/-- An own list of the shelf lies in S, outside of E and of the shelf's own variable. -/
def In (S E : Nat → Prop) (gs : Nat) (v : Value) : Prop := ∀ k, v.ownBlock = some k → S k ∧ ¬ E k ∧ k ≠ gs
/-- The shelf: all that it lies in is in S, the lists' bytes in E. -/
structure ShelfIs (w : World) (E S : Nat → Prop) (gs : Nat) (eL eW : List (List UInt8)) (oO oP : List (List (List UInt8))) (mark : Nat) (vL vW vO vP : Value) : Prop where
  cell : w.heap[gs]? = some (.cells #[vL, vW, vO, vP, .int .u8 (mark : Int)] 64 (0, 0))
  mark : mark < 256
  rL : RowsS w E vL eL
  rW : RowsS w E vW eW
  rO : RRowsS w E vO oO
  rP : RRowsS w E vP oP
  gS : S gs
  gE : ¬ E gs
  sub : ∀ k, E k → S k
  lt : ∀ k, S k → k < w.heap.size
  iL : In S E gs vL
  iW : In S E gs vW
  iO : In S E gs vO
  iP : In S E gs vP
  LW : Apart vL vW
  LO : Apart vL vO
  LP : Apart vL vP
  WO : Apart vW vO
  WP : Apart vW vP
  OP : Apart vO vP
theorem Apart.symm {a b : Value} (h : Apart a b) : Apart b a := fun k hb ha => h k ha hb
theorem ShelfIs.same {w w' : World} {E S : Nat → Prop} {gs : Nat} {eL eW : List (List UInt8)} {oO oP : List (List (List UInt8))} {mark : Nat} {vL vW vO vP : Value} (h : ShelfIs w E S gs eL eW oO oP mark vL vW vO vP) (hs : w.heap.size ≤ w'.heap.size) (hk : ∀ k, k < w.heap.size → S k → w'.heap[k]? = w.heap[k]?) : ShelfIs w' E S gs eL eW oO oP mark vL vW vO vP :=
  { h with
    cell := (hk gs (heap_lt h.cell) h.gS).trans h.cell
    lt := fun k hS => Nat.lt_of_lt_of_le (h.lt k hS) hs
    rL := h.rL.same (fun k hl he => hk k hl (h.sub k he)) (fun k hv => hk k (h.rL.lt k hv) (h.iL k hv).1)
    rW := h.rW.same (fun k hl he => hk k hl (h.sub k he)) (fun k hv => hk k (h.rW.lt k hv) (h.iW k hv).1)
    rO := h.rO.same (fun k hl he => hk k hl (h.sub k he)) (fun k hv => hk k (h.rO.lt k hv) (h.iO k hv).1)
    rP := h.rP.same (fun k hl he => hk k hl (h.sub k he)) (fun k hv => hk k (h.rP.lt k hv) (h.iP k hv).1) }
theorem ShelfIs.keep {w w' : World} {E S : Nat → Prop} {gs : Nat} {eL eW : List (List UInt8)} {oO oP : List (List (List UInt8))} {mark : Nat} {vL vW vO vP : Value} (h : ShelfIs w E S gs eL eW oO oP mark vL vW vO vP) (hb : Below w.heap.size w w') : ShelfIs w' E S gs eL eW oO oP mark vL vW vO vP := h.same hb.size fun k hl _ => hb.block k hl
/-- More bytes belong to it. -/
theorem ShelfIs.more {w : World} {E S T : Nat → Prop} {gs : Nat} {eL eW : List (List UInt8)} {oO oP : List (List (List UInt8))} {mark : Nat} {vL vW vO vP : Value} (h : ShelfIs w E S gs eL eW oO oP mark vL vW vO vP) (hT : ∀ k, T k → ¬ S k ∧ k < w.heap.size) : ShelfIs w (fun k => E k ∨ T k) (fun k => S k ∨ T k) gs eL eW oO oP mark vL vW vO vP := by
  have up : ∀ v, In S E gs v → In (fun k => S k ∨ T k) (fun k => E k ∨ T k) gs v := fun v hv k hk => by
    obtain ⟨h1, h2, h3⟩ := hv k hk
    exact ⟨.inl h1, fun hx => hx.elim h2 (fun ht => (hT k ht).1 h1), h3⟩
  exact { h with
    rL := h.rL.mono fun k hk => .inl hk
    rW := h.rW.mono fun k hk => .inl hk
    rO := h.rO.mono fun k hk => .inl hk
    rP := h.rP.mono fun k hk => .inl hk
    gS := .inl h.gS
    gE := fun hx => hx.elim h.gE (fun ht => (hT gs ht).1 h.gS)
    sub := fun k hk => hk.elim (fun h' => .inl (h.sub k h')) .inr
    lt := fun k hk => hk.elim (h.lt k) (fun ht => (hT k ht).2)
    iL := up _ h.iL
    iW := up _ h.iW
    iO := up _ h.iO
    iP := up _ h.iP }
/-- The mark is set. -/
theorem ShelfIs.setMark {w : World} {E S : Nat → Prop} {gs : Nat} {eL eW : List (List UInt8)} {oO oP : List (List (List UInt8))} {mark : Nat} {vL vW vO vP : Value} (h : ShelfIs w E S gs eL eW oO oP mark vL vW vO vP) (mk : Nat) (hm : mk < 256) : ShelfIs (w.setCell ⟨gs, 4, none⟩ (.int .u8 (mk : Int))) E S gs eL eW oO oP mk vL vW vO vP := by
  have hk : ∀ k, k ≠ gs → (w.setCell ⟨gs, 4, none⟩ (.int .u8 (mk : Int))).heap[k]? = w.heap[k]? := fun k hk => Below.heap_setCell _ _ _ _ hk
  have ne : ∀ k, E k → k ≠ gs := fun k he e => h.gE (e ▸ he)
  exact { h with
    cell := by rw [heap_set1 h.cell]; rfl
    mark := hm
    lt := fun k hS => by rw [World.size_setCell]; exact h.lt k hS
    rL := h.rL.same (fun k _ he => hk k (ne k he)) (fun k hv => hk k (h.iL k hv).2.2)
    rW := h.rW.same (fun k _ he => hk k (ne k he)) (fun k hv => hk k (h.iW k hv).2.2)
    rO := h.rO.same (fun k _ he => hk k (ne k he)) (fun k hv => hk k (h.iO k hv).2.2)
    rP := h.rP.same (fun k _ he => hk k (ne k he)) (fun k hv => hk k (h.iP k hv).2.2) }
/-- One more in one of its lists. -/
theorem ShelfIs.setL {w w1 : World} {E S : Nat → Prop} {gs : Nat} {eL eW : List (List UInt8)} {oO oP : List (List (List UInt8))} {mark : Nat} {vL vW vO vP : Value} (h : ShelfIs w E S gs eL eW oO oP mark vL vW vO vP) {vs : List Value} (h2 : vs.length = eL.length) (h3 : ∀ (i : Nat) (x : Value) (p : List UInt8), vs[i]? = some x → eL[i]? = some p → SlS w E x p)
    {pv : Value} {p : List UInt8} {g1 cap1 : Nat} (hown : w1.ownsRow 0 27 1 (.slice (some ⟨g1, 0, none⟩) (eL.length + 1) cap1) (eL.length + 1) (vs ++ [pv])) (hk : ∀ k, k < w.heap.size → some k ≠ vL.ownBlock → w1.heap[k]? = w.heap[k]?) (hs : w.heap.size ≤ w1.heap.size) (hat : vL.ownBlock = some g1 ∨ w.heap.size ≤ g1) (hp : SlS w E pv p) :
    ShelfIs (w1.setCell ⟨gs, 0, none⟩ (.slice (some ⟨g1, 0, none⟩) (eL.length + 1) cap1)) E (fun k => S k ∨ k = g1) gs (eL ++ [p]) eW oO oP mark (.slice (some ⟨g1, 0, none⟩) (eL.length + 1) cap1) vW vO vP := by
  have hgs := heap_lt h.cell
  have hE : ∀ k, k < w.heap.size → E k → w1.heap[k]? = w.heap[k]? := fun k hl he => hk k hl fun e => (h.iL k e.symm).2.1 he
  have hgs1 : w1.heap[gs]? = some (.cells #[vL, vW, vO, vP, .int .u8 (mark : Int)] 64 (0, 0)) := (hk gs hgs fun e => (h.iL gs e.symm).2.2 rfl).trans h.cell
  have hset : ∀ k, k ≠ gs → (w1.setCell ⟨gs, 0, none⟩ (.slice (some ⟨g1, 0, none⟩) (eL.length + 1) cap1)).heap[k]? = w1.heap[k]? := fun k hk => Below.heap_setCell _ _ _ _ hk
  have ne : ∀ k, E k → k ≠ gs := fun k he e => h.gE (e ▸ he)
  have hg1 : g1 < w1.heap.size := (World.ownsRow.lt hown g1 rfl).2
  have hg1E : ¬ E g1 := fun he => hat.elim (fun e => (h.iL g1 e).2.1 he) (fun e => by have := h.lt g1 (h.sub g1 he); omega)
  have hg1s : g1 ≠ gs := fun e => hat.elim (fun e' => (h.iL g1 e').2.2 e) (fun e' => by omega)
  have up : ∀ v, In S E gs v → In (fun k => S k ∨ k = g1) E gs v := fun v hv k hk => ⟨.inl (hv k hk).1, (hv k hk).2⟩
  have ap : ∀ v, Apart vL v → (∀ k, v.ownBlock = some k → k < w.heap.size) → Apart (.slice (some ⟨g1, 0, none⟩) (eL.length + 1) cap1) v := fun v hv hl k hk hb => by
    simp [Value.ownBlock] at hk
    subst hk
    exact hat.elim (fun e => hv g1 e hb) (fun e => by have := hl g1 hb; omega)
  have rows : ∀ v ps, RowsS w E v ps → In S E gs v → Apart vL v → RowsS (w1.setCell ⟨gs, 0, none⟩ (.slice (some ⟨g1, 0, none⟩) (eL.length + 1) cap1)) E v ps := fun v ps hr hi ha =>
    hr.same (fun k hl he => (hset k (ne k he)).trans (hE k hl he)) (fun k hv => (hset k (hi k hv).2.2).trans (hk k (hr.lt k hv) fun e => ha k e.symm hv))
  have rrows : ∀ v ps, RRowsS w E v ps → In S E gs v → Apart vL v → RRowsS (w1.setCell ⟨gs, 0, none⟩ (.slice (some ⟨g1, 0, none⟩) (eL.length + 1) cap1)) E v ps := fun v ps hr hi ha =>
    hr.same (fun k hl he => (hset k (ne k he)).trans (hE k hl he)) (fun k hv => (hset k (hi k hv).2.2).trans (hk k (hr.lt k hv) fun e => ha k e.symm hv))
  have iN : In (fun k => S k ∨ k = g1) E gs (.slice (some ⟨g1, 0, none⟩) (eL.length + 1) cap1) := fun k hk => by
    simp [Value.ownBlock] at hk
    subst hk
    exact ⟨.inr rfl, hg1E, hg1s⟩
  have rN : RowsS (w1.setCell ⟨gs, 0, none⟩ (.slice (some ⟨g1, 0, none⟩) (eL.length + 1) cap1)) E (.slice (some ⟨g1, 0, none⟩) (eL.length + 1) cap1) (eL ++ [p]) := by
    have hr : RowsS w1 E (.slice (some ⟨g1, 0, none⟩) (eL.length + 1) cap1) (eL ++ [p]) := RowsS.snoc h2 h3 hown hp hE
    refine hr.same (fun k _ he => hset k (ne k he)) (fun k hv => ?_)
    simp [Value.ownBlock] at hv
    subst hv
    exact hset _ hg1s
  exact { h with
    cell := by rw [heap_set1 hgs1]; rfl
    gS := .inl h.gS
    sub := fun k he => .inl (h.sub k he)
    lt := fun k hS => by
      rw [World.size_setCell]
      rcases hS with hS | rfl
      · exact Nat.lt_of_lt_of_le (h.lt k hS) hs
      · exact hg1
    rL := rN, rW := rows _ _ h.rW h.iW h.LW, iL := iN, iW := up _ h.iW, LW := ap _ h.LW h.rW.lt, LO := ap _ h.LO h.rO.lt, LP := ap _ h.LP h.rP.lt
    rO := rrows _ _ h.rO h.iO h.LO
    rP := rrows _ _ h.rP h.iP h.LP
    iO := up _ h.iO
    iP := up _ h.iP }
/-- One more in one of its lists. -/
theorem ShelfIs.setW {w w1 : World} {E S : Nat → Prop} {gs : Nat} {eL eW : List (List UInt8)} {oO oP : List (List (List UInt8))} {mark : Nat} {vL vW vO vP : Value} (h : ShelfIs w E S gs eL eW oO oP mark vL vW vO vP) {vs : List Value} (h2 : vs.length = eW.length) (h3 : ∀ (i : Nat) (x : Value) (p : List UInt8), vs[i]? = some x → eW[i]? = some p → SlS w E x p)
    {pv : Value} {p : List UInt8} {g1 cap1 : Nat} (hown : w1.ownsRow 0 27 1 (.slice (some ⟨g1, 0, none⟩) (eW.length + 1) cap1) (eW.length + 1) (vs ++ [pv])) (hk : ∀ k, k < w.heap.size → some k ≠ vW.ownBlock → w1.heap[k]? = w.heap[k]?) (hs : w.heap.size ≤ w1.heap.size) (hat : vW.ownBlock = some g1 ∨ w.heap.size ≤ g1) (hp : SlS w E pv p) :
    ShelfIs (w1.setCell ⟨gs, 1, none⟩ (.slice (some ⟨g1, 0, none⟩) (eW.length + 1) cap1)) E (fun k => S k ∨ k = g1) gs eL (eW ++ [p]) oO oP mark vL (.slice (some ⟨g1, 0, none⟩) (eW.length + 1) cap1) vO vP := by
  have hgs := heap_lt h.cell
  have hE : ∀ k, k < w.heap.size → E k → w1.heap[k]? = w.heap[k]? := fun k hl he => hk k hl fun e => (h.iW k e.symm).2.1 he
  have hgs1 : w1.heap[gs]? = some (.cells #[vL, vW, vO, vP, .int .u8 (mark : Int)] 64 (0, 0)) := (hk gs hgs fun e => (h.iW gs e.symm).2.2 rfl).trans h.cell
  have hset : ∀ k, k ≠ gs → (w1.setCell ⟨gs, 1, none⟩ (.slice (some ⟨g1, 0, none⟩) (eW.length + 1) cap1)).heap[k]? = w1.heap[k]? := fun k hk => Below.heap_setCell _ _ _ _ hk
  have ne : ∀ k, E k → k ≠ gs := fun k he e => h.gE (e ▸ he)
  have hg1 : g1 < w1.heap.size := (World.ownsRow.lt hown g1 rfl).2
  have hg1E : ¬ E g1 := fun he => hat.elim (fun e => (h.iW g1 e).2.1 he) (fun e => by have := h.lt g1 (h.sub g1 he); omega)
  have hg1s : g1 ≠ gs := fun e => hat.elim (fun e' => (h.iW g1 e').2.2 e) (fun e' => by omega)
  have up : ∀ v, In S E gs v → In (fun k => S k ∨ k = g1) E gs v := fun v hv k hk => ⟨.inl (hv k hk).1, (hv k hk).2⟩
  have ap : ∀ v, Apart vW v → (∀ k, v.ownBlock = some k → k < w.heap.size) → Apart (.slice (some ⟨g1, 0, none⟩) (eW.length + 1) cap1) v := fun v hv hl k hk hb => by
    simp [Value.ownBlock] at hk
    subst hk
    exact hat.elim (fun e => hv g1 e hb) (fun e => by have := hl g1 hb; omega)
  have rows : ∀ v ps, RowsS w E v ps → In S E gs v → Apart vW v → RowsS (w1.setCell ⟨gs, 1, none⟩ (.slice (some ⟨g1, 0, none⟩) (eW.length + 1) cap1)) E v ps := fun v ps hr hi ha =>
    hr.same (fun k hl he => (hset k (ne k he)).trans (hE k hl he)) (fun k hv => (hset k (hi k hv).2.2).trans (hk k (hr.lt k hv) fun e => ha k e.symm hv))
  have rrows : ∀ v ps, RRowsS w E v ps → In S E gs v → Apart vW v → RRowsS (w1.setCell ⟨gs, 1, none⟩ (.slice (some ⟨g1, 0, none⟩) (eW.length + 1) cap1)) E v ps := fun v ps hr hi ha =>
    hr.same (fun k hl he => (hset k (ne k he)).trans (hE k hl he)) (fun k hv => (hset k (hi k hv).2.2).trans (hk k (hr.lt k hv) fun e => ha k e.symm hv))
  have iN : In (fun k => S k ∨ k = g1) E gs (.slice (some ⟨g1, 0, none⟩) (eW.length + 1) cap1) := fun k hk => by
    simp [Value.ownBlock] at hk
    subst hk
    exact ⟨.inr rfl, hg1E, hg1s⟩
  have rN : RowsS (w1.setCell ⟨gs, 1, none⟩ (.slice (some ⟨g1, 0, none⟩) (eW.length + 1) cap1)) E (.slice (some ⟨g1, 0, none⟩) (eW.length + 1) cap1) (eW ++ [p]) := by
    have hr : RowsS w1 E (.slice (some ⟨g1, 0, none⟩) (eW.length + 1) cap1) (eW ++ [p]) := RowsS.snoc h2 h3 hown hp hE
    refine hr.same (fun k _ he => hset k (ne k he)) (fun k hv => ?_)
    simp [Value.ownBlock] at hv
    subst hv
    exact hset _ hg1s
  exact { h with
    cell := by rw [heap_set1 hgs1]; rfl
    gS := .inl h.gS
    sub := fun k he => .inl (h.sub k he)
    lt := fun k hS => by
      rw [World.size_setCell]
      rcases hS with hS | rfl
      · exact Nat.lt_of_lt_of_le (h.lt k hS) hs
      · exact hg1
    rW := rN, rL := rows _ _ h.rL h.iL h.LW.symm, iW := iN, iL := up _ h.iL, LW := (ap _ h.LW.symm h.rL.lt).symm, WO := ap _ h.WO h.rO.lt, WP := ap _ h.WP h.rP.lt
    rO := rrows _ _ h.rO h.iO h.WO
    rP := rrows _ _ h.rP h.iP h.WP
    iO := up _ h.iO
    iP := up _ h.iP }
/-- What a call on the shelf leaves. -/
def ShelfPost (w : World) (E S M : Nat → Prop) (gs : Nat) (es : List (List UInt8)) (os : List (List (List UInt8))) (mark : Nat) (w' : World) : Prop :=
  ∃ E' S' vL vW vO vP, ShelfIs w' E' S' gs es es os os mark vL vW vO vP ∧ (∀ k, E k → E' k) ∧ (∀ k, E' k → E k ∨ M k ∨ w.heap.size ≤ k) ∧ (∀ k, S k → S' k) ∧ (∀ k, S' k → S k ∨ M k ∨ w.heap.size ≤ k) ∧ Upd (fun k => S k ∨ M k) w w'
end Go.Proofs.YtoophonmonojcaaDoor

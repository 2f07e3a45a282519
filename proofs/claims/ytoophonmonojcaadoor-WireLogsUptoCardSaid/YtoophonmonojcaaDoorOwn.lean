/- Byte slices that the call itself owns: what append leaves of them. -/
import Derived.Test.YtoophonmonojcaaDoorIs
import Derived.Test.YtoophonmonojcaaDoorNumber
import Derived.Laws.AppendOwnNone
namespace Go.Proofs.YtoophonmonojcaaDoor
open Go.RowKit

theorem Rd.at {w : World} {b off : Nat} {l : List UInt8} (h : Rd w (Option.some ⟨b, off, none⟩) l) (k m : Nat) (hk : k + m ≤ l.length) : Rd w (Option.some ⟨b, off + k, none⟩) ((l.drop k).take m) := by
  refine Rd.mk fun i hi => ?_
  simp only [List.length_take, List.length_drop] at hi
  obtain ⟨b', off', e, hc⟩ := h (k + i) (by omega)
  cases e
  rw [Nat.add_assoc, hc]
  simp [List.getD_eq_getElem?_getD, show i < m by omega]
theorem Rd.take {w : World} {ao : Option Addr} {l : List UInt8} (h : Rd w ao l) (m : Nat) : Rd w ao (l.take m) := by
  intro i hi
  simp only [List.length_take] at hi
  obtain ⟨b, off, e, hc⟩ := h i (by omega)
  refine ⟨b, off, e, ?_⟩
  rw [hc]
  simp [List.getD_eq_getElem?_getD, show i < m by omega]
theorem Rd.cut {w : World} {b off : Nat} {l : List UInt8} (h : Rd w (Option.some ⟨b, off, none⟩) l) (k : Nat) : Rd w (Option.some ⟨b, off + k, none⟩) (l.drop k) := by
  refine Rd.mk fun i hi => ?_
  simp only [List.length_drop] at hi
  obtain ⟨b', off', e, hc⟩ := h (k + i) (by omega)
  cases e
  rw [Nat.add_assoc, hc]
  simp [List.getD_eq_getElem?_getD]

/-- The value v owns the bytes l in blocks from B on. -/
def Own (w : World) (B : Nat) (v : Value) (l : List UInt8) : Prop := w.ownsRow B 5 1 v l.length (l.map bv)
theorem Own.nil (w : World) (B : Nat) : Own w B (.slice none 0 0) [] := World.ownsRow_nil w B 5 1
theorem Row.own {w : World} {g B : Nat} {l : List UInt8} (h : Row w g l) (hB : B ≤ g) (hl : l.length ≤ maxLen) : Own w B (.slice (some ⟨g, 0, none⟩) l.length l.length) l :=
  ⟨by simp, .inr ⟨g, l.length, _, rfl, hB, h, Nat.le_refl _, hl, by simp, by rw [List.toList_toArray, Nat.mul_one, List.take_of_length_le (by simp)]⟩⟩
theorem Own.shape {w : World} {B : Nat} {v : Value} {l : List UInt8} (h : Own w B v l) :
    ∃ ao cap, v = .slice ao l.length cap ∧ l.length ≤ cap ∧ cap ≤ maxLen ∧ Rd w ao l ∧ (∀ a, ao = some a → B ≤ a.block ∧ a.block < w.heap.size) ∧ (ao = none → l = []) ∧ ∀ a, ao = some a → ∃ g, a = ⟨g, 0, none⟩ := by
  obtain ⟨h1, h2⟩ := h
  rcases h2 with ⟨rfl, h0⟩ | ⟨g, cap, cur, rfl, hB, hg, hn, hm, hs, ht⟩
  · have : l = [] := List.eq_nil_of_length_eq_zero h0
    subst this
    exact ⟨none, 0, rfl, Nat.le_refl _, Nat.zero_le _, Rd.nil _ _, (fun a h => by cases h), (fun _ => rfl), (fun a h => by cases h)⟩
  · refine ⟨some ⟨g, 0, none⟩, cap, rfl, hn, hm, ?_, ?_, (fun h => by cases h), fun a h => by cases h; exact ⟨g, rfl⟩⟩
    · refine Rd.mk fun i hi => ?_
      have e : cur.toList[i]? = (l.map bv)[i]? := by
        rw [← ht, List.getElem?_take, if_pos (by omega)]
      rw [List.getElem?_map, List.getElem?_eq_getElem hi] at e
      simp only [Option.map_some] at e
      rw [Nat.zero_add]
      simp only [World.cell?, hg, Option.isSome_none, Bool.false_eq_true, if_false]
      rw [← Array.getElem?_toList, e]
      simp [bv, List.getD_eq_getElem?_getD, List.getElem?_eq_getElem hi]
    · intro a ha
      cases ha
      exact ⟨hB, heap_lt hg⟩
theorem Own.keep {w w' : World} {B : Nat} {v : Value} {l : List UInt8} (h : Own w B v l) (hb : Below w.heap.size w w') : Own w' B v l := by
  obtain ⟨h1, h2⟩ := h
  refine ⟨h1, ?_⟩
  rcases h2 with h2 | ⟨g, cap, cur, hv, hB, hg, r⟩
  · exact .inl h2
  · exact .inr ⟨g, cap, cur, hv, hB, (hb.block g (heap_lt hg)).trans hg, r⟩

theorem Own.rd {w : World} {B n cap : Nat} {ao : Option Addr} {l : List UInt8} (h : Own w B (.slice ao n cap) l) : l.length = n ∧ n ≤ cap ∧ cap ≤ maxLen ∧ Rd w ao l ∧ (ao = none → cap = 0) := by
  have h0 := h
  obtain ⟨ao', cap', e, h1, h2, h3, _, _⟩ := h.shape
  cases e
  refine ⟨rfl, h1, h2, h3, fun hn => ?_⟩
  subst hn
  rcases h0.2 with ⟨e, _⟩ | ⟨g, _, _, e, _⟩
  · injection e
  · injection e with e1; cases e1
theorem bv_cells {w : World} {b off : Nat} {m : List UInt8} (hc : ∀ i, i < m.length → w.cell? ⟨b, off + i, none⟩ = some (.int .u8 ((m.getD i 0).toNat : Int))) :
    ∀ j u, (m.map bv)[j]? = some u → w.cell? ((⟨b, off, none⟩ : Addr).add j) = some u := by
  intro j u hj
  obtain ⟨hj1, hj2⟩ := List.getElem?_eq_some_iff.1 hj
  rw [List.length_map] at hj1
  have := hc j hj1
  simp only [List.getElem_map] at hj2
  subst hj2
  rw [show (Addr.mk b off none).add j = ⟨b, off + j, none⟩ by unfold Addr.add; split <;> simp_all, this]
  simp [bv, List.getD_eq_getElem?_getD, List.getElem?_eq_getElem hj1]

/-- 'b = append(b, f...)', b the call's own. -/
theorem wpList_appendB {w : World} {ops : Array Oper} {rest : List Oper} {o : Oper} {a : Act} {Q : Exit → Act → World → Prop} (hgd : o.guard = none) (s x : Operand)
    (ho : o.op = .call { callee := .builtin .append, args := #[s, x], argTypes := #[27, 27] })
    (B : Nat) (v : Value) (l m : List UInt8) (hs : a.eval s = v) (hown : Own w B v l) (ao : Option Addr) (n2 c2 : Nat) (hx : a.eval x = .slice ao n2 c2) (hnil : ao = none → c2 = 0) (hm : m.length = n2) (hr : Rd w ao m)
    (hle : l.length + n2 ≤ 140737488355328) (hB : B ≤ w.heap.size)
    (h : ∀ v' w', Own w' B v' (l ++ m) → w.grownBy w' v.ownBlock → wpList Tryd.prog ops Q rest (a.put o.dst v') w') : wpList Tryd.prog ops Q (o :: rest) a w := by
  obtain ⟨i0, hi, hz0, hz1, hz2⟩ := info_parts Tryd.infoU8
  subst hm
  rcases Nat.eq_zero_or_pos m.length with h0 | h0
  · obtain rfl : m = [] := List.eq_nil_of_length_eq_zero h0
    cases ao with
    | none =>
      obtain rfl := hnil rfl
      refine wpList_append_own_none hgd s x 27 ho B 5 i0 1 Tryd.underlying27 hi v l.length (l.map bv) hs hown hx ?_
      exact h v w (by rw [List.append_nil]; exact hown) (World.grownBy.refl _ _)
    | some ad =>
      refine wpList_append_own _ hgd s x 27 ho B 5 i0 (.int .u8 0) 1 1 Tryd.underlying27 hi hz0 hz1 hz2 rfl (by decide) v l.length (l.map bv) hs hown ad 0 c2 [] hx rfl (fun j u h => by cases h) (fun u h => by cases h) (by unfold maxLen; simp at hle; omega) (by simp at hle; omega) hB ?_
      intro v' w' h1 h2 _
      refine h v' w' ?_ h2
      rw [List.append_nil]; simpa [Own] using h1
  · obtain ⟨b, off, rfl, _, hc⟩ := hr.some h0
    refine wpList_append_own _ hgd s x 27 ho B 5 i0 (.int .u8 0) 1 1 Tryd.underlying27 hi hz0 hz1 hz2 rfl (by decide) v l.length (l.map bv) hs hown ⟨b, off, none⟩ m.length c2 (m.map bv) hx (by simp) (bv_cells hc) (oneCell_bv m) (by unfold maxLen; omega) (by omega) hB ?_
    intro v' w' h1 h2 _
    refine h v' w' ?_ h2
    simpa [Own] using h1

/-- The same where something is there behind it: the value's shape is known. -/
theorem wpList_appendB1 {w : World} {ops : Array Oper} {rest : List Oper} {o : Oper} {a : Act} {Q : Exit → Act → World → Prop} (hgd : o.guard = none) (s x : Operand)
    (ho : o.op = .call { callee := .builtin .append, args := #[s, x], argTypes := #[27, 27] })
    (B : Nat) (v : Value) (l m : List UInt8) (hs : a.eval s = v) (hown : Own w B v l) (ao : Option Addr) (n2 c2 : Nat) (hx : a.eval x = .slice ao n2 c2) (hnil : ao = none → c2 = 0) (hm : m.length = n2) (hr : Rd w ao m)
    (hle : l.length + n2 ≤ 140737488355328) (hB : B ≤ w.heap.size) (hpos : 0 < l.length + n2) (n : Nat) (hn : n = l.length + n2)
    (h : ∀ g cap w', Own w' B (.slice (some ⟨g, 0, none⟩) n cap) (l ++ m) → w.grownBy w' v.ownBlock → wpList Tryd.prog ops Q rest (a.put o.dst (.slice (some ⟨g, 0, none⟩) n cap)) w') : wpList Tryd.prog ops Q (o :: rest) a w := by
  refine wpList_appendB hgd s x ho B v l m hs hown ao n2 c2 hx hnil hm hr hle hB ?_
  intro v' w' h1 h2
  obtain ⟨ao', cap, e, _, _, _, _, h0, hg⟩ := h1.shape
  have hlen : (l ++ m).length = n := by simp; omega
  cases ao' with
  | none => have := h0 rfl; rw [this] at hlen; simp at hlen; omega
  | some ad =>
    obtain ⟨g, rfl⟩ := hg ad rfl
    rw [hlen] at e
    subst e
    exact h g cap w' h1 h2

/-- Behind a law of growth: what lay below B is as it was. -/
theorem Own.grown {w w0 w' : World} {B : Nat} {v : Value} {l : List UInt8} (h : Own w B v l) (hb : Below B w0 w) (hB : B ≤ w.heap.size) (hg : w.grownBy w' v.ownBlock) : Below B w0 w' := by
  refine hb.grown hg hB fun k hk => ?_
  obtain ⟨ao, cap, rfl, _, _, _, h3, _⟩ := h.shape
  cases ao with
  | none => cases hk
  | some ad => simp [Value.ownBlock] at hk; subst hk; exact (h3 ad rfl).1
end Go.Proofs.YtoophonmonojcaaDoor

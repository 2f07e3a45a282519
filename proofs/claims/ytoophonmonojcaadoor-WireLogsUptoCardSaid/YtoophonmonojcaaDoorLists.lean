/- Slices of byte slices that the call itself owns; the scan as a function on bytes; the contract of wal.record in one piece. -/
import Derived.Test.YtoophonmonojcaaDoorRecord
import Derived.Deep.LoopGhost
import Derived.WalkMore
namespace Go.Proofs.YtoophonmonojcaaDoor
open Go.RowKit

/-- The value v is a slice of bytes that holds p: of old memory (below block L), or in a row of bytes from B on. -/
def Elem (w : World) (L B : Nat) (v : Value) (p : List UInt8) : Prop :=
  ∃ ao cap, v = .slice ao p.length cap ∧ p.length ≤ cap ∧ Rd w ao p ∧ (ao = none → cap = 0) ∧ (p ≠ [] → ∀ a, ao = some a → a.block < L ∨ (B ≤ a.block ∧ ∃ cs, w.heap[a.block]? = some (.cells cs 5 (0, 0))))
/-- Where the blocks that its bytes lie in are as they were. -/
theorem Elem.same {w w' : World} {L B : Nat} {v : Value} {p : List UInt8} (h : Elem w L B v p) (hk : ∀ k, k < w.heap.size → (k < L ∨ ∃ cs, w.heap[k]? = some (.cells cs 5 (0, 0))) → w'.heap[k]? = w.heap[k]?) : Elem w' L B v p := by
  obtain ⟨ao, cap, h1, h2, h3, h4, h5⟩ := h
  have key : p ≠ [] → ∀ a, ao = some a → w'.heap[a.block]? = w.heap[a.block]? := by
    intro hp a ha
    obtain ⟨b, off, e, hc⟩ := h3 0 (List.length_pos_iff.2 hp)
    rw [ha] at e
    cases e
    rcases h5 hp _ ha with h6 | ⟨_, h6⟩
    · exact hk _ (block_lt hc) (.inl h6)
    · exact hk _ (block_lt hc) (.inr h6)
  refine ⟨ao, cap, h1, h2, ?_, h4, fun hp a ha => ?_⟩
  · intro i hi
    obtain ⟨b, off, e, hc⟩ := h3 i hi
    exact ⟨b, off, e, (World.cell?_of_block (w := w) (a := ⟨b, off + i, none⟩) (key (fun h => by rw [h] at hi; simp at hi) ⟨b, off, none⟩ e)).trans hc⟩
  · rcases h5 hp a ha with h6 | ⟨h6, cs, h7⟩
    · exact .inl h6
    · exact .inr ⟨h6, cs, (key hp a ha).trans h7⟩
theorem Elem.keep {w w' : World} {L B : Nat} {v : Value} {p : List UInt8} (h : Elem w L B v p) (hb : Below w.heap.size w w') : Elem w' L B v p := h.same fun k hk _ => hb.block k hk
/-- Where one block from B on that is no row of bytes may have turned. -/
theorem Elem.grown {w w' : World} {L B : Nat} {v : Value} {p : List UInt8} (h : Elem w L B v p) (hL : L ≤ B) {r : Option Nat} (hg : w.grownBy w' r) (hr : ∀ g, r = some g → B ≤ g ∧ ∃ cs t fr, w.heap[g]? = some (.cells cs t fr) ∧ t ≠ 5) : Elem w' L B v p := by
  refine h.same fun k hk hor => hg.block k hk fun e => ?_
  obtain ⟨hB, cs', t, fr, h6, h7⟩ := hr _ e.symm
  rcases hor with hor | ⟨cs, hcs⟩
  · omega
  · rw [hcs] at h6
    cases h6
    exact h7 rfl

/-- The value v owns the lists ps. -/
def OwnRows (w : World) (L B : Nat) (v : Value) (ps : List (List UInt8)) : Prop :=
  ∃ vs, w.ownsRow B 27 1 v ps.length vs ∧ vs.length = ps.length ∧ ∀ (i : Nat) (x : Value) (p : List UInt8), vs[i]? = some x → ps[i]? = some p → Elem w L B x p
theorem OwnRows.nil (w : World) (L B : Nat) : OwnRows w L B (.slice none 0 0) [] := ⟨[], World.ownsRow_nil w B 27 1, rfl, fun i x p h => by simp at h⟩
theorem ownsRow_keep {w w' : World} {B e size n : Nat} {v : Value} {xs : List Value} (h : w.ownsRow B e size v n xs) (hb : Below w.heap.size w w') : w'.ownsRow B e size v n xs := by
  obtain ⟨h1, h2⟩ := h
  refine ⟨h1, ?_⟩
  rcases h2 with h2 | ⟨g, cap, cur, hv, hB, hg, r⟩
  · exact .inl h2
  · exact .inr ⟨g, cap, cur, hv, hB, (hb.block g (heap_lt hg)).trans hg, r⟩
theorem OwnRows.keep {w w' : World} {L B : Nat} {v : Value} {ps : List (List UInt8)} (h : OwnRows w L B v ps) (hb : Below w.heap.size w w') : OwnRows w' L B v ps := by
  obtain ⟨vs, h1, h2, h3⟩ := h
  exact ⟨vs, ownsRow_keep h1 hb, h2, fun i x p hx hp => (h3 i x p hx hp).keep hb⟩
theorem OwnRows.shape {w : World} {L B : Nat} {v : Value} {ps : List (List UInt8)} (h : OwnRows w L B v ps) :
    ∃ ao cap, v = .slice ao ps.length cap ∧ ps.length ≤ cap ∧ (ao = none → ps = [] ∧ cap = 0) ∧ ∀ a, ao = some a → ∃ g, a = ⟨g, 0, none⟩ ∧ B ≤ g ∧ ∃ cur, w.heap[g]? = some (.cells cur 27 (0, 0)) ∧ ∀ (i : Nat) (p : List UInt8), ps[i]? = some p → ∃ x, w.cell? ⟨g, i, none⟩ = some x ∧ Elem w L B x p := by
  obtain ⟨vs, h1, h2, h3⟩ := h
  rcases h1.2 with ⟨rfl, h0⟩ | ⟨g, cap, cur, rfl, hB, hg, hn, hm, hs, ht⟩
  · have : ps = [] := List.eq_nil_of_length_eq_zero h0
    subst this
    exact ⟨none, 0, rfl, Nat.le_refl _, fun _ => ⟨rfl, rfl⟩, fun a h => by cases h⟩
  · refine ⟨some ⟨g, 0, none⟩, cap, rfl, hn, (fun h => by cases h), fun a ha => ?_⟩
    cases ha
    refine ⟨g, rfl, hB, cur, hg, fun i p hp => ?_⟩
    have hi : i < vs.length := by rw [h2]; exact (List.getElem?_eq_some_iff.1 hp).1
    refine ⟨vs[i], ?_, h3 i _ p (List.getElem?_eq_getElem hi) hp⟩
    have e : cur.toList[i]? = vs[i]? := by
      rw [← ht, List.getElem?_take, if_pos (by omega)]
    simp only [World.cell?, hg, Option.isSome_none, Bool.false_eq_true, if_false]
    rw [← Array.getElem?_toList, e, List.getElem?_eq_getElem hi]
theorem OwnRows.cellsAre {w : World} {L B : Nat} {v : Value} {ps : List (List UInt8)} (h : OwnRows w L B v ps) : ∀ g, v.ownBlock = some g → B ≤ g ∧ ∃ cs t fr, w.heap[g]? = some (.cells cs t fr) ∧ t ≠ 5 := by
  intro g hg
  obtain ⟨vs, h1, _, _⟩ := h
  rcases h1.2 with ⟨rfl, _⟩ | ⟨g', cap, cur, rfl, hB, hg', _⟩
  · simp [Value.ownBlock] at hg
  · simp [Value.ownBlock] at hg; subst hg; exact ⟨hB, _, _, _, hg', by decide⟩
theorem OwnRows.grown {w w0 w' : World} {L B : Nat} {v : Value} {ps : List (List UInt8)} (h : OwnRows w L B v ps) (hb : Below B w0 w) (hB : B ≤ w.heap.size) (hg : w.grownBy w' v.ownBlock) : Below B w0 w' := by
  refine hb.grown hg hB fun k hk => ?_
  obtain ⟨vs, h1, _, _⟩ := h
  rcases h1.2 with ⟨rfl, _⟩ | ⟨g', cap, cur, rfl, hB', hg', _⟩
  · simp [Value.ownBlock] at hk
  · simp [Value.ownBlock] at hk; subst hk; exact hB'

/-- 'list = append(list, p)', list the call's own, p a slice of bytes of the call's own: p's value lies in a block of its own just ahead. -/
theorem wpList_appendRow {w : World} {ops : Array Oper} {rest : List Oper} {o : Oper} {a : Act} {Q : Exit → Act → World → Prop} (hgd : o.guard = none) (s x : Operand)
    (ho : o.op = .call { callee := .builtin .append, args := #[s, x], argTypes := #[43, 43] })
    (L B : Nat) (hL : L ≤ B) (v : Value) (ps : List (List UInt8)) (hs : a.eval s = v) (hown : OwnRows w L B v ps) (ad : Addr) (c2 : Nat) (hx : a.eval x = .slice (some ad) 1 c2) (pv : Value) (p : List UInt8) (hcell : w.cell? ad = some pv) (hel : Elem w L B pv p)
    (hle : (ps.length + 1) * 24 ≤ 140737488355328) (hB : B ≤ w.heap.size)
    (h : ∀ v' w', OwnRows w' L B v' (ps ++ [p]) → w.grownBy w' v.ownBlock → wpList Tryd.prog ops Q rest (a.put o.dst v') w') : wpList Tryd.prog ops Q (o :: rest) a w := by
  obtain ⟨i0, hi, hz0, hz1, hz2⟩ := info_parts Tryd.infoBytes
  have hOR := hown
  obtain ⟨vs, h1, h2, h3⟩ := hown
  refine wpList_append_own _ hgd s x 43 ho B 27 i0 (.slice none 0 0) 1 24 Tryd.underlying43 hi hz0 hz1 hz2 rfl (by decide) v ps.length vs hs h1 ad 1 c2 [pv] hx rfl ?_ ?_ (by unfold maxLen; omega) hle hB ?_
  · intro j u hj
    match j, hj with
    | 0, hj => simp at hj; subst hj; simpa [Addr.add] using hcell
  · intro u hu
    simp at hu
    subst hu
    obtain ⟨ao, cap, rfl, _⟩ := hel
    rfl
  · intro v' w' h4 h5 _
    refine h v' w' ⟨vs ++ [pv], by simpa using h4, by simp [h2], ?_⟩ h5
    intro i y q hy hq
    rcases Nat.lt_or_ge i ps.length with hlt | hge
    · rw [List.getElem?_append_left (by omega)] at hy
      rw [List.getElem?_append_left hlt] at hq
      exact (h3 i y q hy hq).grown hL h5 hOR.cellsAre
    · rw [List.getElem?_append_right (by omega)] at hy
      rw [List.getElem?_append_right hge] at hq
      rw [h2] at hy
      obtain ⟨e1, e2⟩ := List.getElem?_eq_some_iff.1 hq
      simp at e1
      have e : i - ps.length = 0 := by omega
      rw [e] at hy hq
      simp at hy hq
      subst hy; subst hq
      exact hel.grown hL h5 hOR.cellsAre

/-! ### The scan -/
theorem recLen_pos {q : List UInt8} (h : recCode q = 0) : q ≠ [] := by
  rintro rfl
  simp [recCode] at h
/-- The payloads of the good part, its length, and the reason why it ends (0: none). -/
def scan (l : List UInt8) : List (List UInt8) × Nat × Nat :=
  if l = [] then ([], 0, 0)
  else if recCode l = 0 then
    let r := scan (l.drop (recLen l + 8))
    (recPay l :: r.1, recLen l + 8 + r.2.1, r.2.2)
  else ([], 0, recCode l)
termination_by l.length
decreasing_by
  rename_i h _
  have : l.length ≠ 0 := fun e => h (List.eq_nil_of_length_eq_zero e)
  simp only [List.length_drop]
  omega

theorem scan_nil : scan [] = ([], 0, 0) := by rw [scan]; simp
theorem scan_ok {q : List UInt8} (h : recCode q = 0) : scan q = (recPay q :: (scan (q.drop (recLen q + 8))).1, recLen q + 8 + (scan (q.drop (recLen q + 8))).2.1, (scan (q.drop (recLen q + 8))).2.2) := by
  rw [scan, if_neg (recLen_pos h), if_pos h]
theorem scan_bad {q : List UInt8} (h0 : q ≠ []) (h : recCode q ≠ 0) : scan q = ([], 0, recCode q) := by
  rw [scan, if_neg h0, if_neg h]
theorem recCode_ok {q : List UInt8} (h : recCode q = 0) : 1 ≤ recLen q ∧ recLen q ≤ 64 ∧ recLen q + 8 ≤ q.length ∧ headOk q ∧ sumOk q := by
  unfold recCode at h
  by_cases h1 : q.length < 4
  · rw [if_pos h1] at h; cases h
  rw [if_neg h1] at h
  by_cases h2 : headOk q
  · rw [if_neg (by simpa using h2)] at h
    by_cases h3 : q.length < recLen q + 8
    · rw [if_pos h3] at h; cases h
    rw [if_neg h3] at h
    by_cases h4 : sumOk q
    · exact ⟨h2.2.1, h2.2.2, by omega, h2, h4⟩
    · rw [if_pos h4] at h; cases h
  · rw [if_pos h2] at h; cases h
theorem recPay_length {q : List UInt8} (h : recCode q = 0) : (recPay q).length = recLen q := by
  have := recCode_ok h
  simp [recPay]; omega
/-- The payload that wal.record hands back, as an element. -/
theorem recOk_elem {w' : World} {q : List UInt8} {g B : Nat} (h : recCode q = 0) (hr : Row w' g (q.take (recLen q + 4))) (hB : B ≤ g) : Elem w' 0 B (.slice (some ⟨g, 4, none⟩) (recLen q) (recLen q)) (recPay q) := by
  have hl := recPay_length h
  refine ⟨some ⟨g, 4, none⟩, recLen q, by rw [hl], by omega, ?_, (fun h => by cases h), fun _ a ha => ?_⟩
  · have h1 := hr.rd.cut 4
    have e : (q.take (recLen q + 4)).drop 4 = recPay q := by rw [List.drop_take, recPay]; congr 1
    rw [e] at h1
    simpa using h1
  · cases ha; exact .inr ⟨hB, _, hr⟩

/-- What wal.record answers, in one piece. -/
def Recorded (w : World) (q : List UInt8) (at_ : Nat) (e : Ending) (w' : World) : Prop :=
  (recCode q = 0 ∧ RecOk w q e w') ∨ (recCode q ≠ 0 ∧ RecBad w at_ (recCode q) e w')
theorem record_any (b off n cap at_ : Nat) (l : List UInt8) (w : World) (hl : l.length = n) (hr : Rd w (some ⟨b, off, none⟩) l) (hat : at_ < n) (hcap : n ≤ cap) (hb : n ≤ 140737488355000) (ht : Tab w) :
    Calls Tryd.prog 80 #[.slice (some ⟨b, off, none⟩) n cap, .int .i64 at_] w (Recorded w (l.drop at_) at_) := by
  have hql : (l.drop at_).length = n - at_ := by simp; omega
  rcases Nat.lt_or_ge n (at_ + 4) with h4 | h4
  · refine (record_short b off n cap at_ l w hl hr hat hcap hb h4).mono fun e w' h => .inr ?_
    have : recCode (l.drop at_) = 32 := by rw [recCode, if_pos (by omega)]
    rw [this]
    exact ⟨by decide, h⟩
  · have h5 : ¬ (l.drop at_).length < 4 := by omega
    refine record_long b off n cap at_ l w hl hr h4 hcap hb ht _ ?_ ?_ ?_ ?_
    · intro h1 e w' h
      have : recCode (l.drop at_) = 31 := by rw [recCode, if_neg h5, if_pos h1]
      exact .inr (by rw [this]; exact ⟨by decide, h⟩)
    · intro h1 h2 e w' h
      have : recCode (l.drop at_) = 32 := by rw [recCode, if_neg h5, if_neg (by simpa using h1), if_pos (by omega)]
      exact .inr (by rw [this]; exact ⟨by decide, h⟩)
    · intro h1 h2 h3 e w' h
      have : recCode (l.drop at_) = 33 := by rw [recCode, if_neg h5, if_neg (by simpa using h1), if_neg (by omega), if_pos h3]
      exact .inr (by rw [this]; exact ⟨by decide, h⟩)
    · intro h1 h2 h3 e w' h
      have : recCode (l.drop at_) = 0 := by rw [recCode, if_neg h5, if_neg (by simpa using h1), if_neg (by omega), if_neg (by simpa using h3)]
      exact .inl ⟨this, h⟩
end Go.Proofs.YtoophonmonojcaaDoor

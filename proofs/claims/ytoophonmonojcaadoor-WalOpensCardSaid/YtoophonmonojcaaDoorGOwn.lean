/- Several texts laid as one, in this order: Code, Is, Own, Frame. -/
import Derived.Test.YtoophonmonojcaaDoorGErr
import Derived.Test.YtoophonmonojcaaDoorGOct
import Derived.Laws.AppendOwnNone
/- Contracts of api.Code, api.Place and errors.Is at the errors of this program. -/
namespace Go.Proofs.YtoophonmonojcaaDoor
open Go.RowKit Go.Extern.Stop Go.Stop Go.Extern

/-- The call hands back v; nothing that was there has turned. -/
def RetV (w : World) (v : Value) (e : Ending) (w' : World) : Prop := e = .returned v ∧ Below w.heap.size w w'

/-- An error of this program: nil; a number; a number with its place. -/
def ErrIs (w : World) (ev : Value) (code at_ : Int) : Prop :=
  (ev = .nilIface ∧ code = 0 ∧ at_ = -1) ∨ (ev = .iface 49 (.int .i64 code) ∧ at_ = -1) ∨ ∃ g, ev = faultV g ∧ w.heap[g]? = some (faultObj at_ code)
theorem ErrIs.nil (w : World) : ErrIs w .nilIface 0 (-1) := .inl ⟨rfl, rfl, rfl⟩
theorem ErrIs.step {w w' : World} {ev : Value} {c a : Int} (h : ErrIs w ev c a) (hb : Below w.heap.size w w') : ErrIs w' ev c a := by
  rcases h with h | h | ⟨g, h1, h2⟩
  · exact .inl h
  · exact .inr (.inl h)
  · refine .inr (.inr ⟨g, h1, ?_⟩)
    have hgl : g < w.heap.size := by
      rcases Nat.lt_or_ge g w.heap.size with h | h
      · exact h
      · rw [Array.getElem?_eq_none h] at h2; cases h2
    exact (hb.block g hgl).trans h2
theorem RetV.after {w w1 : World} {v : Value} {e : Ending} {w' : World} (hb : Below w.heap.size w w1) (h : RetV w1 v e w') : RetV w v e w' := ⟨h.1, hb.trans (h.2.mono hb.size)⟩

theorem heap_lt {w : World} {g : Nat} {o : Obj} (h : w.heap[g]? = some o) : g < w.heap.size := by
  rcases Nat.lt_or_ge g w.heap.size with h' | h'
  · exact h'
  · rw [Array.getElem?_eq_none h'] at h; cases h

/-- The target is a new variable. -/
theorem AsHit.fresh {w : World} {x v : Value} {T : TypeId} {e : Ending} {w' : World} (h : AsHit (w.alloc (.cells #[x] T)) ⟨w.heap.size, 0, none⟩ v e w') :
    e = .returned (.bool true) ∧ Hid (w'.cell? ⟨w.heap.size, 0, none⟩ = some v) ∧ Below w.heap.size w w' := by
  obtain ⟨h1, w1, h2, rfl⟩ := h
  have hc : w1.cell? ⟨w.heap.size, 0, none⟩ = some x := (h2.cell (p := ⟨w.heap.size, 0, none⟩) (by simp)).trans (by simp)
  refine ⟨h1, World.cell?_setCell_same _ _ _ hc, ?_⟩
  exact ((((Below.refl _ w).alloc (Nat.le_refl _) _).trans (h2.mono (by simp)))).setCell (Nat.le_refl _) _
theorem EType.alloc {w : World} (h : EType w) (o : Obj) : EType (w.alloc o) := h.step ((Below.refl _ w).alloc (Nat.le_refl _) o)
theorem alloc_heap {w : World} {g : Nat} {o : Obj} (h : w.heap[g]? = some o) (o' : Obj) : (w.alloc o').heap[g]? = some o := by
  rw [Below.heap_alloc _ _ _ (heap_lt h)]; exact h

theorem code_nil (w : World) : Calls Tryd.prog 33 #[.nilIface] w (RetV w (.int .i64 0)) := by
  go_enter Tryd.func33, Tryd.ntmps33
  go_wp2
  go_ret
  exact ⟨rfl, (Below.refl _ w).alloc (Nat.le_refl _) _⟩

set_option maxHeartbeats 400000 in
theorem code_fault (g : Nat) (at_ c : Int) (w : World) (hg : w.heap[g]? = some (faultObj at_ c)) (hE : EType w) : Calls Tryd.prog 33 #[faultV g] w (RetV w (.int .i64 c)) := by
  have HG := Lib.hid hg; have HE := Lib.hid hE; clear hg hE
  go_enter Tryd.func33, Tryd.ntmps33
  go_wp2_with fail
  refine (as_fault_errno g at_ c _ (.int .i64 0) _ (alloc_heap HG.out _) (by simp) (by simp) (HE.out.alloc _)).mono ?_
  intro e w' h
  obtain ⟨rfl, hc, hb⟩ := h.fresh
  have hc' := hc.out
  clear hc h
  go_wp2
  go_ret
  exact ⟨rfl, hb⟩
set_option maxHeartbeats 400000 in
theorem code_errno (c : Int) (w : World) (hE : EType w) : Calls Tryd.prog 33 #[.iface 49 (.int .i64 c)] w (RetV w (.int .i64 c)) := by
  have HE := Lib.hid hE; clear hE
  go_enter Tryd.func33, Tryd.ntmps33
  go_wp2_with fail
  refine (as_errno_errno c _ (.int .i64 0) _ (by simp) (by simp) (HE.out.alloc _)).mono ?_
  intro e w' h
  obtain ⟨rfl, hc, hb⟩ := h.fresh
  have hc' := hc.out
  clear hc h
  go_wp2
  go_ret
  exact ⟨rfl, hb⟩
theorem code_any (ev : Value) (c a : Int) (w : World) (h : ErrIs w ev c a) (hE : EType w) : Calls Tryd.prog 33 #[ev] w (RetV w (.int .i64 c)) := by
  rcases h with ⟨rfl, rfl, rfl⟩ | ⟨rfl, rfl⟩ | ⟨g, rfl, hg⟩
  · exact code_nil w
  · exact code_errno c w hE
  · exact code_fault g a c w hg hE

set_option maxHeartbeats 400000 in
theorem place_nil (w : World) : Calls Tryd.prog 49 #[.nilIface] w (RetV w (.int .i64 (-1))) := by
  go_enter Tryd.func49, Tryd.ntmps49
  go_wp2_with fail
  refine (as_nil _ _).mono ?_
  rintro e w' ⟨rfl, rfl⟩
  go_wp2
  go_ret
  exact ⟨rfl, (Below.refl _ w).alloc (Nat.le_refl _) _⟩
set_option maxHeartbeats 400000 in
theorem place_errno (c : Int) (w : World) (hE : EType w) : Calls Tryd.prog 49 #[.iface 49 (.int .i64 c)] w (RetV w (.int .i64 (-1))) := by
  have HE := Lib.hid hE; clear hE
  go_enter Tryd.func49, Tryd.ntmps49
  go_wp2_with fail
  refine (as_errno_fault c _ (.pointer none) _ (by simp) (HE.out.alloc _)).mono ?_
  rintro e w' ⟨rfl, hb⟩
  have HB := Lib.hid hb; clear hb
  go_wp2
  go_ret
  exact ⟨rfl, ((Below.refl _ w).alloc (Nat.le_refl _) _).trans (HB.out.mono (by simp))⟩
set_option maxHeartbeats 400000 in
theorem place_fault (g : Nat) (at_ c : Int) (w : World) (hg : w.heap[g]? = some (faultObj at_ c)) (hE : EType w) : Calls Tryd.prog 49 #[faultV g] w (RetV w (.int .i64 at_)) := by
  have HG := Lib.hid hg; have HE := Lib.hid hE; clear hg hE
  go_enter Tryd.func49, Tryd.ntmps49
  go_wp2_with fail
  refine (as_fault_fault g _ (.pointer none) _ (by simp) (by simp) (HE.out.alloc _)).mono ?_
  intro e w' h
  obtain ⟨rfl, hc, hb⟩ := h.fresh
  have hc' := hc.out
  have hat : w'.cell? ⟨g, 0, none⟩ = some (.int .i64 at_) := by
    have := (hb.block g (heap_lt HG.out)).trans HG.out
    simp [World.cell?, this, faultObj]
  clear hc h
  go_wp2
  go_ret
  exact ⟨rfl, hb⟩
theorem place_any (ev : Value) (c a : Int) (w : World) (h : ErrIs w ev c a) (hE : EType w) : Calls Tryd.prog 49 #[ev] w (RetV w (.int .i64 a)) := by
  rcases h with ⟨rfl, rfl, rfl⟩ | ⟨rfl, rfl⟩ | ⟨g, rfl, hg⟩
  · exact place_nil w
  · exact place_errno c w hE
  · exact place_fault g a c w hg hE
end Go.Proofs.YtoophonmonojcaaDoor

/- Contracts of errors.Is and of the laws' own test of an error. -/
namespace Go.Proofs.YtoophonmonojcaaDoor
open Go.RowKit Go.Extern.Stop Go.Stop Go.Extern

theorem eqlNE (c : Int) (w : World) : (binOp .eql 29 .nilIface (.iface 49 (.int .i64 c))).run Tryd.prog w = .ok (.bool false) w := by kernel_rfl
set_option maxRecDepth 100000 in
theorem Is_nil (c : Int) (w : World) : Calls Tryd.prog 116 #[.nilIface, .iface 49 (.int .i64 c)] w fun e w' => e = .returned (.bool false) ∧ w = w' := by
  have e0 := eqlNE
  go_enter Tryd.func116, Tryd.ntmps116
  go_wp2
  go_ret
  exact ⟨rfl, rfl⟩

theorem eqlFE (g : Addr) (c : Int) (w : World) : (binOp .eql 29 (.iface 106 (.pointer (some g))) (.iface 49 (.int .i64 c))).run Tryd.prog w = .ok (.bool false) w :=
  run_eql_iface_types _ _ _ _ Tryd.underlying29 (by decide) w
theorem eqlEE (a c : Int) (w : World) : (binOp .eql 29 (.iface 49 (.int .i64 a)) (.iface 49 (.int .i64 c))).run Tryd.prog w = .ok (.bool (a == c)) w := by kernel_rfl

set_option maxRecDepth 100000 in
set_option maxHeartbeats 1000000 in
theorem is_fault (g : Nat) (at_ c t : Int) (w : World) (hg : w.heap[g]? = some (faultObj at_ c)) :
    Calls Tryd.prog 135 #[faultV g, .iface 49 (.int .i64 t), .bool true] w fun e w' => e = .returned (.bool (c == t)) ∧ w = w' := by
  have HG := Lib.hid hg; clear hg
  have m1 := Tryd.methodUnwrap; have m2 := Tryd.nilAheadUnwrap
  have g1 := Tryd.noIsF; have g2 := Tryd.unwrapF; have g3 := Tryd.noIsE; have g4 := Tryd.noUnwrapE; have g5 := Tryd.noUnwrapsE
  have e1 := eqlFE; have e2 := eqlEE
  cases hb : (c == t)
  all_goals
    go_enter Tryd.func135, Tryd.ntmps135
    go_wp2
    refine wp_loop_rounds 2 ?_
    rw [rounds_succ]
    go_wp2_with (go_at_call 157; refine (unwrap_any g at_ c _ HG.out).mono ?_; rintro e w' ⟨rfl, rfl⟩)
    rw [rounds_succ]
    go_wp2
    go_ret
    exact ⟨rfl, rfl⟩

set_option maxHeartbeats 1000000 in
theorem Is_fault (g : Nat) (at_ c t : Int) (w : World) (hg : w.heap[g]? = some (faultObj at_ c)) :
    Calls Tryd.prog 116 #[faultV g, .iface 49 (.int .i64 t)] w fun e w' => e = .returned (.bool (c == t)) ∧ w = w' := by
  have HG := Lib.hid hg; clear hg
  have x1 := ext131; have x2 := ext163; have f1 := Tryd.typeOfE; have f2 := Tryd.methodComparable; have f3 := Tryd.comparableE
  go_enter Tryd.func116, Tryd.ntmps116
  go_wp2_with fail
  refine (is_fault g at_ c t _ HG.out).mono ?_
  rintro e w' ⟨rfl, rfl⟩
  go_wp2
  go_ret
  exact ⟨rfl, rfl⟩

set_option maxHeartbeats 400000 in
/-- The laws' test of an error says yes. -/
theorem law03_is (ev : Value) (c a : Int) (w : World) (h : ErrIs w ev c a) (hE : EType w) : Calls Tryd.prog 39 #[ev, .int .i64 c, .int .i64 a] w (RetV w (.bool true)) := by
  have H := Lib.hid h; have HE := Lib.hid hE; clear h hE
  go_enter Tryd.func39, Tryd.ntmps39
  go_wp2_with fail
  refine (code_any ev c a _ H.out HE.out).mono ?_
  rintro e w1 ⟨rfl, hb⟩
  have HB := Lib.hid hb; clear hb
  go_wp2_with fail
  refine (place_any ev c a _ (H.out.step HB.out) (HE.out.step HB.out)).mono ?_
  rintro e w2 ⟨rfl, hb⟩
  have HB2 := Lib.hid hb; clear hb
  go_wp2
  go_ret
  exact ⟨rfl, HB.out.trans (HB2.out.mono HB.out.size)⟩
set_option maxHeartbeats 400000 in
/-- The laws' test of an error says yes. -/
theorem law06_is (ev : Value) (c a : Int) (w : World) (h : ErrIs w ev c a) (hE : EType w) : Calls Tryd.prog 25 #[ev, .int .i64 c, .int .i64 a] w (RetV w (.bool true)) := by
  have H := Lib.hid h; have HE := Lib.hid hE; clear h hE
  go_enter Tryd.func25, Tryd.ntmps25
  go_wp2_with fail
  refine (code_any ev c a _ H.out HE.out).mono ?_
  rintro e w1 ⟨rfl, hb⟩
  have HB := Lib.hid hb; clear hb
  go_wp2_with fail
  refine (place_any ev c a _ (H.out.step HB.out) (HE.out.step HB.out)).mono ?_
  rintro e w2 ⟨rfl, hb⟩
  have HB2 := Lib.hid hb; clear hb
  go_wp2
  go_ret
  exact ⟨rfl, HB.out.trans (HB2.out.mono HB.out.size)⟩
end Go.Proofs.YtoophonmonojcaaDoor

/- Byte slices that the call itself owns: what append leaves of them. -/
namespace Go.Proofs.YtoophonmonojcaaDoor
open Go.RowKit

theorem Rd.at {w : World} {b off : Nat} {l : List UInt8} (h : Rd w (Option.some ⟨b, off, none⟩) l) (k m : Nat) (hk : k + m ≤ l.length) : Rd w (Option.some ⟨b, off + k, none⟩) ((l.drop k).take m) := by
  refine Rd.mk fun i hi => ?_
  simp only [List.length_take, List.length_drop] at hi
  obtain ⟨b', off', e, hc⟩ := h (k + i) (by omega)
  cases e
  rw [Nat.add_assoc, hc]
  simp [List.getD_eq_getElem?_getD, show i < m by omega]
theorem Rd.take {w : World} {ao : Option Addr} {l : List UInt8} (h : Rd w ao l) (m : Nat) : Rd w ao (l.take m) := by
  intro i hi
  simp only [List.length_take] at hi
  obtain ⟨b, off, e, hc⟩ := h i (by omega)
  refine ⟨b, off, e, ?_⟩
  rw [hc]
  simp [List.getD_eq_getElem?_getD, show i < m by omega]
theorem Rd.cut {w : World} {b off : Nat} {l : List UInt8} (h : Rd w (Option.some ⟨b, off, none⟩) l) (k : Nat) : Rd w (Option.some ⟨b, off + k, none⟩) (l.drop k) := by
  refine Rd.mk fun i hi => ?_
  simp only [List.length_drop] at hi
  obtain ⟨b', off', e, hc⟩ := h (k + i) (by omega)
  cases e
  rw [Nat.add_assoc, hc]
  simp [List.getD_eq_getElem?_getD]

/-- The value v owns the bytes l in blocks from B on. -/
def Own (w : World) (B : Nat) (v : Value) (l : List UInt8) : Prop := w.ownsRow B 5 1 v l.length (l.map bv)
theorem Own.nil (w : World) (B : Nat) : Own w B (.slice none 0 0) [] := World.ownsRow_nil w B 5 1
theorem Row.own {w : World} {g B : Nat} {l : List UInt8} (h : Row w g l) (hB : B ≤ g) (hl : l.length ≤ maxLen) : Own w B (.slice (some ⟨g, 0, none⟩) l.length l.length) l :=
  ⟨by simp, .inr ⟨g, l.length, _, rfl, hB, h, Nat.le_refl _, hl, by simp, by rw [List.toList_toArray, Nat.mul_one, List.take_of_length_le (by simp)]⟩⟩
theorem Own.shape {w : World} {B : Nat} {v : Value} {l : List UInt8} (h : Own w B v l) :
    ∃ ao cap, v = .slice ao l.length cap ∧ l.length ≤ cap ∧ cap ≤ maxLen ∧ Rd w ao l ∧ (∀ a, ao = some a → B ≤ a.block ∧ a.block < w.heap.size) ∧ (ao = none → l = []) ∧ ∀ a, ao = some a → ∃ g, a = ⟨g, 0, none⟩ := by
  obtain ⟨h1, h2⟩ := h
  rcases h2 with ⟨rfl, h0⟩ | ⟨g, cap, cur, rfl, hB, hg, hn, hm, hs, ht⟩
  · have : l = [] := List.eq_nil_of_length_eq_zero h0
    subst this
    exact ⟨none, 0, rfl, Nat.le_refl _, Nat.zero_le _, Rd.nil _ _, (fun a h => by cases h), (fun _ => rfl), (fun a h => by cases h)⟩
  · refine ⟨some ⟨g, 0, none⟩, cap, rfl, hn, hm, ?_, ?_, (fun h => by cases h), fun a h => by cases h; exact ⟨g, rfl⟩⟩
    · refine Rd.mk fun i hi => ?_
      have e : cur.toList[i]? = (l.map bv)[i]? := by
        rw [← ht, List.getElem?_take, if_pos (by omega)]
      rw [List.getElem?_map, List.getElem?_eq_getElem hi] at e
      simp only [Option.map_some] at e
      rw [Nat.zero_add]
      simp only [World.cell?, hg, Option.isSome_none, Bool.false_eq_true, if_false]
      rw [← Array.getElem?_toList, e]
      simp [bv, List.getD_eq_getElem?_getD, List.getElem?_eq_getElem hi]
    · intro a ha
      cases ha
      exact ⟨hB, heap_lt hg⟩
theorem Own.keep {w w' : World} {B : Nat} {v : Value} {l : List UInt8} (h : Own w B v l) (hb : Below w.heap.size w w') : Own w' B v l := by
  obtain ⟨h1, h2⟩ := h
  refine ⟨h1, ?_⟩
  rcases h2 with h2 | ⟨g, cap, cur, hv, hB, hg, r⟩
  · exact .inl h2
  · exact .inr ⟨g, cap, cur, hv, hB, (hb.block g (heap_lt hg)).trans hg, r⟩

theorem Own.rd {w : World} {B n cap : Nat} {ao : Option Addr} {l : List UInt8} (h : Own w B (.slice ao n cap) l) : l.length = n ∧ n ≤ cap ∧ cap ≤ maxLen ∧ Rd w ao l ∧ (ao = none → cap = 0) := by
  have h0 := h
  obtain ⟨ao', cap', e, h1, h2, h3, _, _⟩ := h.shape
  cases e
  refine ⟨rfl, h1, h2, h3, fun hn => ?_⟩
  subst hn
  rcases h0.2 with ⟨e, _⟩ | ⟨g, _, _, e, _⟩
  · injection e
  · injection e with e1; cases e1
theorem bv_cells {w : World} {b off : Nat} {m : List UInt8} (hc : ∀ i, i < m.length → w.cell? ⟨b, off + i, none⟩ = some (.int .u8 ((m.getD i 0).toNat : Int))) :
    ∀ j u, (m.map bv)[j]? = some u → w.cell? ((⟨b, off, none⟩ : Addr).add j) = some u := by
  intro j u hj
  obtain ⟨hj1, hj2⟩ := List.getElem?_eq_some_iff.1 hj
  rw [List.length_map] at hj1
  have := hc j hj1
  simp only [List.getElem_map] at hj2
  subst hj2
  rw [show (Addr.mk b off none).add j = ⟨b, off + j, none⟩ by unfold Addr.add; split <;> simp_all, this]
  simp [bv, List.getD_eq_getElem?_getD, List.getElem?_eq_getElem hj1]

/-- 'b = append(b, f...)', b the call's own. -/
theorem wpList_appendB {w : World} {ops : Array Oper} {rest : List Oper} {o : Oper} {a : Act} {Q : Exit → Act → World → Prop} (hgd : o.guard = none) (s x : Operand)
    (ho : o.op = .call { callee := .builtin .append, args := #[s, x], argTypes := #[27, 27] })
    (B : Nat) (v : Value) (l m : List UInt8) (hs : a.eval s = v) (hown : Own w B v l) (ao : Option Addr) (n2 c2 : Nat) (hx : a.eval x = .slice ao n2 c2) (hnil : ao = none → c2 = 0) (hm : m.length = n2) (hr : Rd w ao m)
    (hle : l.length + n2 ≤ 140737488355328) (hB : B ≤ w.heap.size)
    (h : ∀ v' w', Own w' B v' (l ++ m) → w.grownBy w' v.ownBlock → wpList Tryd.prog ops Q rest (a.put o.dst v') w') : wpList Tryd.prog ops Q (o :: rest) a w := by
  obtain ⟨i0, hi, hz0, hz1, hz2⟩ := info_parts Tryd.infoU8
  subst hm
  rcases Nat.eq_zero_or_pos m.length with h0 | h0
  · obtain rfl : m = [] := List.eq_nil_of_length_eq_zero h0
    cases ao with
    | none =>
      obtain rfl := hnil rfl
      refine wpList_append_own_none hgd s x 27 ho B 5 i0 1 Tryd.underlying27 hi v l.length (l.map bv) hs hown hx ?_
      exact h v w (by rw [List.append_nil]; exact hown) (World.grownBy.refl _ _)
    | some ad =>
      refine wpList_append_own _ hgd s x 27 ho B 5 i0 (.int .u8 0) 1 1 Tryd.underlying27 hi hz0 hz1 hz2 rfl (by decide) v l.length (l.map bv) hs hown ad 0 c2 [] hx rfl (fun j u h => by cases h) (fun u h => by cases h) (by unfold maxLen; simp at hle; omega) (by simp at hle; omega) hB ?_
      intro v' w' h1 h2 _
      refine h v' w' ?_ h2
      rw [List.append_nil]; simpa [Own] using h1
  · obtain ⟨b, off, rfl, _, hc⟩ := hr.some h0
    refine wpList_append_own _ hgd s x 27 ho B 5 i0 (.int .u8 0) 1 1 Tryd.underlying27 hi hz0 hz1 hz2 rfl (by decide) v l.length (l.map bv) hs hown ⟨b, off, none⟩ m.length c2 (m.map bv) hx (by simp) (bv_cells hc) (oneCell_bv m) (by unfold maxLen; omega) (by omega) hB ?_
    intro v' w' h1 h2 _
    refine h v' w' ?_ h2
    simpa [Own] using h1

/-- The same where something is there behind it: the value's shape is known. -/
theorem wpList_appendB1 {w : World} {ops : Array Oper} {rest : List Oper} {o : Oper} {a : Act} {Q : Exit → Act → World → Prop} (hgd : o.guard = none) (s x : Operand)
    (ho : o.op = .call { callee := .builtin .append, args := #[s, x], argTypes := #[27, 27] })
    (B : Nat) (v : Value) (l m : List UInt8) (hs : a.eval s = v) (hown : Own w B v l) (ao : Option Addr) (n2 c2 : Nat) (hx : a.eval x = .slice ao n2 c2) (hnil : ao = none → c2 = 0) (hm : m.length = n2) (hr : Rd w ao m)
    (hle : l.length + n2 ≤ 140737488355328) (hB : B ≤ w.heap.size) (hpos : 0 < l.length + n2) (n : Nat) (hn : n = l.length + n2)
    (h : ∀ g cap w', Own w' B (.slice (some ⟨g, 0, none⟩) n cap) (l ++ m) → w.grownBy w' v.ownBlock → wpList Tryd.prog ops Q rest (a.put o.dst (.slice (some ⟨g, 0, none⟩) n cap)) w') : wpList Tryd.prog ops Q (o :: rest) a w := by
  refine wpList_appendB hgd s x ho B v l m hs hown ao n2 c2 hx hnil hm hr hle hB ?_
  intro v' w' h1 h2
  obtain ⟨ao', cap, e, _, _, _, _, h0, hg⟩ := h1.shape
  have hlen : (l ++ m).length = n := by simp; omega
  cases ao' with
  | none => have := h0 rfl; rw [this] at hlen; simp at hlen; omega
  | some ad =>
    obtain ⟨g, rfl⟩ := hg ad rfl
    rw [hlen] at e
    subst e
    exact h g cap w' h1 h2

/-- Behind a law of growth: what lay below B is as it was. -/
theorem Own.grown {w w0 w' : World} {B : Nat} {v : Value} {l : List UInt8} (h : Own w B v l) (hb : Below B w0 w) (hB : B ≤ w.heap.size) (hg : w.grownBy w' v.ownBlock) : Below B w0 w' := by
  refine hb.grown hg hB fun k hk => ?_
  obtain ⟨ao, cap, rfl, _, _, _, h3, _⟩ := h.shape
  cases ao with
  | none => cases hk
  | some ad => simp [Value.ownBlock] at hk; subst hk; exact (h3 ad rfl).1
end Go.Proofs.YtoophonmonojcaaDoor

/- Contracts of wal.Frame. -/
namespace Go.Proofs.YtoophonmonojcaaDoor
open Go.RowKit

/-- The length and its complement, two bytes each. -/
def head4 (n : Nat) : List UInt8 := [u8 ((n : Int) / 256), u8 n, u8 ((65535 - (n : Int)) / 256), u8 (65535 - (n : Int))]
theorem head4_length (n : Nat) : (head4 n).length = 4 := rfl
/-- A payload's record. -/
def frame (p : List UInt8) : List UInt8 := sealed (head4 p.length ++ p)

/-- A payload that may not be. -/
theorem frame_bad (ao : Option Addr) (n cap : Nat) (w : World) (hn : n < 1 ∨ 64 < n) (hb : n ≤ 140737488355328) :
    Calls Tryd.prog 28 #[.slice ao n cap] w fun e w' => e = .returned (.tuple #[.slice none 0 0, .iface 49 (.int .i64 30)]) ∧ w = w' := by
  rcases hn with hn | hn
  all_goals
    go_enter Tryd.func28, Tryd.ntmps28
    go_wp2_with fail
    go_ret2
    exact ⟨rfl, rfl⟩

/-- What wal.Frame hands back of a payload that may be. -/
def Framed (w : World) (p : List UInt8) (e : Ending) (w' : World) : Prop :=
  ∃ g, e = .returned (.tuple #[.slice (some ⟨g, 0, none⟩) (p.length + 8) (p.length + 8), .nilIface]) ∧ w.heap.size ≤ g ∧ Row w' g (frame p) ∧ Below w.heap.size w w'
theorem frame_length (p : List UInt8) : (frame p).length = p.length + 8 := by simp [frame, sealed, head4, le4]

set_option maxHeartbeats 1000000 in
theorem frame_ok (ao : Option Addr) (n cap : Nat) (p : List UInt8) (w : World) (hl : p.length = n) (hr : Rd w ao p) (h1 : 1 ≤ n) (h2 : n ≤ 64) (hnil : ao = none → cap = 0) (ht : Tab w) :
    Calls Tryd.prog 28 #[.slice ao n cap] w (Framed w p) := by
  have HL := Lib.hid hl; have HR := Lib.hid hr; have HT := Lib.hid ht; have HN := Lib.hid hnil; clear hl hr ht hnil
  go_enter Tryd.func28, Tryd.ntmps28
  go_wp2_with fail
  refine (put16_any _ 0 0 [] (n : Int) _ rfl (Rd.nil _ _) (by omega) (by omega)).mono ?_
  rintro e w1 ⟨g1, rfl, _, hr1, hb1⟩
  have HR1 := Lib.hid hr1; have HB1 := Lib.hid hb1; clear hr1 hb1
  go_wp2_with fail
  refine (put16_any _ 2 2 [u8 ((n : Int) / 256), u8 n] (65535 - (n : Int)) _ rfl HR1.out.rd (by omega) (by omega)).mono ?_
  rintro e w2 ⟨g2, rfl, hg2, hr2, hb2⟩
  have hr2' : Row w2 g2 (head4 n) := hr2
  have hg2' : w.heap.size ≤ g2 := Nat.le_trans HB1.out.size hg2
  have ho2 : Own w2 w.heap.size (.slice (some ⟨g2, 0, none⟩) 4 4) (head4 n) := hr2'.own hg2' (by rw [head4_length]; unfold maxLen; omega)
  have HO2 := Lib.hid ho2; have HB2 := Lib.hid (HB1.out.trans (hb2.mono HB1.out.size)); clear hr2 hr2' ho2 hb2
  go_wp2_with (at_builtin; go_must (with_reducible refine wpList_appendB1 rfl (.tmp 22) (.tmp 23) rfl w.heap.size (.slice (some ⟨g2, 0, none⟩) 4 4) (head4 n) p rfl HO2.out _ _ _ rfl HN.out HL.out (HR.out.step HB2.out) (by rw [head4_length]; omega) HB2.out.size (by omega) (n + 4) (by rw [head4_length]; omega) ?_); intro g3 c3 w3 ho3 hgr3; have HO3 := Lib.hid ho3; have HB3 := Lib.hid (Own.grown HO2.out HB2.out HB2.out.size hgr3); clear ho3 hgr3)
  go_wp2_with fail
  have hrd := HO3.out.rd
  refine (seal_any _ _ _ (head4 n ++ p) _ hrd.1 hrd.2.2.2.1 (by omega) (HT.out.step HB3.out)).mono ?_
  clear hrd
  rintro e w4 ⟨g4, rfl, hg4, hr4, hb4⟩
  have HR4 := Lib.hid hr4; have HB4 := Lib.hid (HB3.out.trans (hb4.mono HB3.out.size)); clear hr4 hb4
  have hg4' : w.heap.size ≤ g4 := Nat.le_trans HB3.out.size hg4
  have hlen : (sealed (head4 n ++ p)).length = n + 8 := by have := HL.out; simp [sealed, head4, le4]; omega
  rw [hlen]
  clear hlen
  go_wp2
  go_ret2
  have hl := HL.out
  refine ⟨g4, ?_, hg4', ?_, HB4.out⟩
  · rw [hl]; rfl
  · rw [frame, hl]; exact HR4.out
end Go.Proofs.YtoophonmonojcaaDoor

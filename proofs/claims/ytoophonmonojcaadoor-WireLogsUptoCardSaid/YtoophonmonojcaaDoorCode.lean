/- Contracts of api.Code, api.Place and errors.Is at the errors of this program. -/
import Derived.Test.YtoophonmonojcaaDoorErrAs2
namespace Go.Proofs.YtoophonmonojcaaDoor
open Go.RowKit Go.Extern.Stop Go.Stop Go.Extern

/-- The call hands back v; nothing that was there has turned. -/
def RetV (w : World) (v : Value) (e : Ending) (w' : World) : Prop := e = .returned v ∧ Below w.heap.size w w'

/-- An error of this program: nil; a number; a number with its place. -/
def ErrIs (w : World) (ev : Value) (code at_ : Int) : Prop :=
  (ev = .nilIface ∧ code = 0 ∧ at_ = -1) ∨ (ev = .iface 49 (.int .i64 code) ∧ at_ = -1) ∨ ∃ g, ev = faultV g ∧ w.heap[g]? = some (faultObj at_ code)
theorem ErrIs.nil (w : World) : ErrIs w .nilIface 0 (-1) := .inl ⟨rfl, rfl, rfl⟩
theorem ErrIs.step {w w' : World} {ev : Value} {c a : Int} (h : ErrIs w ev c a) (hb : Below w.heap.size w w') : ErrIs w' ev c a := by
  rcases h with h | h | ⟨g, h1, h2⟩
  · exact .inl h
  · exact .inr (.inl h)
  · refine .inr (.inr ⟨g, h1, ?_⟩)
    have hgl : g < w.heap.size := by
      rcases Nat.lt_or_ge g w.heap.size with h | h
      · exact h
      · rw [Array.getElem?_eq_none h] at h2; cases h2
    exact (hb.block g hgl).trans h2
theorem RetV.after {w w1 : World} {v : Value} {e : Ending} {w' : World} (hb : Below w.heap.size w w1) (h : RetV w1 v e w') : RetV w v e w' := ⟨h.1, hb.trans (h.2.mono hb.size)⟩

theorem heap_lt {w : World} {g : Nat} {o : Obj} (h : w.heap[g]? = some o) : g < w.heap.size := by
  rcases Nat.lt_or_ge g w.heap.size with h' | h'
  · exact h'
  · rw [Array.getElem?_eq_none h'] at h; cases h

/-- The target is a new variable. -/
theorem AsHit.fresh {w : World} {x v : Value} {T : TypeId} {e : Ending} {w' : World} (h : AsHit (w.alloc (.cells #[x] T)) ⟨w.heap.size, 0, none⟩ v e w') :
    e = .returned (.bool true) ∧ Hid (w'.cell? ⟨w.heap.size, 0, none⟩ = some v) ∧ Below w.heap.size w w' := by
  obtain ⟨h1, w1, h2, rfl⟩ := h
  have hc : w1.cell? ⟨w.heap.size, 0, none⟩ = some x := (h2.cell (p := ⟨w.heap.size, 0, none⟩) (by simp)).trans (by simp)
  refine ⟨h1, World.cell?_setCell_same _ _ _ hc, ?_⟩
  exact ((((Below.refl _ w).alloc (Nat.le_refl _) _).trans (h2.mono (by simp)))).setCell (Nat.le_refl _) _
theorem EType.alloc {w : World} (h : EType w) (o : Obj) : EType (w.alloc o) := h.step ((Below.refl _ w).alloc (Nat.le_refl _) o)
theorem alloc_heap {w : World} {g : Nat} {o : Obj} (h : w.heap[g]? = some o) (o' : Obj) : (w.alloc o').heap[g]? = some o := by
  rw [Below.heap_alloc _ _ _ (heap_lt h)]; exact h

theorem code_nil (w : World) : Calls Tryd.prog 33 #[.nilIface] w (RetV w (.int .i64 0)) := by
  go_enter Tryd.func33, Tryd.ntmps33
  go_wp2
  go_ret
  exact ⟨rfl, (Below.refl _ w).alloc (Nat.le_refl _) _⟩

set_option maxHeartbeats 400000 in
theorem code_fault (g : Nat) (at_ c : Int) (w : World) (hg : w.heap[g]? = some (faultObj at_ c)) (hE : EType w) : Calls Tryd.prog 33 #[faultV g] w (RetV w (.int .i64 c)) := by
  have HG := Lib.hid hg; have HE := Lib.hid hE; clear hg hE
  go_enter Tryd.func33, Tryd.ntmps33
  go_wp2_with fail
  refine (as_fault_errno g at_ c _ (.int .i64 0) _ (alloc_heap HG.out _) (by simp) (by simp) (HE.out.alloc _)).mono ?_
  intro e w' h
  obtain ⟨rfl, hc, hb⟩ := h.fresh
  have hc' := hc.out
  clear hc h
  go_wp2
  go_ret
  exact ⟨rfl, hb⟩
set_option maxHeartbeats 400000 in
theorem code_errno (c : Int) (w : World) (hE : EType w) : Calls Tryd.prog 33 #[.iface 49 (.int .i64 c)] w (RetV w (.int .i64 c)) := by
  have HE := Lib.hid hE; clear hE
  go_enter Tryd.func33, Tryd.ntmps33
  go_wp2_with fail
  refine (as_errno_errno c _ (.int .i64 0) _ (by simp) (by simp) (HE.out.alloc _)).mono ?_
  intro e w' h
  obtain ⟨rfl, hc, hb⟩ := h.fresh
  have hc' := hc.out
  clear hc h
  go_wp2
  go_ret
  exact ⟨rfl, hb⟩
theorem code_any (ev : Value) (c a : Int) (w : World) (h : ErrIs w ev c a) (hE : EType w) : Calls Tryd.prog 33 #[ev] w (RetV w (.int .i64 c)) := by
  rcases h with ⟨rfl, rfl, rfl⟩ | ⟨rfl, rfl⟩ | ⟨g, rfl, hg⟩
  · exact code_nil w
  · exact code_errno c w hE
  · exact code_fault g a c w hg hE

set_option maxHeartbeats 400000 in
theorem place_nil (w : World) : Calls Tryd.prog 49 #[.nilIface] w (RetV w (.int .i64 (-1))) := by
  go_enter Tryd.func49, Tryd.ntmps49
  go_wp2_with fail
  refine (as_nil _ _).mono ?_
  rintro e w' ⟨rfl, rfl⟩
  go_wp2
  go_ret
  exact ⟨rfl, (Below.refl _ w).alloc (Nat.le_refl _) _⟩
set_option maxHeartbeats 400000 in
theorem place_errno (c : Int) (w : World) (hE : EType w) : Calls Tryd.prog 49 #[.iface 49 (.int .i64 c)] w (RetV w (.int .i64 (-1))) := by
  have HE := Lib.hid hE; clear hE
  go_enter Tryd.func49, Tryd.ntmps49
  go_wp2_with fail
  refine (as_errno_fault c _ (.pointer none) _ (by simp) (HE.out.alloc _)).mono ?_
  rintro e w' ⟨rfl, hb⟩
  have HB := Lib.hid hb; clear hb
  go_wp2
  go_ret
  exact ⟨rfl, ((Below.refl _ w).alloc (Nat.le_refl _) _).trans (HB.out.mono (by simp))⟩
set_option maxHeartbeats 400000 in
theorem place_fault (g : Nat) (at_ c : Int) (w : World) (hg : w.heap[g]? = some (faultObj at_ c)) (hE : EType w) : Calls Tryd.prog 49 #[faultV g] w (RetV w (.int .i64 at_)) := by
  have HG := Lib.hid hg; have HE := Lib.hid hE; clear hg hE
  go_enter Tryd.func49, Tryd.ntmps49
  go_wp2_with fail
  refine (as_fault_fault g _ (.pointer none) _ (by simp) (by simp) (HE.out.alloc _)).mono ?_
  intro e w' h
  obtain ⟨rfl, hc, hb⟩ := h.fresh
  have hc' := hc.out
  have hat : w'.cell? ⟨g, 0, none⟩ = some (.int .i64 at_) := by
    have := (hb.block g (heap_lt HG.out)).trans HG.out
    simp [World.cell?, this, faultObj]
  clear hc h
  go_wp2
  go_ret
  exact ⟨rfl, hb⟩
theorem place_any (ev : Value) (c a : Int) (w : World) (h : ErrIs w ev c a) (hE : EType w) : Calls Tryd.prog 49 #[ev] w (RetV w (.int .i64 a)) := by
  rcases h with ⟨rfl, rfl, rfl⟩ | ⟨rfl, rfl⟩ | ⟨g, rfl, hg⟩
  · exact place_nil w
  · exact place_errno c w hE
  · exact place_fault g a c w hg hE
end Go.Proofs.YtoophonmonojcaaDoor

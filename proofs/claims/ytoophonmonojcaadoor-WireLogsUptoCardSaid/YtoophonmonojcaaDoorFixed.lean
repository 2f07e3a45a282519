/- The contract of jotterlaw03.fixed: it answers true. -/
import Derived.Test.YtoophonmonojcaaDoorEqAll
import Derived.Test.YtoophonmonojcaaDoorPlain03
namespace Go.Proofs.YtoophonmonojcaaDoor
open Go.RowKit

theorem fixed_bytes : (frame [65]).getD 0 0 = 0 ∧ (frame [65]).getD 1 0 = 1 ∧ (frame [65]).getD 2 0 = 255 ∧ (frame [65]).getD 3 0 = 254 ∧ (frame [65]).getD 4 0 = 65 := by decide +kernel
theorem scan_fixed : scan (frame [65]) = ([[65]], 9, 0) := by
  have := scan_frame [65] [] (by decide) (by decide)
  rw [List.append_nil, scan_nil] at this
  simpa using this
/-- One row: the list's value and its one element. -/
theorem OwnRows.one {w : World} {L B : Nat} {v : Value} {p : List UInt8} (h : OwnRows w L B v [p]) : ∃ g cap x, v = .slice (some ⟨g, 0, none⟩) 1 cap ∧ w.cell? ⟨g, 0, none⟩ = some x ∧ Elem w L B x p := by
  obtain ⟨ao, cap, rfl, _, h2, h3⟩ := h.shape
  cases ao with
  | none => exact absurd (h2 rfl).1 (by simp)
  | some a =>
    obtain ⟨g, rfl, _, cur, _, hc⟩ := h3 a rfl
    obtain ⟨x, hx, he⟩ := hc 0 p rfl
    exact ⟨g, cap, x, rfl, hx, he⟩

set_option maxRecDepth 100000 in
set_option maxHeartbeats 1000000 in
theorem fixed_any (w : World) (ht : Tab w) : Calls Tryd.prog 32 #[] w (RetV w (.bool true)) := by
  have HT := Lib.hid ht; clear ht
  go_enter Tryd.func32, Tryd.ntmps32
  go_wp2_with fail
  have hb0 := (Below.refl w.heap.size w).alloc (Nat.le_refl _) (.cells #[Value.int IntKind.u8 65] 5)
  have HB0 := Lib.hid hb0; clear hb0
  refine (frame_ok _ 1 1 [65] _ rfl (row_new w _ [65] rfl).rd (by omega) (by omega) (fun h => by cases h) (HT.out.step HB0.out)).mono ?_
  rintro e w1 ⟨g1, rfl, hg1, hr1, hb1⟩
  have hg1' : w.heap.size ≤ g1 := Nat.le_trans HB0.out.size hg1
  have hc := fun i hi => hr1.cell i hi
  have c0 : w1.cell? ⟨g1, 0, none⟩ = some (.int .u8 0) := by have := hc 0 (by decide); rw [fixed_bytes.1] at this; exact this
  have c1 : w1.cell? ⟨g1, 1, none⟩ = some (.int .u8 1) := by have := hc 1 (by decide); rw [fixed_bytes.2.1] at this; exact this
  have c2 : w1.cell? ⟨g1, 2, none⟩ = some (.int .u8 255) := by have := hc 2 (by decide); rw [fixed_bytes.2.2.1] at this; exact this
  have c3 : w1.cell? ⟨g1, 3, none⟩ = some (.int .u8 254) := by have := hc 3 (by decide); rw [fixed_bytes.2.2.2.1] at this; exact this
  have c4 : w1.cell? ⟨g1, 4, none⟩ = some (.int .u8 65) := by have := hc 4 (by decide); rw [fixed_bytes.2.2.2.2] at this; exact this
  have HR1 := Lib.hid hr1; have HB1 := Lib.hid (HB0.out.trans (hb1.mono HB0.out.size))
  clear hc hr1 hb1
  go_wp2_with fail
  refine (scan_any _ 9 9 (frame [65]) _ (frame_length _) HR1.out.rd (by omega) (by omega) (HT.out.step HB1.out)).mono ?_
  rintro e w2 ⟨v, ev, rfl, hv, hev, hb2⟩
  rw [scan_fixed] at hv hev
  rw [scan_fixed]
  dsimp only at hv hev
  have HB2 := Lib.hid (HB1.out.trans (hb2.mono HB1.out.size)); clear hb2
  rcases hev with ⟨rfl, _⟩ | ⟨h, _⟩
  · obtain ⟨g2, cap2, x, rfl, hx, hel⟩ := hv.one
    have HEL := Lib.hid hel; clear hel hv c0 c1 c2 c3 c4
    go_wp2_with fail
    have hsl : Sl (w2.alloc (.cells #[Value.int IntKind.u8 65] 5)) (.slice (some ⟨w2.heap.size, 0, none⟩) 1 1) [65] := ⟨_, 1, rfl, by decide, (row_new w2 _ [65] rfl).rd, (fun h => by cases h)⟩
    refine (eq_any_sl x _ [65] [65] _ (HEL.out.sl.step ((Below.refl _ w2).alloc (Nat.le_refl _) _)) hsl (by decide)).mono ?_
    intro e w3 hq
    obtain ⟨rfl, hb3⟩ := hq.below
    have HB3 := Lib.hid hb3; clear hb3 hq hsl
    go_wp2
    go_ret
    exact ⟨rfl, (HB2.out.alloc HB2.out.size _).trans (HB3.out.mono (by have := HB2.out.size; simp; omega))⟩
  · exact absurd rfl h
end Go.Proofs.YtoophonmonojcaaDoor

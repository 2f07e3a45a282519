/- Contracts of package octet: with, Put8, Put16, Sum, Seal. -/
import Derived.Test.YtoophonmonojcaaDoorA
namespace Go.Proofs.YtoophonmonojcaaDoor
open Go.RowKit

theorem splice_with (l m : List UInt8) (Z : List Value) (hZ : Z.length = l.length + m.length) : splice (splice Z 0 (l.map bv)) l.length (m.map bv) = (l ++ m).map bv := by
  have e1 : splice Z 0 (l.map bv) = l.map bv ++ Z.drop l.length := by simp [splice]
  rw [e1, splice, List.take_append_of_le_length (by simp), List.take_of_length_le (by simp), List.drop_eq_nil_of_le (by simp; omega)]
  simp

set_option maxRecDepth 100000 in
set_option maxHeartbeats 400000 in
theorem with_any (a1 a2 : Option Addr) (n1 c1 n2 c2 : Nat) (l m : List UInt8) (w : World) (h1 : l.length = n1) (h2 : m.length = n2) (r1 : Rd w a1 l) (r2 : Rd w a2 m) (hb : n1 + n2 ≤ 140737488355328) :
    Calls Tryd.prog 107 #[.slice a1 n1 c1, .slice a2 n2 c2] w (NewRow w (l ++ m)) := by
  obtain ⟨i0, hi, hz0, hz1, hz2⟩ := info_parts Tryd.infoU8
  have H1 := Lib.hid h1; have H2 := Lib.hid h2; clear h1 h2
  have R1 := Lib.hid r1; have R2 := Lib.hid r2; clear r1 r2
  go_enter Tryd.func107, Tryd.ntmps107
  go_wp2_with (first
    | (at_make; refine wpList_make_full w rfl _ _ 27 rfl w.heap.size 5 i0 (.int .u8 0) 1 Tryd.underlying27 hi hz0 hz1 .i64 .i64 _ _ (n1 + n2) rfl rfl (by omega) (by omega) (by rw [hz2]; omega) (by unfold maxLen; omega) (Nat.le_refl _) ?_; intro w1 ho1 hg1; obtain ⟨cur, hrow, hB1⟩ := made_row ho1 hg1; clear ho1 hg1)
    | (with_reducible refine wpList_copyB rfl (.tmp 13) (.tmp 14) 27 27 rfl 5 Tryd.underlying27 Tryd.sizeU8 _ _ _ _ _ _ rfl rfl w.heap.size 0 cur 5 hrow.out.1 l H1.out (R1.out.step hB1) (by omega) (fun _ => rfl) (by have := hrow.out.2; omega) w.heap.size w hB1 (Nat.le_refl _) ?_; intro w2 hrow2 hB2)
    | (with_reducible refine wpList_copyB rfl (.tmp 16) (.tmp 17) 27 27 rfl 5 Tryd.underlying27 Tryd.sizeU8 _ _ _ _ _ _ rfl rfl w.heap.size n1 (splice cur 0 (l.map bv)) 5 hrow2.out m H2.out (R2.out.step hB2) (by omega) (fun _ => by simp; omega) (by have := hrow.out.2; have := H1.out; rw [length_splice] <;> simp <;> omega) w.heap.size w hB2 (Nat.le_refl _) ?_; intro w3 hrow3 hB3))
  all_goals
    go_ret
    have e0 := hrow.out.2; have e1 := H1.out; have e2 := H2.out
    refine ⟨w.heap.size, ret_slice (by simp; omega) (by simp; omega), Nat.le_refl _, ?_, hB3⟩
    have h3 := hrow3.out
    rw [← e1, splice_with l m cur (by omega)] at h3
    exact h3

/-- One byte behind. -/
theorem put8_any (a1 : Option Addr) (n1 c1 : Nat) (l : List UInt8) (v : Int) (w : World) (h1 : l.length = n1) (r1 : Rd w a1 l) (hb : n1 ≤ 140737488355000) (_hv : 0 ≤ v) :
    Calls Tryd.prog 113 #[.slice a1 n1 c1, .int .u64 v] w (NewRow w (l ++ [u8 v])) := by
  have R1 := Lib.hid r1; clear r1
  have H1 := Lib.hid h1; clear h1
  go_enter Tryd.func113, Tryd.ntmps113
  go_wp2_with fail
  have hB := (Below.refl w.heap.size w).alloc (Nat.le_refl _) (.cells #[Value.int IntKind.u8 (v % 256)] 5)
  refine (with_any _ _ _ _ 1 1 l [u8 v] _ H1.out rfl (R1.out.step hB) (row_new w _ [u8 v] (by simp [bv_u8])).rd (by omega)).mono ?_
  intro e w' hN
  obtain ⟨g, rfl, h2, h3, h4⟩ := hN.after hB
  go_wp2
  go_ret
  exact ⟨g, ret_slice (by simp) (by simp), h2, h3, h4⟩

/-- Two bytes behind, the higher first. -/
theorem put16_any (a1 : Option Addr) (n1 c1 : Nat) (l : List UInt8) (v : Int) (w : World) (h1 : l.length = n1) (r1 : Rd w a1 l) (hb : n1 ≤ 140737488355000) (_hv : 0 ≤ v) :
    Calls Tryd.prog 79 #[.slice a1 n1 c1, .int .u64 v] w (NewRow w (l ++ [u8 (v / 256), u8 v])) := by
  have R1 := Lib.hid r1; clear r1
  have H1 := Lib.hid h1; clear h1
  go_enter Tryd.func79, Tryd.ntmps79
  go_wp2_with fail
  have hB := (Below.refl w.heap.size w).alloc (Nat.le_refl _) (.cells #[Value.int IntKind.u8 (v / 256 % 256), Value.int IntKind.u8 (v % 256)] 5)
  refine (with_any _ _ _ _ 2 2 l [u8 (v / 256), u8 v] _ H1.out rfl (R1.out.step hB) (row_new w _ [u8 (v / 256), u8 v] (by simp [bv_u8])).rd (by omega)).mono ?_
  intro e w' hN
  obtain ⟨g, rfl, h2, h3, h4⟩ := hN.after hB
  go_wp2
  go_ret
  exact ⟨g, ret_slice (by simp) (by simp), h2, h3, h4⟩
end Go.Proofs.YtoophonmonojcaaDoor

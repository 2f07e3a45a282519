/- Contracts of wal.Frame. -/
import Derived.Test.YtoophonmonojcaaDoorOwn
namespace Go.Proofs.YtoophonmonojcaaDoor
open Go.RowKit

/-- The length and its complement, two bytes each. -/
def head4 (n : Nat) : List UInt8 := [u8 ((n : Int) / 256), u8 n, u8 ((65535 - (n : Int)) / 256), u8 (65535 - (n : Int))]
theorem head4_length (n : Nat) : (head4 n).length = 4 := rfl
/-- A payload's record. -/
def frame (p : List UInt8) : List UInt8 := sealed (head4 p.length ++ p)

/-- A payload that may not be. -/
theorem frame_bad (ao : Option Addr) (n cap : Nat) (w : World) (hn : n < 1 ∨ 64 < n) (hb : n ≤ 140737488355328) :
    Calls Tryd.prog 28 #[.slice ao n cap] w fun e w' => e = .returned (.tuple #[.slice none 0 0, .iface 49 (.int .i64 30)]) ∧ w = w' := by
  rcases hn with hn | hn
  all_goals
    go_enter Tryd.func28, Tryd.ntmps28
    go_wp2_with fail
    go_ret2
    exact ⟨rfl, rfl⟩

/-- What wal.Frame hands back of a payload that may be. -/
def Framed (w : World) (p : List UInt8) (e : Ending) (w' : World) : Prop :=
  ∃ g, e = .returned (.tuple #[.slice (some ⟨g, 0, none⟩) (p.length + 8) (p.length + 8), .nilIface]) ∧ w.heap.size ≤ g ∧ Row w' g (frame p) ∧ Below w.heap.size w w'
theorem frame_length (p : List UInt8) : (frame p).length = p.length + 8 := by simp [frame, sealed, head4, le4]

set_option maxHeartbeats 1000000 in
theorem frame_ok (ao : Option Addr) (n cap : Nat) (p : List UInt8) (w : World) (hl : p.length = n) (hr : Rd w ao p) (h1 : 1 ≤ n) (h2 : n ≤ 64) (hnil : ao = none → cap = 0) (ht : Tab w) :
    Calls Tryd.prog 28 #[.slice ao n cap] w (Framed w p) := by
  have HL := Lib.hid hl; have HR := Lib.hid hr; have HT := Lib.hid ht; have HN := Lib.hid hnil; clear hl hr ht hnil
  go_enter Tryd.func28, Tryd.ntmps28
  go_wp2_with fail
  refine (put16_any _ 0 0 [] (n : Int) _ rfl (Rd.nil _ _) (by omega) (by omega)).mono ?_
  rintro e w1 ⟨g1, rfl, _, hr1, hb1⟩
  have HR1 := Lib.hid hr1; have HB1 := Lib.hid hb1; clear hr1 hb1
  go_wp2_with fail
  refine (put16_any _ 2 2 [u8 ((n : Int) / 256), u8 n] (65535 - (n : Int)) _ rfl HR1.out.rd (by omega) (by omega)).mono ?_
  rintro e w2 ⟨g2, rfl, hg2, hr2, hb2⟩
  have hr2' : Row w2 g2 (head4 n) := hr2
  have hg2' : w.heap.size ≤ g2 := Nat.le_trans HB1.out.size hg2
  have ho2 : Own w2 w.heap.size (.slice (some ⟨g2, 0, none⟩) 4 4) (head4 n) := hr2'.own hg2' (by rw [head4_length]; unfold maxLen; omega)
  have HO2 := Lib.hid ho2; have HB2 := Lib.hid (HB1.out.trans (hb2.mono HB1.out.size)); clear hr2 hr2' ho2 hb2
  go_wp2_with (at_builtin; go_must (with_reducible refine wpList_appendB1 rfl (.tmp 22) (.tmp 23) rfl w.heap.size (.slice (some ⟨g2, 0, none⟩) 4 4) (head4 n) p rfl HO2.out _ _ _ rfl HN.out HL.out (HR.out.step HB2.out) (by rw [head4_length]; omega) HB2.out.size (by omega) (n + 4) (by rw [head4_length]; omega) ?_); intro g3 c3 w3 ho3 hgr3; have HO3 := Lib.hid ho3; have HB3 := Lib.hid (Own.grown HO2.out HB2.out HB2.out.size hgr3); clear ho3 hgr3)
  go_wp2_with fail
  have hrd := HO3.out.rd
  refine (seal_any _ _ _ (head4 n ++ p) _ hrd.1 hrd.2.2.2.1 (by omega) (HT.out.step HB3.out)).mono ?_
  clear hrd
  rintro e w4 ⟨g4, rfl, hg4, hr4, hb4⟩
  have HR4 := Lib.hid hr4; have HB4 := Lib.hid (HB3.out.trans (hb4.mono HB3.out.size)); clear hr4 hb4
  have hg4' : w.heap.size ≤ g4 := Nat.le_trans HB3.out.size hg4
  have hlen : (sealed (head4 n ++ p)).length = n + 8 := by have := HL.out; simp [sealed, head4, le4]; omega
  rw [hlen]
  clear hlen
  go_wp2
  go_ret2
  have hl := HL.out
  refine ⟨g4, ?_, hg4', ?_, HB4.out⟩
  · rw [hl]; rfl
  · rw [frame, hl]; exact HR4.out
end Go.Proofs.YtoophonmonojcaaDoor

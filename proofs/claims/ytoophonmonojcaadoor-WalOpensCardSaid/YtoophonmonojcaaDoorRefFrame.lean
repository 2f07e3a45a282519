/- Contracts of jotterref03.Frame, jotterlaw03.kept, jotterlaw03.over. -/
import Derived.Test.YtoophonmonojcaaDoorGRef2
import Derived.Test.YtoophonmonojcaaDoorGOwn
import Derived.Test.YtoophonmonojcaaDoorGEq
namespace Go.Proofs.YtoophonmonojcaaDoor
open Go.RowKit

theorem balloc (w : World) (X : Obj) : Below w.heap.size w (w.alloc X) := (Below.refl _ w).alloc (Nat.le_refl _) X
theorem Own.lowB {w : World} {B B' : Nat} {v : Value} {l : List UInt8} (h : Own w B v l) (hb : B' ≤ B) : Own w B' v l := by
  obtain ⟨h1, h2⟩ := h
  refine ⟨h1, ?_⟩
  rcases h2 with h2 | ⟨g, cap, cur, hv, hB, hg, r⟩
  · exact .inl h2
  · exact .inr ⟨g, cap, cur, hv, Nat.le_trans hb hB, hg, r⟩
theorem refFrame_bad (ao : Option Addr) (n cap : Nat) (w : World) (hn : n < 1 ∨ 64 < n) (hb : n ≤ 140737488355328) :
    Calls Tryd.prog 37 #[.slice ao n cap] w fun e w' => e = .returned (.tuple #[.slice none 0 0, .int .i64 30, .int .i64 (-1)]) ∧ w = w' := by
  rcases hn with hn | hn
  all_goals
    go_enter Tryd.func37, Tryd.ntmps37
    go_wp2_with fail
    go_ret3
    exact ⟨rfl, rfl⟩
/-- What jotterref03.Frame answers of a payload that may be. -/
def RefFramed (w : World) (p : List UInt8) (e : Ending) (w' : World) : Prop := ∃ v, e = .returned (.tuple #[v, .int .i64 0, .int .i64 (-1)]) ∧ Own w' w.heap.size v (frame p) ∧ Below w.heap.size w w'
set_option maxRecDepth 100000 in
set_option maxHeartbeats 1000000 in
theorem refFrame_ok (ao : Option Addr) (n cap : Nat) (p : List UInt8) (w : World) (hl : p.length = n) (hr : Rd w ao p) (h1 : 1 ≤ n) (h2 : n ≤ 64) :
    Calls Tryd.prog 37 #[.slice ao n cap] w (RefFramed w p) := by
  have HL := Lib.hid hl; have HR := Lib.hid hr
  clear hl hr
  obtain ⟨b, off, rfl, hbw, _⟩ := HR.out.some (by have := HL.out; omega)
  clear hbw
  go_enter Tryd.func37, Tryd.ntmps37
  have hb0 := balloc w (.cells #[Value.int .u8 ((n : Int) / 256), Value.int .u8 ((n : Int) % 256), Value.int .u8 ((65535 - (n : Int)) / 256), Value.int .u8 ((65535 - (n : Int)) % 256)] 5)
  have hr0 : Row (w.alloc (.cells #[Value.int .u8 ((n : Int) / 256), Value.int .u8 ((n : Int) % 256), Value.int .u8 ((65535 - (n : Int)) / 256), Value.int .u8 ((65535 - (n : Int)) % 256)] 5)) w.heap.size (head4 n) := row_new w _ (head4 n) (by
    simp only [head4, List.map_cons, List.map_nil, bv_u8]
    rw [Int.emod_eq_of_lt (a := (n : Int) / 256) (by omega) (by omega), Int.emod_eq_of_lt (a := (65535 - (n : Int)) / 256) (by omega) (by omega)])
  have HB0 := Lib.hid hb0; have HO0 := Lib.hid (show Own (w.alloc (.cells #[Value.int .u8 ((n : Int) / 256), Value.int .u8 ((n : Int) % 256), Value.int .u8 ((65535 - (n : Int)) / 256), Value.int .u8 ((65535 - (n : Int)) % 256)] 5)) w.heap.size (.slice (some ⟨w.heap.size, 0, none⟩) 4 4) (head4 n) from hr0.own (B := w.heap.size) (Nat.le_refl _) (by rw [head4_length]; unfold maxLen; omega))
  clear hr0 hb0
  go_wp2_with (at_builtin; go_must (with_reducible refine wpList_appendB1 rfl (.tmp 31) (.tmp 32) rfl w.heap.size (.slice (some ⟨w.heap.size, 0, none⟩) 4 4) (head4 n) p rfl HO0.out _ _ _ rfl (fun h => by cases h) HL.out (HR.out.step HB0.out) (by rw [head4_length]; omega) HB0.out.size (by omega) (n + 4) (by rw [head4_length]; omega) ?_); intro g3 c3 w3 ho3 hgr3; have HO3 := Lib.hid ho3; have HB3 := Lib.hid (Own.grown HO0.out HB0.out HB0.out.size hgr3); clear ho3 hgr3)
  go_wp2_with fail
  have hrd := HO3.out.rd
  refine (refSeal_any _ (n + 4) c3 (head4 n ++ p) _ hrd.1 hrd.2.2.2.1 (by omega)).mono ?_
  clear hrd
  rintro e w4 ⟨v4, rfl, ho4, hb4⟩
  have HO4 := Lib.hid (ho4.lowB HB3.out.size); have HB4 := Lib.hid (HB3.out.trans (hb4.mono HB3.out.size))
  clear ho4 hb4
  go_wp2_with fail
  go_ret3
  refine ⟨_, rfl, ?_, HB4.out⟩
  have h := HO4.out
  rw [frame, HL.out]
  exact h
set_option maxRecDepth 100000 in
set_option maxHeartbeats 1000000 in
theorem kept_any (a1 a2 : Option Addr) (n1 c1 n2 c2 : Nat) (l m : List UInt8) (w : World) (h1 : l.length = n1) (h2 : m.length = n2) (r1 : Rd w a1 l) (r2 : Rd w a2 m) (hb1 : n1 ≤ 140737488355328) (hb : n2 ≤ 140737488355328) :
    Calls Tryd.prog 40 #[.slice a1 n1 c1, .slice a2 n2 c2] w (RetV w (.bool (l == roomy m))) := by
  have H1 := Lib.hid h1; have H2 := Lib.hid h2; have R1 := Lib.hid r1; have R2 := Lib.hid r2
  clear h1 h2 r1 r2
  go_enter Tryd.func40, Tryd.ntmps40
  go_wp2_with fail
  refine (law03_room_any a2 n2 c2 m _ H2.out R2.out hb).mono ?_
  rintro e w2 ⟨g, rfl, hg, hr, hb2⟩
  have HR := Lib.hid hr; have HB2 := Lib.hid hb2
  clear hr hb2
  go_wp2_with fail
  refine (law03_eq_any a1 (some ⟨g, 0, none⟩) n1 c1 _ _ l (roomy m) _ H1.out rfl (R1.out.step HB2.out) HR.out.rd hb1).mono ?_
  intro e w3 h3
  obtain ⟨rfl, hb3⟩ := h3.below
  have HB3 := Lib.hid (HB2.out.trans (hb3.mono HB2.out.size))
  clear h3 hb3
  go_wp2_with fail
  go_ret
  exact ⟨rfl, HB3.out⟩
/-- What over leaves. -/
def OverPost (w : World) (g n : Nat) (e : Ending) (w' : World) : Prop := e = .returned (.tuple #[]) ∧ Row w' g (List.replicate n 238) ∧ w.grownBy w' (some g)
set_option maxRecDepth 100000 in
set_option maxHeartbeats 1000000 in
theorem over_any (g n cap : Nat) (l : List UInt8) (w : World) (hl : l.length = n) (hr : Row w g l) (hb : n ≤ 1000000000000000) :
    Calls Tryd.prog 41 #[.slice (some ⟨g, 0, none⟩) n cap] w (OverPost w g n) := by
  have HL := Lib.hid hl; have HR := Lib.hid hr
  clear hl hr
  go_enter Tryd.func41, Tryd.ntmps41
  go_wp2_with fail
  go_loopw [2] (fun i wr => ∃ k : Nat, k ≤ n ∧ i = .int .i64 k ∧ Row wr g (overL l 238 k) ∧ w.grownBy wr (some g)) (fun i _ => n - (intOf i).toNat)
  case atStart => exact ⟨0, Nat.zero_le _, rfl, by rw [overL_zero]; exact HR.out, World.grownBy.refl _ _⟩
  case round =>
    obtain ⟨k, hk, rfl, hrow, hgr⟩ := hrel
    by_cases hlt : k < n
    · have hlen := overL_len l 238 k (by have := HL.out; omega)
      have hfz : wr.frozen? ⟨g, k, none⟩ = false := hrow.frozen _ _
      have hcl := hrow.cell k (by rw [hlen, HL.out]; exact hlt)
      have hset := hrow.set k 238
      rw [overL_set l 238 k (by have := HL.out; omega)] at hset
      have hgs : w.grownBy (wr.setCell ⟨g, k, none⟩ (.int .u8 ((238 : UInt8).toNat : Int))) (some g) := grown_trans hgr (grown_setCell _ _ _)
      have HSET := Lib.hid hset; have HGS := Lib.hid hgs
      clear hset hgs hgr hlen hrow
      go_wp2_with fail
      go_roundw
      case rel => exact ⟨k + 1, by omega, by go_num, HSET.out, HGS.out⟩
      case measure => simp [intOf]; omega
    · obtain rfl : k = n := by omega
      have HROW := Lib.hid hrow; have HGR := Lib.hid hgr
      clear hrow hgr
      go_wp2_with fail
      go_end0
      have h := HROW.out
      rw [overL_full HL.out] at h
      exact ⟨rfl, h, HGR.out⟩
end Go.Proofs.YtoophonmonojcaaDoor

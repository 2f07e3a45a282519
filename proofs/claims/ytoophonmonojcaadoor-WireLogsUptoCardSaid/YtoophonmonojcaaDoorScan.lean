/- The contract of wal.Scan. -/
import Derived.Test.YtoophonmonojcaaDoorLists
namespace Go.Proofs.YtoophonmonojcaaDoor
open Go.RowKit

/-- What wal.Scan answers. -/
def Scanned (w : World) (l : List UInt8) (e : Ending) (w' : World) : Prop :=
  ∃ v ev, e = .returned (.tuple #[v, .int .i64 (scan l).2.1, ev]) ∧ OwnRows w' 0 w.heap.size v (scan l).1 ∧
    ((ev = .nilIface ∧ (scan l).2.2 = 0) ∨ ((scan l).2.2 ≠ 0 ∧ ∃ g, ev = faultV g ∧ w'.heap[g]? = some (faultObj (scan l).2.1 (scan l).2.2))) ∧ Below w.heap.size w w'

set_option maxHeartbeats 1000000 in
theorem scan_row (b off n cap : Nat) (l : List UInt8) (w : World) (hl : l.length = n) (hr : Rd w (some ⟨b, off, none⟩) l) (hcap : n ≤ cap) (hb : n ≤ 46000000000000) (ht : Tab w) :
    Calls Tryd.prog 30 #[.slice (some ⟨b, off, none⟩) n cap] w (Scanned w l) := by
  have HL := Lib.hid hl; have HR := Lib.hid hr; have HT := Lib.hid ht; clear hl hr ht
  go_enter Tryd.func30, Tryd.ntmps30
  go_wp2
  go_step3
  go_wp2
  go_step3
  go_wp2_with fail
  go_loopw [5, 6, 7] (fun v y i wr => ∃ (k : Nat) (ps : List (List UInt8)), k ≤ n ∧ y = .nilIface ∧ i = .int .i64 k ∧ OwnRows wr 0 w.heap.size v ps ∧ Below w.heap.size w wr ∧ ps.length * 9 ≤ k ∧
      Hid ((scan l).1 = ps ++ (scan (l.drop k)).1 ∧ (scan l).2.1 = k + (scan (l.drop k)).2.1 ∧ (scan l).2.2 = (scan (l.drop k)).2.2)) (fun _ _ i _ => n - (intOf i).toNat)
  case atStart => exact ⟨0, [], Nat.zero_le _, rfl, rfl, OwnRows.nil _ _ _, Below.refl _ _, Nat.le_refl _, by simp [Hid]⟩
  case round =>
    obtain ⟨k, ps, hk, rfl, rfl, hown, hbel, hps, hsc⟩ := hrel
    have HOWN := Lib.hid hown; have HBEL := Lib.hid hbel; clear hown hbel
    by_cases hlt : k < n
    · go_wp2_with fail
      refine (record_any b off n cap k l _ HL.out (HR.out.step HBEL.out) hlt hcap (by omega) (HT.out.step HBEL.out)).mono ?_
      obtain ⟨q, hq⟩ : ∃ q, q = l.drop k := ⟨_, rfl⟩
      have hq0 : q ≠ [] := by
        intro h0
        have h1 : q.length = n - k := by rw [hq]; have := HL.out; simp; omega
        rw [h0] at h1; simp at h1; omega
      rw [← hq] at hsc
      rw [← hq]
      have HQ := Lib.hid hq; have HQ0 := Lib.hid hq0; clear hq hq0
      rintro e w1 (⟨hc, g, rfl, hg, hrow, hb1⟩ | ⟨hc, g, rfl, hnf⟩)
      · have hB : w.heap.size ≤ g := Nat.le_trans HBEL.out.size hg
        have hel := recOk_elem hc hrow hB
        have hrl := recCode_ok hc
        have hql : q.length = n - k := by rw [HQ.out]; have := HL.out; simp; omega
        obtain ⟨r, hr⟩ : ∃ r, r = recLen q := ⟨_, rfl⟩
        rw [← hr] at hel hrl
        rw [← hr]
        have hr1 := hrl.1
        have hr2 := hrl.2.1
        have hr3 : r + 8 ≤ n - k := by have := hrl.2.2.1; omega
        have HEL := Lib.hid hel; have HC := Lib.hid hc; have HR' := Lib.hid hr
        have HOWN1 := Lib.hid (HOWN.out.keep (hb1)); have HBEL1 := Lib.hid (HBEL.out.trans (hb1.mono HBEL.out.size))
        clear hel hc hr hrl hql hrow hb1
        go_wp2_with (at_builtin; go_must (with_reducible refine wpList_appendRow rfl (.tmp 20) (.tmp 22) rfl 0 w.heap.size (Nat.zero_le _) u5 ps rfl (HOWN1.out.keep ((Below.refl _ w1).alloc (Nat.le_refl _) _)) ⟨w1.heap.size, 0, none⟩ 1 rfl _ (recPay q) (by simp) (HEL.out.keep ((Below.refl _ w1).alloc (Nat.le_refl _) _)) (by omega) (by have := HBEL1.out.size; simp; omega) ?_); intro v2 w2 ho2 hg2; have HO2 := Lib.hid ho2; have HG2 := Lib.hid hg2; clear ho2 hg2)
        go_roundw
        case rel =>
          have hB1 := HBEL1.out
          have hB2 := (HOWN1.out.keep ((Below.refl _ w1).alloc (Nat.le_refl _) (.cells #[.slice (some ⟨g, 4, none⟩) r r] 27))).grown (hB1.alloc hB1.size _) (by have := hB1.size; simp; omega) HG2.out
          have e1 : q.drop (r + 8) = l.drop (k + (r + 8)) := by rw [HQ.out, List.drop_drop]
          have e2 := scan_ok HC.out
          rw [← HR'.out, e1] at e2
          have e3 := hsc.out
          rw [e2] at e3
          dsimp only at e3
          refine ⟨k + (r + 8), ps ++ [recPay q], by omega, rfl, by go_num, HO2.out, hB2, by simp; omega, ?_⟩
          refine ⟨by rw [e3.1]; simp, by rw [e3.2.1]; omega, e3.2.2⟩
        case measure => simp [intOf]; omega
      · have HC := Lib.hid hc; have HNF := Lib.hid hnf; clear hc hnf
        go_wp2_with fail
        rw [Exit.noGoto_ret]
        go_ret3
        have e2 := scan_bad HQ0.out HC.out
        have e3 := hsc.out
        rw [e2] at e3
        simp only [List.append_nil, Nat.add_zero] at e3
        refine ⟨u5, faultV g, ?_, ?_, .inr ⟨by rw [e3.2.2]; exact HC.out, g, rfl, ?_⟩, HBEL.out.trans (HNF.out.2.2.mono HBEL.out.size)⟩
        · rw [e3.2.1]; rfl
        · rw [e3.1]; exact HOWN.out.keep HNF.out.2.2
        · rw [e3.2.1, e3.2.2]; exact HNF.out.2.1
    · obtain rfl : k = n := by omega
      go_wp2_with fail
      rw [Exit.noGoto_ret]
      go_ret3
      have e2 : l.drop k = [] := List.drop_eq_nil_of_le (by have := HL.out; omega)
      have e3 := hsc.out
      rw [e2, scan_nil] at e3
      simp only [List.append_nil, Nat.add_zero] at e3
      refine ⟨u5, .nilIface, ?_, ?_, .inl ⟨rfl, e3.2.2⟩, HBEL.out⟩
      · rw [e3.2.1]; rfl
      · rw [e3.1]; exact HOWN.out

/-- No byte: nothing to scan. -/
theorem scan_empty (ao : Option Addr) (cap : Nat) (w : World) : Calls Tryd.prog 30 #[.slice ao 0 cap] w (Scanned w []) := by
  go_enter Tryd.func30, Tryd.ntmps30
  go_wp2
  go_step3
  go_wp2
  go_step3
  go_wp2_with fail
  refine wp_loop_rounds 1 ?_
  rw [rounds_succ]
  go_wp2_with fail
  rw [Exit.noGoto_ret]
  go_ret3
  refine ⟨.slice none 0 0, .nilIface, ?_, ?_, .inl ⟨rfl, ?_⟩, Below.refl _ _⟩
  · rw [scan_nil]; rfl
  · rw [scan_nil]; exact OwnRows.nil _ _ _
  · rw [scan_nil]
theorem scan_any (ao : Option Addr) (n cap : Nat) (l : List UInt8) (w : World) (hl : l.length = n) (hr : Rd w ao l) (hcap : n ≤ cap) (hb : n ≤ 46000000000000) (ht : Tab w) :
    Calls Tryd.prog 30 #[.slice ao n cap] w (Scanned w l) := by
  rcases Nat.eq_zero_or_pos n with h0 | h0
  · subst h0
    obtain rfl : l = [] := List.eq_nil_of_length_eq_zero hl
    exact scan_empty ao cap w
  · obtain ⟨b, off, rfl, _, _⟩ := hr.some (by omega)
    exact scan_row b off n cap l w hl hr hcap hb ht
end Go.Proofs.YtoophonmonojcaaDoor

/- The walk of jotterlaw03.WalWhole: it answers true. -/
import Derived.Test.YtoophonmonojcaaDoorWalPrefixW
namespace Go.Proofs.YtoophonmonojcaaDoor
open Go.RowKit

theorem joined_count {ps : List (List UInt8)} : ps.length ≤ (joined ps).length := by
  induction ps with
  | nil => simp
  | cons p t ih => rw [joined_cons]; simp [frame_length]; omega
theorem hp_lt {w : World} {g : Nat} {x} (h : w.heap[g]? = some x) : g < w.heap.size := by
  rcases Nat.lt_or_ge g w.heap.size with k | k
  · exact k
  · rw [Array.getElem?_eq_none k] at h; cases h
theorem fault_step {w w' : World} {g : Nat} {x} (h : w.heap[g]? = some x) (hb : Below w.heap.size w w') : w'.heap[g]? = some x := (hb.block g (hp_lt h)).trans h

set_option maxRecDepth 100000 in
set_option maxHeartbeats 2000000 in
theorem walWhole_empty (ao : Option Addr) (cap : Nat) (w : World) (hz : ao = none → cap = 0) (ht : Tab w) (hE : EType w) :
    Calls Tryd.prog 10 #[.slice ao 0 cap] w (RetV w (.bool true)) := by
  have HT := Lib.hid ht; have HE := Lib.hid hE; clear ht hE
  go_enter Tryd.func10, Tryd.ntmps10
  go_wp2_with fail
  refine (fixed_any _ HT.out).mono ?_
  rintro e w0 ⟨rfl, hb0⟩
  have HB0 := Lib.hid hb0; clear hb0
  go_wp2_with fail
  refine (scan_any ao 0 cap [] _ rfl (fun i hi => by simp at hi) (by omega) (by omega) (HT.out.step HB0.out)).mono ?_
  rintro e w1 ⟨vs, ev, rfl, hvs, hev, hb1⟩
  rw [scan_nil] at hvs hev
  rw [scan_nil]
  dsimp only at hvs hev
  have HB1 := Lib.hid (HB0.out.trans (hb1.mono HB0.out.size))
  clear hb1
  obtain rfl : ev = .nilIface := by rcases hev with ⟨h, _⟩ | ⟨h, _⟩; exact h; exact absurd rfl h
  clear hev
  obtain ⟨av, cv, rfl, hvc, hrv, _⟩ := hvs.read
  replace hvc : 0 ≤ cv := hvc
  have HRV := Lib.hid hrv
  clear hvs hrv
  rw [show ([] : List (List UInt8)).length = 0 from rfl]
  go_wp2_with fail
  refine (joined_any av 0 cv [] _ rfl HRV.out (fun p hp => by simp at hp) (by omega) (HT.out.step HB1.out)).mono ?_
  rintro e w2 ⟨vj, rfl, hoj, hb2⟩
  have HB2 := Lib.hid (HB1.out.trans (hb2.mono HB1.out.size)); clear hb2
  obtain ⟨aj, cj, hj, hjc, hjm, hrj, _⟩ := hoj.shape
  rw [show (joined []).length = 0 from rfl] at hj
  subst hj
  have hnj := hoj.rd.2.2.2.2
  have HNJ := Lib.hid hnj
  clear hoj hrj hnj
  go_wp2_with fail
  refine (eq_any_sl _ _ [] [] _ ⟨aj, cj, rfl, Nat.zero_le _, fun i hi => by simp at hi, HNJ.out⟩ ⟨ao, cap, rfl, Nat.zero_le _, fun i hi => by simp at hi, hz⟩ (by simp)).mono ?_
  intro e w3 hq
  obtain ⟨rfl, hb4⟩ := hq.below
  have HB4 := Lib.hid (HB2.out.trans (hb4.mono HB2.out.size))
  clear hq
  rw [beq_self_eq_true]
  go_wp2
  go_ret
  exact ⟨rfl, HB4.out⟩

set_option maxRecDepth 100000 in
set_option maxHeartbeats 2000000 in
theorem walWhole_any (ao : Option Addr) (n cap : Nat) (l : List UInt8) (w : World) (hl : l.length = n) (hr : Rd w ao l) (hcap : n ≤ cap) (hz : ao = none → cap = 0) (hb : n ≤ 1048576) (ht : Tab w) (hE : EType w) :
    Calls Tryd.prog 10 #[.slice ao n cap] w (RetV w (.bool true)) := by
  rcases Nat.eq_zero_or_pos n with h0 | h0
  · subst h0; exact walWhole_empty ao cap w hz ht hE
  obtain ⟨b, off, rfl, _, _⟩ := hr.some (by omega)
  have HL := Lib.hid hl; have HR := Lib.hid hr; have HT := Lib.hid ht; have HE := Lib.hid hE
  clear hl hr ht hE hz
  go_enter Tryd.func10, Tryd.ntmps10
  go_wp2_with fail
  refine (fixed_any _ HT.out).mono ?_
  rintro e w0 ⟨rfl, hb0⟩
  have HB0 := Lib.hid hb0; clear hb0
  go_wp2_with fail
  refine (scan_any _ n cap l _ HL.out (HR.out.step HB0.out) (by omega) (by omega) (HT.out.step HB0.out)).mono ?_
  rintro e w1 ⟨vs, ev, rfl, hvs, hev, hb1⟩
  have hfs := fits_scan l
  have hrest := scan_rest l
  obtain ⟨ps, good, code, hsc⟩ : ∃ ps good code, scan l = (ps, good, code) := ⟨_, _, _, rfl⟩
  rw [hsc] at hvs hev hfs hrest
  rw [hsc]
  dsimp only at hvs hev hfs hrest
  obtain ⟨hff, hjo, hgl, hcg, _⟩ := hfs
  rw [HL.out] at hgl hcg
  have HB1 := Lib.hid (HB0.out.trans (hb1.mono HB0.out.size))
  clear hb1 hsc
  obtain ⟨av, cv, rfl, hvc, hrv, _⟩ := hvs.read
  have hpn : ps.length ≤ n := by
    have := joined_count (ps := ps)
    rw [hjo, List.length_take] at this
    omega
  have hjl : (l.take good).length = good := by rw [List.length_take, HL.out]; omega
  have HRV := Lib.hid hrv; have HFF := Lib.hid hff; have HJO := Lib.hid hjo; have HJL := Lib.hid hjl; have HCG := Lib.hid hcg; have HREST := Lib.hid hrest
  have HEV := Lib.hid hev
  clear hvs hrv hff hjo hjl hcg hrest hev
  go_wp2_with fail
  refine (joined_any av _ cv ps _ rfl HRV.out HFF.out (by omega) (HT.out.step HB1.out)).mono ?_
  rintro e w2 ⟨vj, rfl, hoj, hb2⟩
  have HB2 := Lib.hid (HB1.out.trans (hb2.mono HB1.out.size))
  have HB12 := Lib.hid hb2; clear hb2
  rw [HJO.out] at hoj
  obtain ⟨aj, cj, hj, hjc, hjm, hrj, _⟩ := hoj.shape
  have HRJ := Lib.hid hrj
  rw [HJL.out] at hjc hj
  subst hj
  have HNJ := Lib.hid hoj.rd.2.2.2.2
  clear hoj hrj
  go_wp2_with fail
  refine (eq_any_sl _ _ (l.take good) (l.take good) _ ⟨aj, cj, by rw [HJL.out], by rw [HJL.out]; omega, HRJ.out, HNJ.out⟩ ⟨_, cap, by rw [HJL.out], by rw [HJL.out]; omega, (HR.out.step HB2.out).take good, fun h => by cases h⟩ (by rw [HJL.out]; omega)).mono ?_
  intro e w3 hq
  obtain ⟨rfl, hb4⟩ := hq.below
  have HB4 := Lib.hid (HB2.out.trans (hb4.mono HB2.out.size))
  have HB14 := Lib.hid (HB12.out.trans (hb4.mono HB12.out.size))
  clear hq hb4
  rw [beq_self_eq_true]
  rcases HEV.out with ⟨rfl, hc0⟩ | ⟨hc0, g, rfl, hg⟩
  · have hgn : good = n := HCG.out.1 hc0
    subst hgn
    clear hc0
    go_wp2
    go_ret
    exact ⟨by simp, HB4.out⟩
  · have hgn : good < n := by
      rcases Nat.lt_or_ge good n with h | h
      · exact h
      · exact absurd (HCG.out.2 (by omega)) hc0
    have HG := Lib.hid (fault_step hg HB14.out)
    have HC0 := Lib.hid hc0
    clear hg hc0
    go_wp2_with fail
    refine (scan_any _ (n - good) (cap - good) (l.drop good) _ (by rw [List.length_drop, HL.out]) ((HR.out.step HB4.out).cut good) (by omega) (by omega) (HT.out.step HB4.out)).mono ?_
    rintro e w4 ⟨vs, ev, rfl, hvs, hev, hb5⟩
    rw [HREST.out HC0.out] at hvs hev
    rw [HREST.out HC0.out]
    dsimp only at hvs hev
    have HB5 := Lib.hid (HB4.out.trans (hb5.mono HB4.out.size))
    have HG5 := Lib.hid (fault_step HG.out hb5)
    clear hb5
    obtain ⟨av, cv, rfl, hvc, hrv, _⟩ := hvs.read
    clear hvs hrv
    replace hvc : 0 ≤ cv := hvc
    rw [show ([] : List (List UInt8)).length = 0 from rfl]
    obtain ⟨g', rfl, hg'⟩ : ∃ g, ev = faultV g ∧ w4.heap[g]? = some (faultObj 0 code) := by rcases hev with ⟨_, h⟩ | ⟨_, h⟩; exact absurd h HC0.out; exact h
    have HG' := Lib.hid hg'
    clear hev hg'
    go_wp2_with fail
    refine (place_any _ code good _ (.inr (.inr ⟨_, rfl, HG5.out⟩)) (HE.out.step HB5.out)).mono ?_
    rintro e w6 ⟨rfl, hb⟩
    have HB6 := Lib.hid (HB5.out.trans (hb.mono HB5.out.size))
    have HGAHB6 := Lib.hid (fault_step HG5.out hb)
    have HGBHB6 := Lib.hid (fault_step HG'.out hb)
    clear hb
    go_wp2_with fail
    refine (place_any _ code 0 _ (.inr (.inr ⟨_, rfl, HGBHB6.out⟩)) (HE.out.step HB6.out)).mono ?_
    rintro e w7 ⟨rfl, hb⟩
    have HB7 := Lib.hid (HB6.out.trans (hb.mono HB6.out.size))
    have HGAHB7 := Lib.hid (fault_step HGAHB6.out hb)
    have HGBHB7 := Lib.hid (fault_step HGBHB6.out hb)
    clear hb
    go_wp2_with fail
    refine (code_any _ code 0 _ (.inr (.inr ⟨_, rfl, HGBHB7.out⟩)) (HE.out.step HB7.out)).mono ?_
    rintro e w8 ⟨rfl, hb⟩
    have HB8 := Lib.hid (HB7.out.trans (hb.mono HB7.out.size))
    have HGAHB8 := Lib.hid (fault_step HGAHB7.out hb)
    have HGBHB8 := Lib.hid (fault_step HGBHB7.out hb)
    clear hb
    go_wp2_with fail
    refine (code_any _ code good _ (.inr (.inr ⟨_, rfl, HGAHB8.out⟩)) (HE.out.step HB8.out)).mono ?_
    rintro e w9 ⟨rfl, hb⟩
    have HB9 := Lib.hid (HB8.out.trans (hb.mono HB8.out.size))
    have HGAHB9 := Lib.hid (fault_step HGAHB8.out hb)
    have HGBHB9 := Lib.hid (fault_step HGBHB8.out hb)
    clear hb
    go_wp2
    go_ret
    exact ⟨by simp, HB9.out⟩
end Go.Proofs.YtoophonmonojcaaDoor

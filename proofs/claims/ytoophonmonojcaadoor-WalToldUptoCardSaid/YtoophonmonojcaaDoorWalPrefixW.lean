/- The walk of jotterlaw03.WalPrefix: it answers true. -/
import Derived.Test.YtoophonmonojcaaDoorAmong
namespace Go.Proofs.YtoophonmonojcaaDoor
open Go.RowKit

/-- The shape of a list of bytes of the call's own: nil, or a row's head. -/
theorem Own.cases {w : World} {B : Nat} {v : Value} {l : List UInt8} (h : Own w B v l) : (v = .slice none 0 0 ∧ l = []) ∨ ∃ g cap, v = .slice (some ⟨g, 0, none⟩) l.length cap ∧ l.length ≤ cap ∧ cap ≤ maxLen ∧ Rd w (some ⟨g, 0, none⟩) l ∧ B ≤ g ∧ g < w.heap.size := by
  obtain ⟨ao, cap, rfl, h1, h2, h3, h4, h5, h6⟩ := h.shape
  cases ao with
  | none =>
    have := h5 rfl
    subst this
    have := h.rd.2.2.2.2 rfl
    subst this
    exact .inl ⟨rfl, rfl⟩
  | some a =>
    obtain ⟨g, rfl⟩ := h6 a rfl
    exact .inr ⟨g, cap, rfl, h1, h2, h3, (h4 _ rfl).1, (h4 _ rfl).2⟩
theorem joined_empty {ps : List (List UInt8)} (hf : Fits ps) (h : joined ps = []) : ps = [] := by
  cases ps with
  | nil => rfl
  | cons p t => rw [joined_cons] at h; have := congrArg List.length h; simp [frame_length] at this

set_option maxRecDepth 100000 in
set_option maxHeartbeats 2000000 in
theorem walPrefix_any (ao : Option Addr) (n cap : Nat) (ps : List (List UInt8)) (k : Int) (w : World) (hl : ps.length = n) (hr : RdRows w ao ps) (hb : n ≤ 1048576) (hk1 : -9223372036854775808 ≤ k) (hk2 : k ≤ 9223372036854775807) (ht : Tab w) (hE : EType w) :
    Calls Tryd.prog 8 #[.slice ao n cap, .int .i64 k] w (RetV w (.bool true)) := by
  have HL := Lib.hid hl; have HR := Lib.hid hr; have HT := Lib.hid ht; have HE := Lib.hid hE
  clear hl hr ht hE
  go_enter Tryd.func8, Tryd.ntmps8
  go_wp2_with fail
  refine (fixed_any _ HT.out).mono ?_
  rintro e w0 ⟨rfl, hb0⟩
  have HB0 := Lib.hid hb0; clear hb0
  go_wp2_with fail
  refine (fit_any _ n cap ps _ HL.out (HR.out.step HB0.out) (by omega)).mono ?_
  rintro e w1 ⟨vf, rfl, hof, hb1⟩
  have HB1 := Lib.hid (HB0.out.trans (hb1.mono HB0.out.size)); clear hb1
  obtain ⟨af, cf, rfl, hfc, hrf, hnf⟩ := hof.read
  have hfk : (fits ps).length ≤ n := by have := fits_length ps; have := HL.out; omega
  obtain ⟨fs, hfs⟩ : ∃ fs, fs = fits ps := ⟨_, rfl⟩
  have hff : Fits fs := by rw [hfs]; exact fits_fits ps
  rw [← hfs] at hrf hfk hfc
  rw [← hfs]
  have hjl := joined_length_le fs hff
  have HFF := Lib.hid hff; have HRF := Lib.hid hrf
  clear hof hnf hff hrf hfs
  go_wp2_with fail
  refine (joined_any af _ cf fs _ rfl HRF.out HFF.out (by omega) (HT.out.step HB1.out)).mono ?_
  rintro e w2 ⟨vj, rfl, hoj, hb2⟩
  have HRF2 := Lib.hid (HRF.out.step hb2)
  have HB2 := Lib.hid (HB1.out.trans (hb2.mono HB1.out.size)); clear hb2
  obtain ⟨N, hN⟩ : ∃ N, N = (joined fs).length := ⟨_, rfl⟩
  rw [← hN] at hjl
  have hN0 := Int.emod_nonneg k (show ((N : Int) + 1) ≠ 0 by omega)
  have hN1 := Int.emod_lt_of_pos k (show (0 : Int) < (N : Int) + 1 by omega)
  obtain ⟨kk, hkk⟩ : ∃ kk : Nat, (kk : Int) = k % ((N : Int) + 1) := ⟨(k % ((N : Int) + 1)).toNat, by omega⟩
  have hkN : kk ≤ N := by omega
  clear hN0 hN1
  have HKK := Lib.hid hkk; have HN := Lib.hid hN; clear hkk hN
  have hoc := hoj.cases
  clear hoj
  rcases hoc with ⟨rfl, hj0⟩ | ⟨gj, cj, rfl, hjc, hjm, hrj, _, _⟩
  · have hN0 : N = 0 := by rw [HN.out, hj0]; rfl
    subst hN0
    obtain rfl := joined_empty HFF.out hj0
    obtain rfl : kk = 0 := by omega
    go_wp2_with fail
    refine (among_any k 1 _ hk1 hk2 (by omega) (by omega)).mono ?_
    rintro e w3 ⟨rfl, rfl⟩
    have hk0 : k % 1 = 0 := by omega
    rw [hk0]
    go_wp2_with fail
    refine (upTo_any af 0 cf [] 0 _ rfl HRF2.out HFF.out (by omega) (by omega)).mono ?_
    rintro e w4 ⟨i, at_, rfl, hw, rfl⟩
    obtain rfl : i = 0 := by have := hw.1; simpa using this
    obtain rfl : at_ = 0 := by have := hw.2.2.1; omega
    clear hw
    go_wp2_with fail
    refine (scan_any none 0 0 [] _ rfl (fun i hi => by simp at hi) (by omega) (by omega) (HT.out.step HB2.out)).mono ?_
    rintro e w5 ⟨vs, ev, rfl, hvs, hev, hb3⟩
    rw [scan_nil] at hvs hev
    rw [scan_nil]
    dsimp only at hvs hev
    have HB3 := Lib.hid (HB2.out.trans (hb3.mono HB2.out.size))
    have HRF3 := Lib.hid (HRF2.out.step hb3)
    clear hb3
    obtain rfl : ev = .nilIface := by rcases hev with ⟨h, _⟩ | ⟨h, _⟩; exact h; exact absurd rfl h
    clear hev
    obtain ⟨av, cv, rfl, hvc, hrv, _⟩ := hvs.read
    have HRV := Lib.hid hrv
    clear hvs hrv
    replace hvc : 0 ≤ cv := hvc
    rw [show ([] : List (List UInt8)).length = 0 from rfl]
    go_wp2_with fail
    refine (eqAll_any av af 0 cv 0 cf [] [] _ rfl rfl HRV.out HRF3.out (by omega) (fun p hp => by simp at hp)).mono ?_
    intro e w6 hq
    obtain ⟨rfl, hb4⟩ := hq.below
    have HB4 := Lib.hid (HB3.out.trans (hb4.mono HB3.out.size))
    clear hq
    rw [beq_self_eq_true]
    go_wp2
    go_ret
    exact ⟨rfl, HB4.out⟩
  · rw [← HN.out] at hjc
    rw [← HN.out]
    have HRJ := Lib.hid hrj; clear hrj
    go_wp2_with fail
    refine (among_any k ((N : Int) + 1) _ hk1 hk2 (by omega) (by omega)).mono ?_
    rintro e w3 ⟨rfl, rfl⟩
    rw [← HKK.out]
    go_wp2_with fail
    refine (upTo_any af _ cf fs kk _ rfl HRF2.out HFF.out (by omega) (by omega)).mono ?_
    rintro e w4 ⟨i, at_, rfl, hw, rfl⟩
    have hi := hw.1
    have hatk := hw.2.2.1
    have HSP := Lib.hid (scan_prefix HFF.out (by rw [← HN.out]; exact hkN) hw); clear hw
    have HKL : ((joined fs).take kk).length = kk := by rw [List.length_take, ← HN.out]; omega
    have HKL' := Lib.hid HKL; clear HKL
    go_wp2_with fail
    refine (scan_any (some ⟨gj, 0, none⟩) _ cj ((joined fs).take kk) _ HKL'.out (HRJ.out.take kk) (by omega) (by omega) (HT.out.step HB2.out)).mono ?_
    rintro e w5 ⟨vs, ev, rfl, hvs, hev, hb3⟩
    rw [HSP.out] at hvs hev
    rw [HSP.out]
    dsimp only at hvs hev
    have HB3 := Lib.hid (HB2.out.trans (hb3.mono HB2.out.size))
    have HRF3 := Lib.hid ((HRF2.out.take i).step hb3)
    clear hb3
    obtain ⟨av, cv, rfl, hvc, hrv, _⟩ := hvs.read
    have hpl : ∀ p ∈ fs.take i, p.length ≤ 140737488355328 := fun p hp => by have := ((fits_take HFF.out i) p hp).2; omega
    have hil : (fs.take i).length = i := by rw [List.length_take]; omega
    have HRV := Lib.hid hrv; have HPL := Lib.hid hpl
    clear hvs hrv hpl
    rw [hil] at hvc
    rw [hil]
    have HIL := Lib.hid hil; clear hil
    go_wp2_with fail
    refine (eqAll_any av af i cv i cf _ _ _ HIL.out HIL.out HRV.out HRF3.out (by omega) HPL.out).mono ?_
    intro e w6 hq
    obtain ⟨rfl, hb4⟩ := hq.below
    have HB4 := Lib.hid (HB3.out.trans (hb4.mono HB3.out.size))
    clear hq
    rw [beq_self_eq_true]
    by_cases hke : at_ = kk
    · rw [if_pos hke] at hev
      obtain rfl : ev = .nilIface := by rcases hev with ⟨h, _⟩ | ⟨h, _⟩; exact h; exact absurd rfl h
      subst hke
      clear hev
      go_wp2
      go_ret
      exact ⟨rfl, HB4.out⟩
    · rw [if_neg hke] at hev
      obtain ⟨g, rfl, hg⟩ : ∃ g, ev = faultV g ∧ w5.heap[g]? = some (faultObj at_ 32) := by rcases hev with ⟨_, h⟩ | ⟨_, h⟩; exact absurd h (by decide); exact h
      have hgs : g < w5.heap.size := by
        rcases Nat.lt_or_ge g w5.heap.size with h | h
        · exact h
        · rw [Array.getElem?_eq_none h] at hg; cases hg
      have HG := Lib.hid ((hb4.block g hgs).trans hg)
      clear hev hg hgs
      go_wp2_with fail
      refine (law03_is _ 32 at_ _ (.inr (.inr ⟨g, rfl, HG.out⟩)) (HE.out.step HB4.out)).mono ?_
      rintro e w7 ⟨rfl, hb5⟩
      have HB5 := Lib.hid (HB4.out.trans (hb5.mono HB4.out.size))
      clear hb5
      go_wp2
      go_ret
      exact ⟨rfl, HB5.out⟩
end Go.Proofs.YtoophonmonojcaaDoor

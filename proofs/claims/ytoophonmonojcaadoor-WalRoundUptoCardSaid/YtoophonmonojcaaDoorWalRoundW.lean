/- The walk of jotterlaw03.WalRound: it answers true. -/
import Derived.Test.YtoophonmonojcaaDoorFit
namespace Go.Proofs.YtoophonmonojcaaDoor
open Go.RowKit

theorem fits_all (ps : List (List UInt8)) : Fits (fits ps) := fits_fits ps

set_option maxRecDepth 100000 in
set_option maxHeartbeats 2000000 in
theorem walRound_any (ao : Option Addr) (n cap : Nat) (ps : List (List UInt8)) (w : World) (hl : ps.length = n) (hr : RdRows w ao ps) (hb : n ≤ 1048576) (hsz : ∀ p ∈ ps, p.length ≤ 140737488355328) (ht : Tab w) (hE : EType w) :
    Calls Tryd.prog 5 #[.slice ao n cap] w (RetV w (.bool true)) := by
  have HL := Lib.hid hl; have HR := Lib.hid hr; have HT := Lib.hid ht; have HE := Lib.hid hE; have HSZ := Lib.hid hsz
  have hao : ∃ b off, (ao = some ⟨b, off, none⟩ ∨ n ≤ 0) ∧ (0 < n → b < w.heap.size) ∧ ∀ i, i < n → ∃ x, w.cell? ⟨b, off + i, none⟩ = some x ∧ Sl w x (ps.getD i []) := by
    rcases Nat.eq_zero_or_pos n with h | h
    · exact ⟨0, 0, .inr (by omega), fun h' => by omega, fun i hi => by omega⟩
    · obtain ⟨b, off, e, hbw, hc⟩ := hr.some (by omega)
      exact ⟨b, off, .inl e, fun _ => hbw, fun i hi => hc i (by omega)⟩
  obtain ⟨b, off, hao, hbw, hc⟩ := hao
  have HC := Lib.hid hc; clear hl hr hc ht hE hsz
  rcases hao with rfl | hp
  all_goals
    go_enter Tryd.func5, Tryd.ntmps5
    go_wp2_with fail
    refine (fixed_any _ HT.out).mono ?_
    rintro e w0 ⟨rfl, hb0⟩
    have HB0 := Lib.hid hb0; clear hb0
    go_wp2_with fail
    go_loopw [3] (fun i wr => ∃ (k : Nat), k ≤ n ∧ i = .int .i64 k ∧ Below w.heap.size w wr) (fun i _ => n - (intOf i).toNat)
    case atStart => exact ⟨0, Nat.zero_le _, rfl, HB0.out⟩
    case round =>
      obtain ⟨k, hk, rfl, hbel⟩ := hrel
      have HBEL := Lib.hid hbel; clear hbel
      by_cases hlt : k < n
      · first
        | (exfalso; omega)
        | (obtain ⟨x, hx, hs⟩ := HC.out k hlt
           have hbw' := hbw (by omega)
           obtain ⟨hc1, hf1⟩ := bcell HBEL.out
           have hkl : k < ps.length := by have := HL.out; omega
           have hql := HSZ.out _ (getD_mem hkl)
           obtain ⟨q, hq⟩ : ∃ q, q = ps.getD k [] := ⟨_, rfl⟩
           rw [← hq] at hs hql
           obtain ⟨ax, cx, rfl, hqc, hrd, hnil⟩ := hs
           obtain ⟨m, hm⟩ : ∃ m, m = q.length := ⟨_, rfl⟩
           rw [← hm] at hx hqc hql
           have HM := Lib.hid hm; have HRD := Lib.hid hrd; have HN := Lib.hid hnil
           clear hm hq hrd hnil hkl
           by_cases hm1 : 1 ≤ m
           · by_cases hm2 : m ≤ 64
             · go_wp2_with fail
               refine (frame_ok ax m cx q _ HM.out.symm (HRD.out.step HBEL.out) hm1 hm2 HN.out (HT.out.step HBEL.out)).mono ?_
               rintro e w1 ⟨g1, rfl, hg1, hr1, hb1⟩
               have HBEL1 := Lib.hid (HBEL.out.trans (hb1.mono HBEL.out.size))
               obtain ⟨hc1', hf1'⟩ := bcell HBEL1.out
               rw [← HM.out]
               clear hr1 hb1 hc1 hf1
               go_wp2_with fail
               go_roundw
               case rel => exact ⟨k + 1, by omega, by go_num, HBEL1.out⟩
               case measure => simp [intOf]; omega
             · have d1 : decide ((m : Int) < 1) = false := by simp; omega
               have d2 : decide ((64 : Int) < (m : Int)) = true := by simp; omega
               go_wp2_with fail
               refine (frame_bad ax m cx _ (.inr (by omega)) hql).mono ?_
               rintro e w1 ⟨rfl, rfl⟩
               go_wp2_with fail
               refine (code_errno 30 _ (HE.out.step HBEL.out)).mono ?_
               rintro e w1 ⟨rfl, hb1⟩
               have HBEL1 := Lib.hid (HBEL.out.trans (hb1.mono HBEL.out.size))
               clear hb1
               go_wp2_with fail
               go_roundw
               case rel => exact ⟨k + 1, by omega, by go_num, HBEL1.out⟩
               case measure => simp [intOf]; omega
           · have d1 : decide ((m : Int) < 1) = true := by simp; omega
             go_wp2_with fail
             refine (frame_bad ax m cx _ (.inl (by omega)) hql).mono ?_
             rintro e w1 ⟨rfl, rfl⟩
             go_wp2_with fail
             refine (code_errno 30 _ (HE.out.step HBEL.out)).mono ?_
             rintro e w1 ⟨rfl, hb1⟩
             have HBEL1 := Lib.hid (HBEL.out.trans (hb1.mono HBEL.out.size))
             clear hb1
             go_wp2_with fail
             go_roundw
             case rel => exact ⟨k + 1, by omega, by go_num, HBEL1.out⟩
             case measure => simp [intOf]; omega)
      · obtain rfl : k = n := by omega
        go_wp2_with fail
        refine (fit_any _ k cap ps _ HL.out (HR.out.step HBEL.out) (by omega)).mono ?_
        rintro e w1 ⟨vf, rfl, hof, hb1⟩
        have HB1 := Lib.hid (HBEL.out.trans (hb1.mono HBEL.out.size)); clear hb1
        obtain ⟨af, cf, rfl, hfc, hrf, hnf⟩ := hof.read
        have hfk : (fits ps).length ≤ k := by have := fits_length ps; have := HL.out; omega
        obtain ⟨fs, hfs⟩ : ∃ fs, fs = fits ps := ⟨_, rfl⟩
        have hff : Fits fs := by rw [hfs]; exact fits_fits ps
        rw [← hfs] at hrf hfk hfc
        rw [← hfs]
        have hjl := joined_length_le fs hff
        have hsj := scan_joined fs hff
        have HFF := Lib.hid hff; have HRF := Lib.hid hrf; have HSJ := Lib.hid hsj
        clear hof hnf hff hrf hsj hfs
        go_wp2_with fail
        refine (joined_any af _ cf fs _ rfl HRF.out HFF.out (by omega) (HT.out.step HB1.out)).mono ?_
        rintro e w2 ⟨vj, rfl, hoj, hb2⟩
        have HRF2 := Lib.hid (HRF.out.step hb2)
        have HB2 := Lib.hid (HB1.out.trans (hb2.mono HB1.out.size)); clear hb2
        obtain ⟨aj, cj, rfl, hjc, hjm, hrj, _⟩ := hoj.shape
        have HRJ := Lib.hid hrj
        clear hoj hrj
        go_wp2_with fail
        refine (scan_any aj _ cj (joined fs) _ rfl HRJ.out hjc (by omega) (HT.out.step HB2.out)).mono ?_
        rintro e w3 ⟨vs, ev, rfl, hvs, hev, hb3⟩
        rw [HSJ.out] at hvs hev
        rw [HSJ.out]
        dsimp only at hvs hev
        have HB3 := Lib.hid (HB2.out.trans (hb3.mono HB2.out.size))
        have HRF3 := Lib.hid (HRF2.out.step hb3)
        clear hb3
        rcases hev with ⟨rfl, _⟩ | ⟨h, _⟩
        · obtain ⟨av, cv, rfl, hvc, hrv, _⟩ := hvs.read
          have hpl : ∀ p ∈ fs, p.length ≤ 140737488355328 := fun p hp => by have := (HFF.out p hp).2; omega
          have HRV := Lib.hid hrv; have HPL := Lib.hid hpl
          clear hvs hrv hpl
          go_wp2_with fail
          refine (eqAll_any av af _ cv _ cf fs fs _ rfl rfl HRV.out HRF3.out (by omega) HPL.out).mono ?_
          intro e w4 hq
          obtain ⟨rfl, hb4⟩ := hq.below
          have HB4 := Lib.hid (HB3.out.trans (hb4.mono HB3.out.size))
          clear hq hb4
          rw [beq_self_eq_true]
          go_wp2
          go_ret
          exact ⟨rfl, HB4.out⟩
        · exact absurd rfl h
end Go.Proofs.YtoophonmonojcaaDoor

/- The walk of jotterlaw03.WalTold: it answers true. -/
import Derived.Test.YtoophonmonojcaaDoorWalWholeW
import Derived.Test.YtoophonmonojcaaDoorPlainTold
import Derived.StillTailTactics
namespace Go.Proofs.YtoophonmonojcaaDoor
open Go.RowKit

theorem rd_set {w : World} {g : Nat} {l : List UInt8} (h : Rd w (Option.some ⟨g, 0, none⟩) l) (k : Nat) (hk : k < l.length) (x : UInt8) : Rd (w.setCell ⟨g, k, none⟩ (.int .u8 (x.toNat : Int))) (Option.some ⟨g, 0, none⟩) (l.set k x) := by
  intro i hi
  rw [List.length_set] at hi
  refine ⟨g, 0, rfl, ?_⟩
  have hc : ∀ i, i < l.length → w.cell? ⟨g, i, none⟩ = some (.int .u8 ((l.getD i 0).toNat : Int)) := by
    intro i hi
    obtain ⟨b, off, e, hc⟩ := h i hi
    cases e
    simpa using hc
  rw [Nat.zero_add]
  by_cases e : i = k
  · subst e
    rw [World.cell?_setCell_same w _ _ (hc i hi)]
    simp [List.getD_eq_getElem?_getD, hk]
  · rw [World.cell?_setCell_other w _ _ _ (by intro h; cases h; exact e rfl), hc i hi]
    simp [List.getD_eq_getElem?_getD, Ne.symm e]

theorem Own.thawed {w : World} {B g n cap : Nat} {l : List UInt8} (h : Own w B (.slice (some ⟨g, 0, none⟩) n cap) l) (k : Nat) : w.frozen? ⟨g, k, none⟩ = false := by
  obtain ⟨_, h2⟩ := h
  rcases h2 with ⟨e, _⟩ | ⟨g', cap', cur, e, _, hg, _⟩
  · cases e
  · cases e
    simp [World.frozen?, hg]

theorem xor_ne (c : UInt8) (d : Nat) (hd : d < 255) : ∃ x : UInt8, bits .xor .u8 (c.toNat : Int) (1 + (d : Int)) = (x.toNat : Int) ∧ x ≠ c := by
  have hcl := c.toNat_lt
  have hx : c.toNat ^^^ (1 + d) < 256 := Nat.xor_lt_two_pow (n := 8) hcl (by omega)
  have e := u8_xor_nat c.toNat (1 + d) hcl (by omega)
  refine ⟨UInt8.ofNat (c.toNat ^^^ (1 + d)), ?_, ?_⟩
  · rw [show (1 + (d : Int)) = ((1 + d : Nat) : Int) by omega, e]
    congr 1
    rw [UInt8.toNat_ofNat']
    omega
  · intro h
    have h2 : c.toNat ^^^ (1 + d) = c.toNat := by
      have := congrArg UInt8.toNat h
      rw [UInt8.toNat_ofNat'] at this
      omega
    have h3 : c.toNat ^^^ (c.toNat ^^^ (1 + d)) = 0 := by rw [h2, Nat.xor_self]
    rw [← Nat.xor_assoc, Nat.xor_self, Nat.zero_xor] at h3
    omega

set_option maxRecDepth 100000 in
set_option maxHeartbeats 2000000 in
theorem walTold_any (ao : Option Addr) (n cap : Nat) (ps : List (List UInt8)) (k d : Int) (w : World) (hl : ps.length = n) (hr : RdRows w ao ps) (hb : n ≤ 1048576) (hk1 : -9223372036854775808 ≤ k) (hk2 : k ≤ 9223372036854775807) (hd1 : -9223372036854775808 ≤ d) (hd2 : d ≤ 9223372036854775807) (ht : Tab w) (hE : EType w) :
    Calls Tryd.prog 9 #[.slice ao n cap, .int .i64 k, .int .i64 d] w (RetV w (.bool true)) := by
  have HL := Lib.hid hl; have HR := Lib.hid hr; have HT := Lib.hid ht; have HE := Lib.hid hE
  clear hl hr ht hE
  go_enter Tryd.func9, Tryd.ntmps9
  go_wp2_with fail
  refine (fixed_any _ HT.out).mono ?_
  rintro e w0 ⟨rfl, hb0⟩
  have HB0 := Lib.hid hb0; clear hb0
  go_wp2_with fail
  refine (fit_any _ n cap ps _ HL.out (HR.out.step HB0.out) (by omega)).mono ?_
  rintro e w1 ⟨vf, rfl, hof, hb1⟩
  have HB1 := Lib.hid (HB0.out.trans (hb1.mono HB0.out.size)); clear hb1
  obtain ⟨af, cf, rfl, hfc, hrf, hnf⟩ := hof.read
  have hfk : (fits ps).length ≤ n := by have := fits_length ps; have := HL.out; omega
  obtain ⟨fs, hfs⟩ : ∃ fs, fs = fits ps := ⟨_, rfl⟩
  have hff : Fits fs := by rw [hfs]; exact fits_fits ps
  rw [← hfs] at hrf hfk hfc
  rw [← hfs]
  have hjl := joined_length_le fs hff
  have HFF := Lib.hid hff; have HRF := Lib.hid hrf
  clear hof hnf hff hrf hfs
  go_wp2_with fail
  refine (joined_any af _ cf fs _ rfl HRF.out HFF.out (by omega) (HT.out.step HB1.out)).mono ?_
  rintro e w2 ⟨vj, rfl, hoj, hb2⟩
  have HB2 := Lib.hid (HB1.out.trans (hb2.mono HB1.out.size))
  have HB12 := Lib.hid hb2; clear hb2
  obtain ⟨N, hN⟩ : ∃ N, N = (joined fs).length := ⟨_, rfl⟩
  rw [← hN] at hjl
  have HN := Lib.hid hN; clear hN
  have hoc := hoj.cases
  have HOJ := Lib.hid hoj
  clear hoj
  rcases hoc with ⟨rfl, hj0⟩ | ⟨gj, cj, rfl, hjc, hjm, hrj, hgj, hgj2⟩
  · go_wp2
    go_ret
    exact ⟨rfl, HB2.out⟩
  rw [← HN.out] at hjc
  rw [← HN.out]
  have HRJ := Lib.hid hrj; clear hrj
  rcases Nat.eq_zero_or_pos N with h0 | h0
  · subst h0
    go_wp2
    go_ret
    exact ⟨rfl, HB2.out⟩
  have hN0 := Int.emod_nonneg k (show (N : Int) ≠ 0 by omega)
  have hN1 := Int.emod_lt_of_pos k (show (0 : Int) < (N : Int) by omega)
  obtain ⟨kk, hkk⟩ : ∃ kk : Nat, (kk : Int) = k % (N : Int) := ⟨(k % (N : Int)).toNat, by omega⟩
  have hkN : kk < N := by omega
  clear hN0 hN1
  have hd0 := Int.emod_nonneg d (show (255 : Int) ≠ 0 by omega)
  have hd3 := Int.emod_lt_of_pos d (show (0 : Int) < 255 by omega)
  obtain ⟨dd, hdd⟩ : ∃ dd : Nat, (dd : Int) = d % 255 := ⟨(d % 255).toNat, by omega⟩
  have hdl : dd < 255 := by omega
  clear hd0 hd3
  have HKK := Lib.hid hkk; clear hkk
  have HDD := Lib.hid hdd; clear hdd
  go_wp2_with fail
  refine (among_any k (N : Int) _ hk1 hk2 (by omega) (by omega)).mono ?_
  rintro e w3 ⟨rfl, rfl⟩
  rw [← HKK.out]
  have hcell : w2.cell? ⟨gj, kk, none⟩ = some (.int .u8 (((joined fs).getD kk 0).toNat : Int)) := by
    obtain ⟨b, off, e, hc⟩ := HRJ.out kk (by rw [← HN.out]; exact hkN)
    cases e
    simpa using hc
  obtain ⟨c, hc⟩ : ∃ c, c = (joined fs).getD kk 0 := ⟨_, rfl⟩
  rw [← hc] at hcell
  have HC := Lib.hid hc; clear hc
  have hcl := c.toNat_lt
  go_wp2_with fail
  go_still_tail 12, (by kernel_rfl)
  still_call ((among_any d 255 _ hd1 hd2 (by omega) (by omega)).mono fun e w' h => ⟨h.1, h.2.symm⟩)
  rw [← HDD.out]
  repeat still_step
  try refine wpStill_nil ?_
  have HB3 := Lib.hid HB12.out.drew
  have hcell3 : w2.drew.cell? ⟨gj, kk, none⟩ = some (.int .u8 (c.toNat : Int)) := hcell
  have hfz3 : w2.drew.frozen? ⟨gj, kk, none⟩ = false := HOJ.out.thawed kk
  have hrj3 : Rd w2.drew (some ⟨gj, 0, none⟩) (joined fs) := HRJ.out
  change wpList _ _ _ _ _ w2.drew
  generalize w2.drew = w3 at HB3 hrj3 hcell3 hfz3 ⊢
  obtain ⟨x, hx, hxc⟩ := xor_ne c dd hdl
  have HX := Lib.hid hx
  have HXC := Lib.hid hxc
  have HRJ4 := Lib.hid (rd_set hrj3 kk (by rw [← HN.out]; exact hkN) x)
  have HB4 := Lib.hid (HB3.out.setCell (p := ⟨gj, kk, none⟩) hgj (.int .u8 (x.toNat : Int)))
  clear hx hxc hcell hrj3
  go_wp2_with fail
  rw [HX.out]
  generalize w3.setCell ⟨gj, kk, none⟩ (.int .u8 (x.toNat : Int)) = w4 at HRJ4 HB4 ⊢
  have HB5 := Lib.hid (HB1.out.trans (HB4.out.mono HB1.out.size))
  have HRF5 := Lib.hid (HRF.out.step HB4.out)
  clear hcell3 hfz3 HB3 HB2 HB12 HRJ HX
  refine (upTo_any af _ cf fs kk _ rfl HRF5.out HFF.out (by omega) (by omega)).mono ?_
  rintro e w5 ⟨i, at_, rfl, hw, rfl⟩
  have hi := hw.1
  have hatk := hw.2.2.1
  have HSP := Lib.hid (scan_changed HFF.out (by rw [← HN.out]; exact hkN) hw x (by rw [← HC.out]; exact HXC.out)); clear hw
  have HKL' := Lib.hid (show ((joined fs).set kk x).length = N by rw [List.length_set, ← HN.out])
  go_wp2_with fail
  refine (scan_any (some ⟨gj, 0, none⟩) _ cj ((joined fs).set kk x) _ HKL'.out HRJ4.out (by omega) (by omega) (HT.out.step HB5.out)).mono ?_
  rintro e w6 ⟨vs, ev, rfl, hvs, hev, hb3⟩
  rw [HSP.out] at hvs hev
  rw [HSP.out]
  dsimp only at hvs hev
  have HB6 := Lib.hid (HB5.out.trans (hb3.mono HB5.out.size))
  have HRF6 := Lib.hid ((HRF5.out.take i).step hb3)
  clear hb3
  obtain ⟨av, cv, rfl, hvc, hrv, _⟩ := hvs.read
  have hpl : ∀ p ∈ fs.take i, p.length ≤ 140737488355328 := fun p hp => by have := ((fits_take HFF.out i) p hp).2; omega
  have hil : (fs.take i).length = i := by rw [List.length_take]; omega
  have HRV := Lib.hid hrv; have HPL := Lib.hid hpl
  clear hvs hrv hpl
  rw [hil] at hvc
  rw [hil]
  have HIL := Lib.hid hil; clear hil
  obtain ⟨cd, hcd⟩ : ∃ cd, cd = (if kk < at_ + 4 then 31 else 33) := ⟨_, rfl⟩
  rw [← hcd] at hev
  obtain ⟨g, rfl, hg⟩ : ∃ g, ev = faultV g ∧ w6.heap[g]? = some (faultObj at_ cd) := by
    rcases hev with ⟨_, h⟩ | ⟨_, h⟩
    · rw [hcd] at h; split at h <;> cases h
    · exact h
  have HG := Lib.hid hg
  have HCD := Lib.hid hcd
  clear hev hg hcd
  go_wp2_with fail
  refine (eqAll_any av af i cv i cf _ _ _ HIL.out HIL.out HRV.out HRF6.out (by omega) HPL.out).mono ?_
  intro e w7 hq
  obtain ⟨rfl, hb4⟩ := hq.below
  have HB7 := Lib.hid (HB6.out.trans (hb4.mono HB6.out.size))
  have HG7 := Lib.hid (fault_step HG.out hb4)
  clear hq hb4 HG
  rw [beq_self_eq_true]
  by_cases hlt : kk < at_ + 4
  · have hcd : cd = 31 := by rw [HCD.out, if_pos hlt]
    subst hcd
    go_wp2_with fail
    refine (law03_is _ 31 at_ _ (.inr (.inr ⟨g, rfl, HG7.out⟩)) (HE.out.step HB7.out)).mono ?_
    rintro e w8 ⟨rfl, hb5⟩
    have HB8 := Lib.hid (HB7.out.trans (hb5.mono HB7.out.size))
    clear hb5
    go_wp2
    go_ret
    exact ⟨rfl, HB8.out⟩
  · have hcd : cd = 33 := by rw [HCD.out, if_neg hlt]
    subst hcd
    go_wp2_with fail
    refine (law03_is _ 33 at_ _ (.inr (.inr ⟨g, rfl, HG7.out⟩)) (HE.out.step HB7.out)).mono ?_
    rintro e w8 ⟨rfl, hb5⟩
    have HB8 := Lib.hid (HB7.out.trans (hb5.mono HB7.out.size))
    clear hb5
    go_wp2
    go_ret
    exact ⟨rfl, HB8.out⟩
end Go.Proofs.YtoophonmonojcaaDoor

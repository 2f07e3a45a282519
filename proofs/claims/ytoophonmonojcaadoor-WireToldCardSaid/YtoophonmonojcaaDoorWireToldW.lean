/- The walk of jotterlaw06.WireTold: it answers true. -/
import Derived.Test.YtoophonmonojcaaDoorWireFixed
import Derived.Test.YtoophonmonojcaaDoorPlainSeal
import Derived.StillTailTactics
namespace Go.Proofs.YtoophonmonojcaaDoor
open Go.RowKit

theorem rd_set6 {w : World} {g : Nat} {l : List UInt8} (h : Rd w (Option.some ⟨g, 0, none⟩) l) (k : Nat) (hk : k < l.length) (x : UInt8) : Rd (w.setCell ⟨g, k, none⟩ (.int .u8 (x.toNat : Int))) (Option.some ⟨g, 0, none⟩) (l.set k x) := by
  intro i hi
  rw [List.length_set] at hi
  refine ⟨g, 0, rfl, ?_⟩
  have hc : ∀ i, i < l.length → w.cell? ⟨g, i, none⟩ = some (.int .u8 ((l.getD i 0).toNat : Int)) := by
    intro i hi
    obtain ⟨b, off, e, hc⟩ := h i hi
    cases e
    simpa using hc
  rw [Nat.zero_add]
  by_cases e : i = k
  · subst e
    rw [World.cell?_setCell_same w _ _ (hc i hi)]
    simp [List.getD_eq_getElem?_getD, hk]
  · rw [World.cell?_setCell_other w _ _ _ (by intro h; cases h; exact e rfl), hc i hi]
    simp [List.getD_eq_getElem?_getD, Ne.symm e]

theorem xor_ne6 (c : UInt8) (d : Nat) (hd : d < 255) : ∃ x : UInt8, bits .xor .u8 (c.toNat : Int) (1 + (d : Int)) = (x.toNat : Int) ∧ x ≠ c := by
  have hcl := c.toNat_lt
  have hx : c.toNat ^^^ (1 + d) < 256 := Nat.xor_lt_two_pow (n := 8) hcl (by omega)
  have e := u8_xor_nat c.toNat (1 + d) hcl (by omega)
  refine ⟨UInt8.ofNat (c.toNat ^^^ (1 + d)), ?_, ?_⟩
  · rw [show (1 + (d : Int)) = ((1 + d : Nat) : Int) by omega, e]
    congr 1
    rw [UInt8.toNat_ofNat']
    omega
  · intro h
    have h2 : c.toNat ^^^ (1 + d) = c.toNat := by
      have := congrArg UInt8.toNat h
      rw [UInt8.toNat_ofNat'] at this
      omega
    have h3 : c.toNat ^^^ (c.toNat ^^^ (1 + d)) = 0 := by rw [h2, Nat.xor_self]
    rw [← Nat.xor_assoc, Nat.xor_self, Nat.zero_xor] at h3
    omega

theorem Row.thawed {w : World} {g : Nat} {l : List UInt8} (h : Row w g l) (k : Nat) : w.frozen? ⟨g, k, none⟩ = false := by
  unfold Row at h
  simp [World.frozen?, h]

set_option maxRecDepth 100000 in
set_option maxHeartbeats 2000000 in
theorem wireTold_any (m : M) (at_ mask : Int) (W : World) (hm : m.ok) (ha1 : -9223372036854775808 ≤ at_) (ha2 : at_ ≤ 9223372036854775807) (hk1 : -9223372036854775808 ≤ mask) (hk2 : mask ≤ 9223372036854775807) (hT : Tab W) (hE : EType W) (hS : Sizes W) (hSh : Shapes W) :
    Calls Tryd.prog 20 #[m.v, .int .i64 at_, .int .i64 mask] W (RetV W (.bool true)) := by
  have hv : Env W := ⟨hT, hE, hS, hSh⟩
  clear hT hE hS hSh
  have hmess : ∀ w, Calls Tryd.prog 22 #[.agg m.cs] w (RetV w (.agg (mess m).cs)) := fun w => message_any _ w hm
  obtain ⟨m1, hm1⟩ : ∃ m1, m1 = mess m := ⟨_, rfl⟩
  have hfine : m1.fine := by rw [hm1]; exact mess_fine _
  rw [← hm1] at hmess
  have HME := Lib.hid hmess; have HF := Lib.hid hfine; have HV := Lib.hid hv
  clear hm1 hmess hfine hv hm
  obtain ⟨k, ep, c, ha, fi, nu, ac, re, ta, ⟨ok, op, oc, ol, os⟩⟩ := m
  unfold M.v
  dsimp only
  go_enter Tryd.func20, Tryd.ntmps20
  go_wp2_with fail
  have hM0 : MsgAt (W.alloc (.cells #[.int .i64 k, .int .i64 ep, .int .i64 c, .int .i64 ha, .int .i64 fi, .int .i64 nu, .int .i64 ac, .int .i64 re, .int .i64 ta, .int .i64 ok, .int .i64 op, .int .u8 oc, .int .i64 ol, .int .i64 os] 25)) W.heap.size ⟨k, ep, c, ha, fi, nu, ac, re, ta, ⟨ok, op, oc, ol, os⟩⟩ := heap_alloc_new _ _
  have hb0 : Below W.heap.size W (W.alloc (.cells #[.int .i64 k, .int .i64 ep, .int .i64 c, .int .i64 ha, .int .i64 fi, .int .i64 nu, .int .i64 ac, .int .i64 re, .int .i64 ta, .int .i64 ok, .int .i64 op, .int .u8 oc, .int .i64 ol, .int .i64 os] 25)) := (Below.refl _ W).alloc (Nat.le_refl _) _
  refine (fixed6_any _ (HV.out.step hb0)).mono ?_
  rintro e w1 ⟨rfl, hb1⟩
  have HM1 := Lib.hid (hM0.keep hb1)
  have HB1 := Lib.hid (hb0.trans (hb1.mono hb0.size))
  clear hM0 hb0 hb1
  go_wp2_with (with_reducible refine wpList_loadMsg rfl (.tmp 3) rfl W.heap.size _ rfl HM1.out ?_)
  refine (HME.out _).mono ?_
  rintro e w2 ⟨rfl, hb2⟩
  have HB2 := Lib.hid (HB1.out.trans (hb2.mono HB1.out.size))
  clear hb2
  go_wp2_with fail
  have hL := encB_len HF.out
  have HV2 := Lib.hid (HV.out.step HB2.out)
  refine (encode_fine m1 _ HF.out HV2.out.tab HV2.out.siz HV2.out.shp).mono ?_
  rintro e w3 ⟨g3, rfl, hg3, hr3, hb3⟩
  have HB3 := Lib.hid (HB2.out.trans (hb3.mono HB2.out.size))
  have HR3 := Lib.hid hr3
  have hg3l := hr3.lt
  have HG3 := Lib.hid (Nat.le_trans HB2.out.size hg3)
  obtain ⟨N, hN⟩ : ∃ N, N = (encB m1).length := ⟨_, rfl⟩
  rw [← hN] at hL ⊢
  have HN := Lib.hid hN
  clear hr3 hb3 hg3 hN
  obtain ⟨hL7, hL19⟩ := hL
  go_wp2_with fail
  refine (within_any at_ 0 ((N : Int) - 1) _ ha1 ha2 (by omega) (by omega) (by omega)).mono ?_
  rintro e w4 ⟨rfl, rfl⟩
  have hw1 := within_ge at_ 0 ((N : Int) - 1) (by omega)
  have hw2 := within_le at_ 0 ((N : Int) - 1) (by omega)
  obtain ⟨kk, hkk⟩ : ∃ kk : Nat, (kk : Int) = within at_ 0 ((N : Int) - 1) := ⟨(within at_ 0 ((N : Int) - 1)).toNat, by omega⟩
  rw [← hkk] at hw1 hw2 ⊢
  clear hkk ha1 ha2
  have hkN : kk < N := by omega
  have hd1 := within_ge mask 1 255 (by omega)
  have hd2 := within_le mask 1 255 (by omega)
  obtain ⟨dd, hdd⟩ : ∃ dd : Nat, 1 + (dd : Int) = within mask 1 255 := ⟨(within mask 1 255 - 1).toNat, by omega⟩
  have hdl : dd < 255 := by omega
  have HDD := Lib.hid hdd
  clear hd1 hd2 hdd
  have hcell : w3.cell? ⟨g3, kk, none⟩ = some (.int .u8 (((encB m1).getD kk 0).toNat : Int)) := HR3.out.cell kk (by rw [← HN.out]; exact hkN)
  obtain ⟨cc, hcc⟩ : ∃ cc, cc = (encB m1).getD kk 0 := ⟨_, rfl⟩
  rw [← hcc] at hcell
  have HC := Lib.hid hcc; clear hcc
  have hcl := cc.toNat_lt
  go_wp2_with fail
  go_still_tail 11, (by kernel_rfl)
  still_call ((within_any mask 1 255 _ hk1 hk2 (by omega) (by omega) (by omega)).mono fun e w' h => ⟨h.1, h.2.symm⟩)
  rw [← HDD.out]
  repeat still_step
  try refine wpStill_nil ?_
  have HBd := Lib.hid HB3.out.drew
  have hcell3 : w3.drew.cell? ⟨g3, kk, none⟩ = some (.int .u8 (cc.toNat : Int)) := hcell
  have hfz3 : w3.drew.frozen? ⟨g3, kk, none⟩ = false := HR3.out.thawed kk
  have hrd3 : Rd w3.drew (some ⟨g3, 0, none⟩) (encB m1) := HR3.out.rd
  change wpList _ _ _ _ _ w3.drew
  generalize w3.drew = w5 at HBd hrd3 hcell3 hfz3 ⊢
  obtain ⟨x, hx, hxc⟩ := xor_ne6 cc dd hdl
  have HX := Lib.hid hx
  have HDC := Lib.hid (decode_changed HF.out kk (by rw [← HN.out]; exact hkN) x (by rw [← HC.out]; exact hxc))
  have HRD := Lib.hid (rd_set6 hrd3 kk (by rw [← HN.out]; exact hkN) x)
  have HB4 := Lib.hid (HBd.out.setCell (p := ⟨g3, kk, none⟩) HG3.out (.int .u8 (x.toNat : Int)))
  clear hx hxc hcell hrd3
  go_wp2_with fail
  rw [HX.out]
  generalize w5.setCell ⟨g3, kk, none⟩ (.int .u8 (x.toNat : Int)) = w6 at HRD HB4 ⊢
  have HV6 := Lib.hid (HV.out.step HB4.out)
  clear hcell3 hfz3 HBd HX HR3
  refine (decode_any_inl (some ⟨g3, 0, none⟩) N N ((encB m1).set kk x) 64 ((N : Int) - 4) _ (by rw [HDC.out, ← HN.out]; congr 2; omega) (by rw [List.length_set, ← HN.out]) HRD.out (Nat.le_refl _) (by omega) HV6.out.tab HV6.out.ety HV6.out.siz HV6.out.shp).mono ?_
  rintro e w7 ⟨g7, rfl, hN7⟩
  have HN7 := Lib.hid hN7
  have HB7 := Lib.hid (HB4.out.trans (hN7.2.2.mono HB4.out.size))
  have hg7l := heap_lt hN7.2.1
  clear hN7
  have HZ := Lib.hid (show MsgAt (w7.alloc (.cells #[.int .i64 0, .int .i64 0, .int .i64 0, .int .i64 0, .int .i64 0, .int .i64 0, .int .i64 0, .int .i64 0, .int .i64 0, .int .i64 0, .int .i64 0, .int .u8 0, .int .i64 0, .int .i64 0] 25)) w7.heap.size zeroM from heap_alloc_new _ _)
  have heq : ∀ w, (binOp .eql 25 (.agg zeroM.cs) (.agg #[.int .i64 0, .int .i64 0, .int .i64 0, .int .i64 0, .int .i64 0, .int .i64 0, .int .i64 0, .int .i64 0, .int .i64 0, .int .i64 0, .int .i64 0, .int .u8 0, .int .i64 0, .int .i64 0])).run Tryd.prog w = .ok (.bool true) w := fun w => eql_msg_same zeroM w
  go_wp2_with (first
    | ((with_reducible refine wpList_storeMsg2 rfl (.tmp 9) (.tmp 44) rfl rfl w7.heap.size zeroM zeroM rfl rfl HZ.out ?_); intro w8 hm8 ht8 ho8; have HM8 := Lib.hid hm8; have HT8 := Lib.hid ht8; have HO8 := Lib.hid ho8; clear hm8 ht8 ho8)
    | (with_reducible refine wpList_loadMsg rfl (.tmp 9) rfl w7.heap.size zeroM rfl HM8.out ?_))
  have HB8 := Lib.hid (HT8.out _ _ HB7.out.size (HB7.out.alloc HB7.out.size _))
  refine (law06_is _ 64 ((N : Int) - 4) _ (.inr (.inr ⟨g7, rfl, (HO8.out g7 (by omega)).trans ((heap_push w7 _ _ hg7l).trans HN7.out.2.1)⟩)) (HV.out.step HB8.out).ety).mono ?_
  rintro e w9 ⟨rfl, hb9⟩
  have HB9 := Lib.hid (HB8.out.trans (hb9.mono HB8.out.size))
  clear hb9
  go_wp2
  go_ret
  exact ⟨rfl, HB9.out⟩
end Go.Proofs.YtoophonmonojcaaDoor

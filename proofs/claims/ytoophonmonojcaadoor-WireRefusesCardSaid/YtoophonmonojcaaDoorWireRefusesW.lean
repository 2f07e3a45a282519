/- The walk of jotterlaw06.WireRefuses. -/
import Derived.Test.YtoophonmonojcaaDoorWireMsg
namespace Go.Proofs.YtoophonmonojcaaDoor
open Go.RowKit

set_option maxRecDepth 100000 in
set_option maxHeartbeats 2000000 in
theorem wireRefuses_any (m : M) (f v : Int) (W : World) (hm : m.ok) (hf1 : -9223372036854775808 ≤ f) (hf2 : f ≤ 9223372036854775807) (hv1 : -9223372036854775808 ≤ v) (hv2 : v ≤ 9223372036854775807) (hT : Tab W) (hE : EType W) (hS : Sizes W) (hSh : Shapes W) :
    Calls Tryd.prog 3 #[m.v, .int .i64 f, .int .i64 v] W (RetV W (.bool true)) := by
  obtain ⟨k, ep, c, ha, fi, nu, ac, re, ta, ⟨ok, op, oc, ol, os⟩⟩ := m
  have hmess : ∀ w, Calls Tryd.prog 22 #[.agg #[.int .i64 k, .int .i64 ep, .int .i64 c, .int .i64 ha, .int .i64 fi, .int .i64 nu, .int .i64 ac, .int .i64 re, .int .i64 ta, .int .i64 ok, .int .i64 op, .int .u8 oc, .int .i64 ol, .int .i64 os]] w (RetV w (.agg (mess ⟨k, ep, c, ha, fi, nu, ac, re, ta, ⟨ok, op, oc, ol, os⟩⟩).cs)) := fun w => message_any _ w hm
  obtain ⟨m1, hm1⟩ : ∃ m1, m1 = mess ⟨k, ep, c, ha, fi, nu, ac, re, ta, ⟨ok, op, oc, ol, os⟩⟩ := ⟨_, rfl⟩
  have hfine : m1.fine := by rw [hm1]; exact mess_fine _
  rw [← hm1] at hmess
  have HME := Lib.hid hmess; have HF := Lib.hid hfine; have HT := Lib.hid hT; have HE := Lib.hid hE; have HS := Lib.hid hS; have HSH := Lib.hid hSh
  clear hm hm1 hmess hfine hT hE hS hSh
  unfold M.v
  dsimp only
  go_enter Tryd.func3, Tryd.ntmps3
  go_wp2_with fail
  refine (HME.out _).mono ?_
  rintro e w2 ⟨rfl, hb⟩
  have hM0 : MsgAt w2 W.heap.size ⟨k, ep, c, ha, fi, nu, ac, re, ta, ⟨ok, op, oc, ol, os⟩⟩ := (hb.block W.heap.size (by simp)).trans (heap_alloc_new _ _)
  have hb0 : Below W.heap.size W w2 := ((Below.refl _ W).alloc (Nat.le_refl _) _).trans (hb.mono (by simp))
  have HM0 := Lib.hid hM0; have HB0 := Lib.hid hb0
  clear hb hM0 hb0
  go_wp2_with (first
    | ((with_reducible refine wpList_storeMsg rfl (.tmp 3) (.tmp 10) rfl rfl W.heap.size _ m1 rfl rfl HM0.out ?_); intro w3 hm3 ht3 _; have HM3 := Lib.hid hm3; have HB3 := Lib.hid (ht3 W.heap.size W (Nat.le_refl _) HB0.out); clear hm3 ht3)
    | (with_reducible refine wpList_loadMsg rfl (.tmp 3) rfl W.heap.size m1 rfl HM3.out ?_))
  have hL := encB_len HF.out
  refine (encode_fine m1 _ HF.out (HT.out.step HB3.out) (HS.out.step HB3.out) (HSH.out.step HB3.out)).mono ?_
  rintro e w4 ⟨g4, rfl, hg4, hr4, hb4⟩
  have HM4 := Lib.hid (HM3.out.keep hb4)
  have HB4 := Lib.hid (HB3.out.trans (hb4.mono HB3.out.size))
  obtain ⟨L, hLe⟩ : ∃ L, L = (encB m1).length := ⟨_, rfl⟩
  rw [← hLe] at hL ⊢
  clear hr4 hb4 hLe
  have hL7 := hL.1
  have hL19 := hL.2
  clear hL
  go_wp2_with fail
  refine (within_any f 3 8 _ hf1 hf2 (by omega) (by omega) (by omega)).mono ?_
  rintro e w5 ⟨rfl, rfl⟩
  have hw1 := within_ge f 3 8 (by omega)
  have hw2 := within_le f 3 8 (by omega)
  obtain ⟨ff, hff⟩ : ∃ ff, ff = within f 3 8 := ⟨_, rfl⟩
  rw [← hff] at hw1 hw2 ⊢
  clear hff hf1 hf2
  have hk1 := HF.out.1
  have hk6 := HF.out.2.1
  obtain ⟨kk, hkk⟩ : ∃ kk : Nat, m1.k = kk := ⟨m1.k.toNat, by omega⟩
  have HG := Lib.hid ((good_fine kk m1 hkk (by omega) (by omega)).2 HF.out)
  have HKK := Lib.hid (show m1.k = kk ∧ 1 ≤ kk ∧ kk ≤ 6 from ⟨hkk, by omega, by omega⟩)
  clear hk1 hk6 hkk
  have hfr := HM4.out.frozen
  have hn : ∀ i, i < 9 → w4.cell? ⟨W.heap.size, i, none⟩ = some (.int .i64 (m1.at i)) := fun i hi => HM4.out.num i hi
  have hc3 := hn 3 (by omega); have hc4 := hn 4 (by omega); have hc5 := hn 5 (by omega); have hc6 := hn 6 (by omega); have hc7 := hn 7 (by omega); have hc8 := hn 8 (by omega)
  clear hn
  have hgl := HM4.out.lt
  rcases (show (0 ≤ v ∧ v ≤ 4096) ∨ v < 0 ∨ 4096 < v by omega) with ⟨h1, h2⟩ | h1 | h1
  · have HV := Lib.hid (show v + 4097 < 0 ∨ 4096 < v + 4097 by omega)
    have hc : ff = 3 ∨ ff = 4 ∨ ff = 5 ∨ ff = 6 ∨ ff = 7 ∨ ff = 8 := by omega
    rcases hc with rfl | rfl | rfl | rfl | rfl | rfl
    · go_wp2_with (with_reducible refine wpList_loadMsg rfl (.tmp 3) rfl W.heap.size (m1.set 3 (v + 4097)) rfl (MsgAt.set HM4.out 3 (by omega) (by omega) _) ?_)
      have hset := set_bad kk HG.out 3 (by omega) (by omega) (v + 4097) HV.out
      have HB5 := Lib.hid (HB4.out.setCell (p := ⟨W.heap.size, 3, none⟩) (Nat.le_refl _) (.int .i64 (v + 4097)))
      refine (encode_bad kk (m1.set 3 (v + 4097)) 3 _ (by rw [hset.2.2.1]; exact HKK.out.1) HKK.out.2.1 HKK.out.2.2 (by rw [hset.2.2.2]; exact M.fine_ch HF.out) (by omega) (by omega) hset.1 hset.2.1 (HT.out.step HB5.out) (HS.out.step HB5.out) (HSH.out.step HB5.out)).mono ?_
      rintro e w6 ⟨g6, rfl, hN⟩
      have HN := Lib.hid hN; have HB6 := Lib.hid (HB5.out.trans (hN.2.2.mono HB5.out.size)); clear hN hset
      go_wp2_with fail
      refine (law06_is _ 63 3 _ (.inr (.inr ⟨g6, rfl, HN.out.2.1⟩)) (HE.out.step HB6.out)).mono ?_
      rintro e w7 ⟨rfl, hb7⟩
      have HB7 := Lib.hid (HB6.out.trans (hb7.mono HB6.out.size)); clear hb7
      go_wp2
      go_ret
      exact ⟨rfl, HB7.out⟩
    · go_wp2_with (with_reducible refine wpList_loadMsg rfl (.tmp 3) rfl W.heap.size (m1.set 4 (v + 4097)) rfl (MsgAt.set HM4.out 4 (by omega) (by omega) _) ?_)
      have hset := set_bad kk HG.out 4 (by omega) (by omega) (v + 4097) HV.out
      have HB5 := Lib.hid (HB4.out.setCell (p := ⟨W.heap.size, 4, none⟩) (Nat.le_refl _) (.int .i64 (v + 4097)))
      refine (encode_bad kk (m1.set 4 (v + 4097)) 4 _ (by rw [hset.2.2.1]; exact HKK.out.1) HKK.out.2.1 HKK.out.2.2 (by rw [hset.2.2.2]; exact M.fine_ch HF.out) (by omega) (by omega) hset.1 hset.2.1 (HT.out.step HB5.out) (HS.out.step HB5.out) (HSH.out.step HB5.out)).mono ?_
      rintro e w6 ⟨g6, rfl, hN⟩
      have HN := Lib.hid hN; have HB6 := Lib.hid (HB5.out.trans (hN.2.2.mono HB5.out.size)); clear hN hset
      go_wp2_with fail
      refine (law06_is _ 63 4 _ (.inr (.inr ⟨g6, rfl, HN.out.2.1⟩)) (HE.out.step HB6.out)).mono ?_
      rintro e w7 ⟨rfl, hb7⟩
      have HB7 := Lib.hid (HB6.out.trans (hb7.mono HB6.out.size)); clear hb7
      go_wp2
      go_ret
      exact ⟨rfl, HB7.out⟩
    · go_wp2_with (with_reducible refine wpList_loadMsg rfl (.tmp 3) rfl W.heap.size (m1.set 5 (v + 4097)) rfl (MsgAt.set HM4.out 5 (by omega) (by omega) _) ?_)
      have hset := set_bad kk HG.out 5 (by omega) (by omega) (v + 4097) HV.out
      have HB5 := Lib.hid (HB4.out.setCell (p := ⟨W.heap.size, 5, none⟩) (Nat.le_refl _) (.int .i64 (v + 4097)))
      refine (encode_bad kk (m1.set 5 (v + 4097)) 5 _ (by rw [hset.2.2.1]; exact HKK.out.1) HKK.out.2.1 HKK.out.2.2 (by rw [hset.2.2.2]; exact M.fine_ch HF.out) (by omega) (by omega) hset.1 hset.2.1 (HT.out.step HB5.out) (HS.out.step HB5.out) (HSH.out.step HB5.out)).mono ?_
      rintro e w6 ⟨g6, rfl, hN⟩
      have HN := Lib.hid hN; have HB6 := Lib.hid (HB5.out.trans (hN.2.2.mono HB5.out.size)); clear hN hset
      go_wp2_with fail
      refine (law06_is _ 63 5 _ (.inr (.inr ⟨g6, rfl, HN.out.2.1⟩)) (HE.out.step HB6.out)).mono ?_
      rintro e w7 ⟨rfl, hb7⟩
      have HB7 := Lib.hid (HB6.out.trans (hb7.mono HB6.out.size)); clear hb7
      go_wp2
      go_ret
      exact ⟨rfl, HB7.out⟩
    · go_wp2_with (with_reducible refine wpList_loadMsg rfl (.tmp 3) rfl W.heap.size (m1.set 6 (v + 4097)) rfl (MsgAt.set HM4.out 6 (by omega) (by omega) _) ?_)
      have hset := set_bad kk HG.out 6 (by omega) (by omega) (v + 4097) HV.out
      have HB5 := Lib.hid (HB4.out.setCell (p := ⟨W.heap.size, 6, none⟩) (Nat.le_refl _) (.int .i64 (v + 4097)))
      refine (encode_bad kk (m1.set 6 (v + 4097)) 6 _ (by rw [hset.2.2.1]; exact HKK.out.1) HKK.out.2.1 HKK.out.2.2 (by rw [hset.2.2.2]; exact M.fine_ch HF.out) (by omega) (by omega) hset.1 hset.2.1 (HT.out.step HB5.out) (HS.out.step HB5.out) (HSH.out.step HB5.out)).mono ?_
      rintro e w6 ⟨g6, rfl, hN⟩
      have HN := Lib.hid hN; have HB6 := Lib.hid (HB5.out.trans (hN.2.2.mono HB5.out.size)); clear hN hset
      go_wp2_with fail
      refine (law06_is _ 63 6 _ (.inr (.inr ⟨g6, rfl, HN.out.2.1⟩)) (HE.out.step HB6.out)).mono ?_
      rintro e w7 ⟨rfl, hb7⟩
      have HB7 := Lib.hid (HB6.out.trans (hb7.mono HB6.out.size)); clear hb7
      go_wp2
      go_ret
      exact ⟨rfl, HB7.out⟩
    · go_wp2_with (with_reducible refine wpList_loadMsg rfl (.tmp 3) rfl W.heap.size (m1.set 7 (v + 4097)) rfl (MsgAt.set HM4.out 7 (by omega) (by omega) _) ?_)
      have hset := set_bad kk HG.out 7 (by omega) (by omega) (v + 4097) HV.out
      have HB5 := Lib.hid (HB4.out.setCell (p := ⟨W.heap.size, 7, none⟩) (Nat.le_refl _) (.int .i64 (v + 4097)))
      refine (encode_bad kk (m1.set 7 (v + 4097)) 7 _ (by rw [hset.2.2.1]; exact HKK.out.1) HKK.out.2.1 HKK.out.2.2 (by rw [hset.2.2.2]; exact M.fine_ch HF.out) (by omega) (by omega) hset.1 hset.2.1 (HT.out.step HB5.out) (HS.out.step HB5.out) (HSH.out.step HB5.out)).mono ?_
      rintro e w6 ⟨g6, rfl, hN⟩
      have HN := Lib.hid hN; have HB6 := Lib.hid (HB5.out.trans (hN.2.2.mono HB5.out.size)); clear hN hset
      go_wp2_with fail
      refine (law06_is _ 63 7 _ (.inr (.inr ⟨g6, rfl, HN.out.2.1⟩)) (HE.out.step HB6.out)).mono ?_
      rintro e w7 ⟨rfl, hb7⟩
      have HB7 := Lib.hid (HB6.out.trans (hb7.mono HB6.out.size)); clear hb7
      go_wp2
      go_ret
      exact ⟨rfl, HB7.out⟩
    · go_wp2_with (with_reducible refine wpList_loadMsg rfl (.tmp 3) rfl W.heap.size (m1.set 8 (v + 4097)) rfl (MsgAt.set HM4.out 8 (by omega) (by omega) _) ?_)
      have hset := set_bad kk HG.out 8 (by omega) (by omega) (v + 4097) HV.out
      have HB5 := Lib.hid (HB4.out.setCell (p := ⟨W.heap.size, 8, none⟩) (Nat.le_refl _) (.int .i64 (v + 4097)))
      refine (encode_bad kk (m1.set 8 (v + 4097)) 8 _ (by rw [hset.2.2.1]; exact HKK.out.1) HKK.out.2.1 HKK.out.2.2 (by rw [hset.2.2.2]; exact M.fine_ch HF.out) (by omega) (by omega) hset.1 hset.2.1 (HT.out.step HB5.out) (HS.out.step HB5.out) (HSH.out.step HB5.out)).mono ?_
      rintro e w6 ⟨g6, rfl, hN⟩
      have HN := Lib.hid hN; have HB6 := Lib.hid (HB5.out.trans (hN.2.2.mono HB5.out.size)); clear hN hset
      go_wp2_with fail
      refine (law06_is _ 63 8 _ (.inr (.inr ⟨g6, rfl, HN.out.2.1⟩)) (HE.out.step HB6.out)).mono ?_
      rintro e w7 ⟨rfl, hb7⟩
      have HB7 := Lib.hid (HB6.out.trans (hb7.mono HB6.out.size)); clear hb7
      go_wp2
      go_ret
      exact ⟨rfl, HB7.out⟩
  · have HV := Lib.hid (show v < 0 ∨ 4096 < v by omega)
    have hc : ff = 3 ∨ ff = 4 ∨ ff = 5 ∨ ff = 6 ∨ ff = 7 ∨ ff = 8 := by omega
    rcases hc with rfl | rfl | rfl | rfl | rfl | rfl
    · go_wp2_with (with_reducible refine wpList_loadMsg rfl (.tmp 3) rfl W.heap.size (m1.set 3 (v)) rfl (MsgAt.set HM4.out 3 (by omega) (by omega) _) ?_)
      have hset := set_bad kk HG.out 3 (by omega) (by omega) (v) HV.out
      have HB5 := Lib.hid (HB4.out.setCell (p := ⟨W.heap.size, 3, none⟩) (Nat.le_refl _) (.int .i64 (v)))
      refine (encode_bad kk (m1.set 3 (v)) 3 _ (by rw [hset.2.2.1]; exact HKK.out.1) HKK.out.2.1 HKK.out.2.2 (by rw [hset.2.2.2]; exact M.fine_ch HF.out) (by omega) (by omega) hset.1 hset.2.1 (HT.out.step HB5.out) (HS.out.step HB5.out) (HSH.out.step HB5.out)).mono ?_
      rintro e w6 ⟨g6, rfl, hN⟩
      have HN := Lib.hid hN; have HB6 := Lib.hid (HB5.out.trans (hN.2.2.mono HB5.out.size)); clear hN hset
      go_wp2_with fail
      refine (law06_is _ 63 3 _ (.inr (.inr ⟨g6, rfl, HN.out.2.1⟩)) (HE.out.step HB6.out)).mono ?_
      rintro e w7 ⟨rfl, hb7⟩
      have HB7 := Lib.hid (HB6.out.trans (hb7.mono HB6.out.size)); clear hb7
      go_wp2
      go_ret
      exact ⟨rfl, HB7.out⟩
    · go_wp2_with (with_reducible refine wpList_loadMsg rfl (.tmp 3) rfl W.heap.size (m1.set 4 (v)) rfl (MsgAt.set HM4.out 4 (by omega) (by omega) _) ?_)
      have hset := set_bad kk HG.out 4 (by omega) (by omega) (v) HV.out
      have HB5 := Lib.hid (HB4.out.setCell (p := ⟨W.heap.size, 4, none⟩) (Nat.le_refl _) (.int .i64 (v)))
      refine (encode_bad kk (m1.set 4 (v)) 4 _ (by rw [hset.2.2.1]; exact HKK.out.1) HKK.out.2.1 HKK.out.2.2 (by rw [hset.2.2.2]; exact M.fine_ch HF.out) (by omega) (by omega) hset.1 hset.2.1 (HT.out.step HB5.out) (HS.out.step HB5.out) (HSH.out.step HB5.out)).mono ?_
      rintro e w6 ⟨g6, rfl, hN⟩
      have HN := Lib.hid hN; have HB6 := Lib.hid (HB5.out.trans (hN.2.2.mono HB5.out.size)); clear hN hset
      go_wp2_with fail
      refine (law06_is _ 63 4 _ (.inr (.inr ⟨g6, rfl, HN.out.2.1⟩)) (HE.out.step HB6.out)).mono ?_
      rintro e w7 ⟨rfl, hb7⟩
      have HB7 := Lib.hid (HB6.out.trans (hb7.mono HB6.out.size)); clear hb7
      go_wp2
      go_ret
      exact ⟨rfl, HB7.out⟩
    · go_wp2_with (with_reducible refine wpList_loadMsg rfl (.tmp 3) rfl W.heap.size (m1.set 5 (v)) rfl (MsgAt.set HM4.out 5 (by omega) (by omega) _) ?_)
      have hset := set_bad kk HG.out 5 (by omega) (by omega) (v) HV.out
      have HB5 := Lib.hid (HB4.out.setCell (p := ⟨W.heap.size, 5, none⟩) (Nat.le_refl _) (.int .i64 (v)))
      refine (encode_bad kk (m1.set 5 (v)) 5 _ (by rw [hset.2.2.1]; exact HKK.out.1) HKK.out.2.1 HKK.out.2.2 (by rw [hset.2.2.2]; exact M.fine_ch HF.out) (by omega) (by omega) hset.1 hset.2.1 (HT.out.step HB5.out) (HS.out.step HB5.out) (HSH.out.step HB5.out)).mono ?_
      rintro e w6 ⟨g6, rfl, hN⟩
      have HN := Lib.hid hN; have HB6 := Lib.hid (HB5.out.trans (hN.2.2.mono HB5.out.size)); clear hN hset
      go_wp2_with fail
      refine (law06_is _ 63 5 _ (.inr (.inr ⟨g6, rfl, HN.out.2.1⟩)) (HE.out.step HB6.out)).mono ?_
      rintro e w7 ⟨rfl, hb7⟩
      have HB7 := Lib.hid (HB6.out.trans (hb7.mono HB6.out.size)); clear hb7
      go_wp2
      go_ret
      exact ⟨rfl, HB7.out⟩
    · go_wp2_with (with_reducible refine wpList_loadMsg rfl (.tmp 3) rfl W.heap.size (m1.set 6 (v)) rfl (MsgAt.set HM4.out 6 (by omega) (by omega) _) ?_)
      have hset := set_bad kk HG.out 6 (by omega) (by omega) (v) HV.out
      have HB5 := Lib.hid (HB4.out.setCell (p := ⟨W.heap.size, 6, none⟩) (Nat.le_refl _) (.int .i64 (v)))
      refine (encode_bad kk (m1.set 6 (v)) 6 _ (by rw [hset.2.2.1]; exact HKK.out.1) HKK.out.2.1 HKK.out.2.2 (by rw [hset.2.2.2]; exact M.fine_ch HF.out) (by omega) (by omega) hset.1 hset.2.1 (HT.out.step HB5.out) (HS.out.step HB5.out) (HSH.out.step HB5.out)).mono ?_
      rintro e w6 ⟨g6, rfl, hN⟩
      have HN := Lib.hid hN; have HB6 := Lib.hid (HB5.out.trans (hN.2.2.mono HB5.out.size)); clear hN hset
      go_wp2_with fail
      refine (law06_is _ 63 6 _ (.inr (.inr ⟨g6, rfl, HN.out.2.1⟩)) (HE.out.step HB6.out)).mono ?_
      rintro e w7 ⟨rfl, hb7⟩
      have HB7 := Lib.hid (HB6.out.trans (hb7.mono HB6.out.size)); clear hb7
      go_wp2
      go_ret
      exact ⟨rfl, HB7.out⟩
    · go_wp2_with (with_reducible refine wpList_loadMsg rfl (.tmp 3) rfl W.heap.size (m1.set 7 (v)) rfl (MsgAt.set HM4.out 7 (by omega) (by omega) _) ?_)
      have hset := set_bad kk HG.out 7 (by omega) (by omega) (v) HV.out
      have HB5 := Lib.hid (HB4.out.setCell (p := ⟨W.heap.size, 7, none⟩) (Nat.le_refl _) (.int .i64 (v)))
      refine (encode_bad kk (m1.set 7 (v)) 7 _ (by rw [hset.2.2.1]; exact HKK.out.1) HKK.out.2.1 HKK.out.2.2 (by rw [hset.2.2.2]; exact M.fine_ch HF.out) (by omega) (by omega) hset.1 hset.2.1 (HT.out.step HB5.out) (HS.out.step HB5.out) (HSH.out.step HB5.out)).mono ?_
      rintro e w6 ⟨g6, rfl, hN⟩
      have HN := Lib.hid hN; have HB6 := Lib.hid (HB5.out.trans (hN.2.2.mono HB5.out.size)); clear hN hset
      go_wp2_with fail
      refine (law06_is _ 63 7 _ (.inr (.inr ⟨g6, rfl, HN.out.2.1⟩)) (HE.out.step HB6.out)).mono ?_
      rintro e w7 ⟨rfl, hb7⟩
      have HB7 := Lib.hid (HB6.out.trans (hb7.mono HB6.out.size)); clear hb7
      go_wp2
      go_ret
      exact ⟨rfl, HB7.out⟩
    · go_wp2_with (with_reducible refine wpList_loadMsg rfl (.tmp 3) rfl W.heap.size (m1.set 8 (v)) rfl (MsgAt.set HM4.out 8 (by omega) (by omega) _) ?_)
      have hset := set_bad kk HG.out 8 (by omega) (by omega) (v) HV.out
      have HB5 := Lib.hid (HB4.out.setCell (p := ⟨W.heap.size, 8, none⟩) (Nat.le_refl _) (.int .i64 (v)))
      refine (encode_bad kk (m1.set 8 (v)) 8 _ (by rw [hset.2.2.1]; exact HKK.out.1) HKK.out.2.1 HKK.out.2.2 (by rw [hset.2.2.2]; exact M.fine_ch HF.out) (by omega) (by omega) hset.1 hset.2.1 (HT.out.step HB5.out) (HS.out.step HB5.out) (HSH.out.step HB5.out)).mono ?_
      rintro e w6 ⟨g6, rfl, hN⟩
      have HN := Lib.hid hN; have HB6 := Lib.hid (HB5.out.trans (hN.2.2.mono HB5.out.size)); clear hN hset
      go_wp2_with fail
      refine (law06_is _ 63 8 _ (.inr (.inr ⟨g6, rfl, HN.out.2.1⟩)) (HE.out.step HB6.out)).mono ?_
      rintro e w7 ⟨rfl, hb7⟩
      have HB7 := Lib.hid (HB6.out.trans (hb7.mono HB6.out.size)); clear hb7
      go_wp2
      go_ret
      exact ⟨rfl, HB7.out⟩
  · have HV := Lib.hid (show v < 0 ∨ 4096 < v by omega)
    have hc : ff = 3 ∨ ff = 4 ∨ ff = 5 ∨ ff = 6 ∨ ff = 7 ∨ ff = 8 := by omega
    rcases hc with rfl | rfl | rfl | rfl | rfl | rfl
    · go_wp2_with (with_reducible refine wpList_loadMsg rfl (.tmp 3) rfl W.heap.size (m1.set 3 (v)) rfl (MsgAt.set HM4.out 3 (by omega) (by omega) _) ?_)
      have hset := set_bad kk HG.out 3 (by omega) (by omega) (v) HV.out
      have HB5 := Lib.hid (HB4.out.setCell (p := ⟨W.heap.size, 3, none⟩) (Nat.le_refl _) (.int .i64 (v)))
      refine (encode_bad kk (m1.set 3 (v)) 3 _ (by rw [hset.2.2.1]; exact HKK.out.1) HKK.out.2.1 HKK.out.2.2 (by rw [hset.2.2.2]; exact M.fine_ch HF.out) (by omega) (by omega) hset.1 hset.2.1 (HT.out.step HB5.out) (HS.out.step HB5.out) (HSH.out.step HB5.out)).mono ?_
      rintro e w6 ⟨g6, rfl, hN⟩
      have HN := Lib.hid hN; have HB6 := Lib.hid (HB5.out.trans (hN.2.2.mono HB5.out.size)); clear hN hset
      go_wp2_with fail
      refine (law06_is _ 63 3 _ (.inr (.inr ⟨g6, rfl, HN.out.2.1⟩)) (HE.out.step HB6.out)).mono ?_
      rintro e w7 ⟨rfl, hb7⟩
      have HB7 := Lib.hid (HB6.out.trans (hb7.mono HB6.out.size)); clear hb7
      go_wp2
      go_ret
      exact ⟨rfl, HB7.out⟩
    · go_wp2_with (with_reducible refine wpList_loadMsg rfl (.tmp 3) rfl W.heap.size (m1.set 4 (v)) rfl (MsgAt.set HM4.out 4 (by omega) (by omega) _) ?_)
      have hset := set_bad kk HG.out 4 (by omega) (by omega) (v) HV.out
      have HB5 := Lib.hid (HB4.out.setCell (p := ⟨W.heap.size, 4, none⟩) (Nat.le_refl _) (.int .i64 (v)))
      refine (encode_bad kk (m1.set 4 (v)) 4 _ (by rw [hset.2.2.1]; exact HKK.out.1) HKK.out.2.1 HKK.out.2.2 (by rw [hset.2.2.2]; exact M.fine_ch HF.out) (by omega) (by omega) hset.1 hset.2.1 (HT.out.step HB5.out) (HS.out.step HB5.out) (HSH.out.step HB5.out)).mono ?_
      rintro e w6 ⟨g6, rfl, hN⟩
      have HN := Lib.hid hN; have HB6 := Lib.hid (HB5.out.trans (hN.2.2.mono HB5.out.size)); clear hN hset
      go_wp2_with fail
      refine (law06_is _ 63 4 _ (.inr (.inr ⟨g6, rfl, HN.out.2.1⟩)) (HE.out.step HB6.out)).mono ?_
      rintro e w7 ⟨rfl, hb7⟩
      have HB7 := Lib.hid (HB6.out.trans (hb7.mono HB6.out.size)); clear hb7
      go_wp2
      go_ret
      exact ⟨rfl, HB7.out⟩
    · go_wp2_with (with_reducible refine wpList_loadMsg rfl (.tmp 3) rfl W.heap.size (m1.set 5 (v)) rfl (MsgAt.set HM4.out 5 (by omega) (by omega) _) ?_)
      have hset := set_bad kk HG.out 5 (by omega) (by omega) (v) HV.out
      have HB5 := Lib.hid (HB4.out.setCell (p := ⟨W.heap.size, 5, none⟩) (Nat.le_refl _) (.int .i64 (v)))
      refine (encode_bad kk (m1.set 5 (v)) 5 _ (by rw [hset.2.2.1]; exact HKK.out.1) HKK.out.2.1 HKK.out.2.2 (by rw [hset.2.2.2]; exact M.fine_ch HF.out) (by omega) (by omega) hset.1 hset.2.1 (HT.out.step HB5.out) (HS.out.step HB5.out) (HSH.out.step HB5.out)).mono ?_
      rintro e w6 ⟨g6, rfl, hN⟩
      have HN := Lib.hid hN; have HB6 := Lib.hid (HB5.out.trans (hN.2.2.mono HB5.out.size)); clear hN hset
      go_wp2_with fail
      refine (law06_is _ 63 5 _ (.inr (.inr ⟨g6, rfl, HN.out.2.1⟩)) (HE.out.step HB6.out)).mono ?_
      rintro e w7 ⟨rfl, hb7⟩
      have HB7 := Lib.hid (HB6.out.trans (hb7.mono HB6.out.size)); clear hb7
      go_wp2
      go_ret
      exact ⟨rfl, HB7.out⟩
    · go_wp2_with (with_reducible refine wpList_loadMsg rfl (.tmp 3) rfl W.heap.size (m1.set 6 (v)) rfl (MsgAt.set HM4.out 6 (by omega) (by omega) _) ?_)
      have hset := set_bad kk HG.out 6 (by omega) (by omega) (v) HV.out
      have HB5 := Lib.hid (HB4.out.setCell (p := ⟨W.heap.size, 6, none⟩) (Nat.le_refl _) (.int .i64 (v)))
      refine (encode_bad kk (m1.set 6 (v)) 6 _ (by rw [hset.2.2.1]; exact HKK.out.1) HKK.out.2.1 HKK.out.2.2 (by rw [hset.2.2.2]; exact M.fine_ch HF.out) (by omega) (by omega) hset.1 hset.2.1 (HT.out.step HB5.out) (HS.out.step HB5.out) (HSH.out.step HB5.out)).mono ?_
      rintro e w6 ⟨g6, rfl, hN⟩
      have HN := Lib.hid hN; have HB6 := Lib.hid (HB5.out.trans (hN.2.2.mono HB5.out.size)); clear hN hset
      go_wp2_with fail
      refine (law06_is _ 63 6 _ (.inr (.inr ⟨g6, rfl, HN.out.2.1⟩)) (HE.out.step HB6.out)).mono ?_
      rintro e w7 ⟨rfl, hb7⟩
      have HB7 := Lib.hid (HB6.out.trans (hb7.mono HB6.out.size)); clear hb7
      go_wp2
      go_ret
      exact ⟨rfl, HB7.out⟩
    · go_wp2_with (with_reducible refine wpList_loadMsg rfl (.tmp 3) rfl W.heap.size (m1.set 7 (v)) rfl (MsgAt.set HM4.out 7 (by omega) (by omega) _) ?_)
      have hset := set_bad kk HG.out 7 (by omega) (by omega) (v) HV.out
      have HB5 := Lib.hid (HB4.out.setCell (p := ⟨W.heap.size, 7, none⟩) (Nat.le_refl _) (.int .i64 (v)))
      refine (encode_bad kk (m1.set 7 (v)) 7 _ (by rw [hset.2.2.1]; exact HKK.out.1) HKK.out.2.1 HKK.out.2.2 (by rw [hset.2.2.2]; exact M.fine_ch HF.out) (by omega) (by omega) hset.1 hset.2.1 (HT.out.step HB5.out) (HS.out.step HB5.out) (HSH.out.step HB5.out)).mono ?_
      rintro e w6 ⟨g6, rfl, hN⟩
      have HN := Lib.hid hN; have HB6 := Lib.hid (HB5.out.trans (hN.2.2.mono HB5.out.size)); clear hN hset
      go_wp2_with fail
      refine (law06_is _ 63 7 _ (.inr (.inr ⟨g6, rfl, HN.out.2.1⟩)) (HE.out.step HB6.out)).mono ?_
      rintro e w7 ⟨rfl, hb7⟩
      have HB7 := Lib.hid (HB6.out.trans (hb7.mono HB6.out.size)); clear hb7
      go_wp2
      go_ret
      exact ⟨rfl, HB7.out⟩
    · go_wp2_with (with_reducible refine wpList_loadMsg rfl (.tmp 3) rfl W.heap.size (m1.set 8 (v)) rfl (MsgAt.set HM4.out 8 (by omega) (by omega) _) ?_)
      have hset := set_bad kk HG.out 8 (by omega) (by omega) (v) HV.out
      have HB5 := Lib.hid (HB4.out.setCell (p := ⟨W.heap.size, 8, none⟩) (Nat.le_refl _) (.int .i64 (v)))
      refine (encode_bad kk (m1.set 8 (v)) 8 _ (by rw [hset.2.2.1]; exact HKK.out.1) HKK.out.2.1 HKK.out.2.2 (by rw [hset.2.2.2]; exact M.fine_ch HF.out) (by omega) (by omega) hset.1 hset.2.1 (HT.out.step HB5.out) (HS.out.step HB5.out) (HSH.out.step HB5.out)).mono ?_
      rintro e w6 ⟨g6, rfl, hN⟩
      have HN := Lib.hid hN; have HB6 := Lib.hid (HB5.out.trans (hN.2.2.mono HB5.out.size)); clear hN hset
      go_wp2_with fail
      refine (law06_is _ 63 8 _ (.inr (.inr ⟨g6, rfl, HN.out.2.1⟩)) (HE.out.step HB6.out)).mono ?_
      rintro e w7 ⟨rfl, hb7⟩
      have HB7 := Lib.hid (HB6.out.trans (hb7.mono HB6.out.size)); clear hb7
      go_wp2
      go_ret
      exact ⟨rfl, HB7.out⟩
end Go.Proofs.YtoophonmonojcaaDoor

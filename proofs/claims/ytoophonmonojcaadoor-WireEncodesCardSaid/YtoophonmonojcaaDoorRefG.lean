/- Contract of jotterref06.Decode. -/
import Derived.Test.YtoophonmonojcaaDoorRefF
namespace Go.Proofs.YtoophonmonojcaaDoor
open Go.RowKit

/-- What jotterref06.Decode answers. -/
def RefDecPost (w : World) (b : List UInt8) (e : Ending) (w' : World) : Prop :=
  (∃ c a, decode b = .inl (c, a) ∧ e = .returned (.tuple #[.agg zeroM.cs, .int .i64 c, .int .i64 a]) ∧ Below w.heap.size w w') ∨
  (∃ m, decode b = .inr m ∧ e = .returned (.tuple #[.agg m.cs, .int .i64 0, .int .i64 (-1)]) ∧ Below w.heap.size w w')
theorem lenOf_long (l : List Nat) : longOf l = 1 + lenOf l := rfl
theorem decode_cut {b : List UInt8} {n : Nat} (hl : b.length = n) (h4 : 4 ≤ n) (h64 : n ≤ 64) (hs : b.drop (b.length - 4) = le4 (sum (b.take (b.length - 4)))) : decode b = bodyOf (b.take (n - 4)) := by
  unfold decode
  rw [if_neg (by omega), if_neg (by omega), if_pos hs, hl]
theorem body_bad_len {i : List UInt8} {k : Nat} (h0 : i ≠ []) (hk : (i.getD 0 0).toNat = k) (h1 : 1 ≤ k) (h6 : k ≤ 6) (h : i.length ≠ longOf (shapeN k)) : bodyOf i = .inl (62, i.length) := by
  unfold bodyOf
  rw [if_neg h0]
  dsimp only
  rw [hk, if_neg (by omega), if_pos h]
theorem body_some {i : List UInt8} {k j : Nat} (h0 : i ≠ []) (hk : (i.getD 0 0).toNat = k) (h1 : 1 ≤ k) (h6 : k ≤ 6) (h : i.length = longOf (shapeN k)) (hj : badI i (shapeN k) (k == 2) = some j) : bodyOf i = .inl (63, posI (shapeN k) j) := by
  unfold bodyOf
  rw [if_neg h0]
  dsimp only
  rw [hk, if_neg (by omega), if_neg (by omega), hj]
theorem body_none {i : List UInt8} {k : Nat} (h0 : i ≠ []) (hk : (i.getD 0 0).toNat = k) (h1 : 1 ≤ k) (h6 : k ≤ 6) (h : i.length = longOf (shapeN k)) (hj : badI i (shapeN k) (k == 2) = none) : bodyOf i = .inr (M.of (readB i (shapeN k))) := by
  unfold bodyOf
  rw [if_neg h0]
  dsimp only
  rw [hk, if_neg (by omega), if_neg (by omega), hj]
theorem readM_ch (b : List UInt8) (k : Nat) (kind : Int) : 0 ≤ (readM b (shapeN k) kind).op.ch ∧ (readM b (shapeN k) kind).op.ch ≤ 255 := readB_byte b k

set_option maxRecDepth 100000 in
set_option maxHeartbeats 4000000 in
theorem refDecode_any (ao : Option Addr) (n cap : Nat) (b : List UInt8) (w : World) (hl : b.length = n) (hr : Rd w ao b) (hcap : n ≤ cap) (hb : n ≤ 9223372036854775807) :
    Calls Tryd.prog 69 #[.slice ao n cap] w (RefDecPost w b) := by
  have hpe : ∀ c a w', decode b = .inl (c, a) → Below w.heap.size w w' → RefDecPost w b (.returned (.tuple #[.agg zeroM.cs, .int .i64 c, .int .i64 a])) w' := fun c a w' h hb => .inl ⟨c, a, h, rfl, hb⟩
  have hpi : ∀ m w', decode b = .inr m → Below w.heap.size w w' → RefDecPost w b (.returned (.tuple #[.agg m.cs, .int .i64 0, .int .i64 (-1)])) w' := fun m w' h hb => .inr ⟨m, h, rfl, hb⟩
  obtain ⟨RP, hRP⟩ : ∃ RP, RP = RefDecPost w b := ⟨_, rfl⟩
  rw [← hRP] at hpe hpi ⊢
  have hz0 : MsgAt (w.alloc (.cells zeroM.cs 25)) w.heap.size zeroM := heap_alloc_new _ _
  have hb0 := below1 w (.cells zeroM.cs 25)
  have HPE := Lib.hid hpe; have HPI := Lib.hid hpi; have HZ0 := Lib.hid hz0; have HB0 := Lib.hid hb0; have HL := Lib.hid hl; have HR := Lib.hid hr
  clear hpe hpi hRP hz0 hb0 hl hr
  by_cases h64 : 64 < n
  · have HD := Lib.hid (show decode b = .inl (60, 64) by unfold decode; rw [if_pos (by rw [HL.out]; exact h64)])
    go_enter Tryd.func69, Tryd.ntmps69
    go_wp2_with fail
    exact ret_msg3 rfl rfl w.heap.size zeroM (.int .i64 60) (.int .i64 64) rfl HZ0.out rfl rfl (HPE.out _ _ _ HD.out HB0.out)
  by_cases h4 : n < 4
  · have HD := Lib.hid (show decode b = .inl (62, (n : Nat)) by unfold decode; rw [if_neg (by rw [HL.out]; omega), if_pos (by rw [HL.out]; exact h4), HL.out])
    have h64' : n ≤ 64 := by omega
    go_enter Tryd.func69, Tryd.ntmps69
    go_wp2_with fail
    exact ret_msg3 rfl rfl w.heap.size zeroM (.int .i64 62) (.int .i64 n) rfl HZ0.out rfl rfl (HPE.out _ _ _ HD.out HB0.out)
  have h64' : n ≤ 64 := by omega
  have h4' : 4 ≤ n := by omega
  go_enter Tryd.func69, Tryd.ntmps69
  go_wp2_with fail
  refine (refOpen_any ao n cap b _ HL.out (HR.out.step HB0.out) h4' hcap (by omega)).mono ?_
  rintro e w1 hop
  rcases hop with ⟨hs, g, cg, rfl, hrd, hcg, hb1⟩ | ⟨hs, rfl, hb1⟩
  · have HDC := Lib.hid (decode_cut HL.out h4' h64' hs)
    have HB1 := Lib.hid (HB0.out.trans (hb1.mono HB0.out.size)); have HZ1 := Lib.hid (HZ0.out.keep hb1)
    have hil : (b.take (n - 4)).length = n - 4 := by have := HL.out; simp; omega
    rw [HL.out] at hrd hcg ⊢
    obtain ⟨i, hi⟩ : ∃ i, i = b.take (n - 4) := ⟨_, rfl⟩
    rw [← hi] at hil hrd HDC
    obtain ⟨L, hL⟩ : ∃ L, L = n - 4 := ⟨_, rfl⟩
    rw [← hL] at hil hcg ⊢
    have hL60 : L ≤ 60 := by omega
    have HIL := Lib.hid hil; have HRD := Lib.hid hrd
    clear hs hb1 hi hL hil hrd
    by_cases hL0 : L = 0
    · subst hL0
      have HD := Lib.hid (show decode b = .inl (62, 0) by rw [HDC.out, List.eq_nil_of_length_eq_zero HIL.out]; rfl)
      go_wp2_with ((with_reducible refine wpList_storeMsg2 rfl (.tmp 2) (.tmp 35) rfl rfl w.heap.size zeroM zeroM rfl rfl HZ1.out ?_); intro w5 hm5 ht5 ho5; have HM5 := Lib.hid hm5; have HB5 := Lib.hid (ht5 _ _ (Nat.le_refl _) HB1.out); clear hm5 ht5 ho5)
      exact ret_msg3 rfl rfl w.heap.size zeroM (.int .i64 62) (.int .i64 0) rfl HM5.out rfl rfl (HPE.out _ _ _ HD.out HB5.out)
    · have hne : ((L : Int) == 0) = false := by rw [beq_eq_false_iff_ne]; omega
      have hLp : 0 < L := by omega
      have HI0 := Lib.hid (show i ≠ [] by intro h; have := HIL.out; rw [h] at this; simp at this; omega)
      have hx : w1.cell? ⟨g, 0, none⟩ = some (.int .u8 ((i.getD 0 0).toNat : Int)) := by
        obtain ⟨b', o', e', hc'⟩ := HRD.out 0 (by rw [HIL.out]; exact hLp)
        cases e'
        exact hc'
      obtain ⟨k, hk⟩ : ∃ k, k = (i.getD 0 0).toNat := ⟨_, rfl⟩
      rw [← hk] at hx
      have hk255 : k < 256 := by rw [hk]; exact (i.getD 0 0).toNat_lt
      have HK := Lib.hid hk.symm
      have HX := Lib.hid hx
      have hnm : ∀ w, Calls Tryd.prog 104 #[.int .i64 (k : Int)] w (ListPost w (shapeN k)) := fun w => refNamed_any k w
      clear hk hL0
      go_wp2_with fail
      refine (hnm _).mono ?_
      rintro e w2 ⟨al, rfl, hrl, hnl, hb2⟩
      have HB2 := Lib.hid (HB1.out.trans (hb2.mono HB1.out.size)); have HZ2 := Lib.hid (HZ1.out.keep hb2); have HRD2 := Lib.hid (HRD.out.step hb2); have HRL := Lib.hid hrl
      have hx2 := (hb2.cell (p := ⟨g, 0, none⟩) (block_lt HX.out)).trans HX.out
      clear hb2 hrl hnl hnm hx
      by_cases hk16 : k < 1 ∨ 6 < k
      · have e0 : shapeN k = [] := by
          unfold shapeN
          split
          · omega
          · omega
          · omega
          · omega
          · omega
          · omega
          · rfl
        rw [e0]
        have HD := Lib.hid (show decode b = .inl (61, 0) by
          rw [HDC.out]; unfold bodyOf; rw [if_neg HI0.out]; dsimp only; rw [HK.out, if_pos hk16])
        clear e0 hk16
        go_wp2_with ((with_reducible refine wpList_storeMsg2 rfl (.tmp 2) (.tmp 44) rfl rfl w.heap.size zeroM zeroM rfl rfl HZ2.out ?_); intro w5 hm5 ht5 ho5; have HM5 := Lib.hid hm5; have HB5 := Lib.hid (ht5 _ _ (Nat.le_refl _) HB2.out); clear hm5 ht5 ho5)
        exact ret_msg3 rfl rfl w.heap.size zeroM (.int .i64 61) (.int .i64 0) rfl HM5.out rfl rfl (HPE.out _ _ _ HD.out HB5.out)
      · have hk1 : 1 ≤ k := by omega
        have hk6 : k ≤ 6 := by omega
        have hsl := shape_len k hk1 hk6
        have hbad := fun h => body_bad_len HI0.out HK.out hk1 hk6 h
        have hsm := fun j h h2 => body_some (j := j) HI0.out HK.out hk1 hk6 h h2
        have hno := fun h h2 => body_none HI0.out HK.out hk1 hk6 h h2
        have hrm := readM_same i (shapeN k)
        rw [HK.out] at hrm
        have hrc := readM_ch i k (k : Int)
        have hord := ord_shape k hk1 hk6
        have hfl : ∀ f ∈ shapeN k, 1 ≤ f ∧ f < 14 := shape_lt k
        obtain ⟨S, hS⟩ : ∃ S, S = shapeN k := ⟨_, rfl⟩
        rw [← hS] at hsl hbad hsm hno hrm hrc hord hfl HRL ⊢
        obtain ⟨N, hN⟩ : ∃ N, N = S.length := ⟨_, rfl⟩
        rw [← hN] at hsl ⊢
        have hlo := lenOf_long S
        have hle := lenOf_le S
        obtain ⟨lo, hlod⟩ : ∃ lo, lo = lenOf S := ⟨_, rfl⟩
        rw [← hlod] at hlo hle
        have hn0 : ((N : Int) == 0) = false := by rw [beq_eq_false_iff_ne]; omega
        have HBAD := Lib.hid hbad; have HSM := Lib.hid hsm; have HNO := Lib.hid hno; have HRM := Lib.hid hrm; have HRC := Lib.hid hrc; have HORD := Lib.hid hord; have HFL := Lib.hid hfl; have HNN := Lib.hid hN; have HLO := Lib.hid hlo; have HLOD := Lib.hid hlod
        clear hS hN hbad hsm hno hrm hrc hord hfl hlo hlod hk16
        have hlo20 : lo ≤ 20 := by rw [← HNN.out] at hle; omega
        clear hle
        go_wp2_with fail
        refine (length_any al N N S _ HNN.out.symm HRL.out (by omega) HFL.out).mono ?_
        rintro e w3 ⟨rfl, rfl⟩
        rw [← HLOD.out]
        by_cases hll : L = 1 + lo
        · have ht : ((L : Int) != 1 + (lo : Int)) = false := by rw [bne_eq_false_iff_eq]; omega
          have HLL := Lib.hid (show i.length = longOf S by rw [HIL.out, HLO.out]; exact hll)
          clear hll
          go_wp2_with fail
          refine (refRead_any (k : Int) (k == 2) al N N S (some ⟨g, 0, none⟩) L cg i _ HNN.out.symm HRL.out HIL.out HRD2.out HLL.out HORD.out (by omega) (by simp; omega) HRC.out).mono ?_
          rintro e w4 hrp
          rcases hrp with ⟨hbi, rfl, hb4⟩ | ⟨j, f, hbi, hf, rfl, hb4⟩
          · have HD := Lib.hid (show decode b = .inr (readM i S (k : Int)) by rw [HDC.out, HNO.out HLL.out hbi, HRM.out])
            have HB4 := Lib.hid (HB2.out.trans (hb4.mono HB2.out.size)); have HZ4 := Lib.hid (HZ2.out.keep hb4)
            obtain ⟨RM, hRM⟩ : ∃ RM, RM = readM i S (k : Int) := ⟨_, rfl⟩
            rw [← hRM] at HD ⊢
            have HZZ := Lib.hid (show MsgAt (w4.alloc (.cells #[.int .i64 0, .int .i64 0, .int .i64 0, .int .i64 0, .int .i64 0, .int .i64 0, .int .i64 0, .int .i64 0, .int .i64 0, .int .i64 0, .int .i64 0, .int .u8 0, .int .i64 0, .int .i64 0] 25)) w4.heap.size zeroM from heap_alloc_new _ _)
            clear hbi hb4 hRM
            go_wp2_with (first
              | ((with_reducible refine wpList_storeMsg2 rfl (.tmp 9) (.tmp 62) rfl rfl w4.heap.size zeroM RM rfl rfl HZZ.out ?_); intro w5 hm5 ht5 ho5; have HM5 := Lib.hid hm5; have HB5 := Lib.hid (ht5 _ _ HB4.out.size (HB4.out.alloc HB4.out.size _)); have HZ5 := Lib.hid (show MsgAt w5 w.heap.size zeroM from (ho5 w.heap.size (by have := HZ4.out.lt; omega)).trans ((heap_push w4 _ _ HZ4.out.lt).trans HZ4.out)); clear hm5 ht5 ho5)
              | (with_reducible refine wpList_loadMsg rfl (.tmp 9) rfl w4.heap.size RM rfl HM5.out ?_)
              | ((with_reducible refine wpList_storeMsg2 rfl (.tmp 2) (.tmp 69) rfl rfl w.heap.size zeroM RM rfl rfl HZ5.out ?_); intro w6 hm6 ht6 ho6; have HM6 := Lib.hid hm6; have HB6 := Lib.hid (ht6 _ _ (Nat.le_refl _) HB5.out); clear hm6 ht6 ho6))
            exact ret_msg3 rfl rfl w.heap.size RM (.int .i64 0) (.int .i64 (-1)) rfl HM6.out rfl rfl (HPI.out _ _ HD.out HB6.out)
          · have HD := Lib.hid (show decode b = .inl (63, (posI S j : Nat)) by rw [HDC.out, HSM.out j HLL.out hbi])
            have HB4 := Lib.hid (HB2.out.trans (hb4.mono HB2.out.size)); have HZ4 := Lib.hid (HZ2.out.keep hb4)
            obtain ⟨RM, hRM⟩ : ∃ RM, RM = readM i S (k : Int) := ⟨_, rfl⟩
            rw [← hRM]
            have HZZ := Lib.hid (show MsgAt (w4.alloc (.cells #[.int .i64 0, .int .i64 0, .int .i64 0, .int .i64 0, .int .i64 0, .int .i64 0, .int .i64 0, .int .i64 0, .int .i64 0, .int .i64 0, .int .i64 0, .int .u8 0, .int .i64 0, .int .i64 0] 25)) w4.heap.size zeroM from heap_alloc_new _ _)
            have hf0 : ((f : Int) != 0) = true := by rw [bne_iff_ne]; omega
            clear hbi hb4 hRM
            go_wp2_with (first
              | ((with_reducible refine wpList_storeMsg2 rfl (.tmp 9) (.tmp 62) rfl rfl w4.heap.size zeroM RM rfl rfl HZZ.out ?_); intro w5 hm5 ht5 ho5; have HB5 := Lib.hid (ht5 _ _ HB4.out.size (HB4.out.alloc HB4.out.size _)); have HZ5 := Lib.hid (show MsgAt w5 w.heap.size zeroM from (ho5 w.heap.size (by have := HZ4.out.lt; omega)).trans ((heap_push w4 _ _ HZ4.out.lt).trans HZ4.out)); clear hm5 ht5 ho5)
              | ((with_reducible refine wpList_storeMsg2 rfl (.tmp 2) (.tmp 67) rfl rfl w.heap.size zeroM zeroM rfl rfl HZ5.out ?_); intro w6 hm6 ht6 ho6; have HM6 := Lib.hid hm6; have HB6 := Lib.hid (ht6 _ _ (Nat.le_refl _) HB5.out); clear hm6 ht6 ho6))
            exact ret_msg3 rfl rfl w.heap.size zeroM (.int .i64 63) (.int .i64 (posI S j : Nat)) rfl HM6.out rfl rfl (HPE.out _ _ _ HD.out HB6.out)
        · have ht : ((L : Int) != 1 + (lo : Int)) = true := by rw [bne_iff_ne]; omega
          have HD := Lib.hid (show decode b = .inl (62, (L : Nat)) by rw [HDC.out, HBAD.out (by rw [HIL.out, HLO.out]; exact hll), HIL.out])
          clear hll
          go_wp2_with ((with_reducible refine wpList_storeMsg2 rfl (.tmp 2) (.tmp 51) rfl rfl w.heap.size zeroM zeroM rfl rfl HZ2.out ?_); intro w5 hm5 ht5 ho5; have HM5 := Lib.hid hm5; have HB5 := Lib.hid (ht5 _ _ (Nat.le_refl _) HB2.out); clear hm5 ht5 ho5)
          exact ret_msg3 rfl rfl w.heap.size zeroM (.int .i64 62) (.int .i64 L) rfl HM5.out rfl rfl (HPE.out _ _ _ HD.out HB5.out)
  · have HD := Lib.hid (show decode b = .inl (64, ((n - 4 : Nat) : Int)) by unfold decode; rw [if_neg (by rw [HL.out]; omega), if_neg (by rw [HL.out]; omega), if_neg hs, HL.out])
    have HB1 := Lib.hid (HB0.out.trans (hb1.mono HB0.out.size)); have HZ1 := Lib.hid (HZ0.out.keep hb1)
    rw [HL.out]
    obtain ⟨L, hL⟩ : ∃ L, L = n - 4 := ⟨_, rfl⟩
    rw [← hL] at HD ⊢
    clear hs hb1 hL
    go_wp2_with ((with_reducible refine wpList_storeMsg2 rfl (.tmp 2) (.tmp 30) rfl rfl w.heap.size zeroM zeroM rfl rfl HZ1.out ?_); intro w5 hm5 ht5 ho5; have HM5 := Lib.hid hm5; have HB5 := Lib.hid (ht5 _ _ (Nat.le_refl _) HB1.out); clear hm5 ht5 ho5)
    exact ret_msg3 rfl rfl w.heap.size zeroM (.int .i64 64) (.int .i64 L) rfl HM5.out rfl rfl (HPE.out _ _ _ HD.out HB5.out)
end Go.Proofs.YtoophonmonojcaaDoor

/- Contract of jotterref06.DecodeItem. -/
import Derived.Test.YtoophonmonojcaaDoorRefF
import Derived.Test.YtoophonmonojcaaDoorGItemB
namespace Go.Proofs.YtoophonmonojcaaDoor
open Go.RowKit

/-- What jotterref06.DecodeItem answers. -/
def RefDecItemPost (w : World) (b : List UInt8) (e : Ending) (w' : World) : Prop :=
  (∃ c a, itemDec b = .inl (c, a) ∧ e = .returned (.tuple #[.agg zeroI.cs, .int .i64 c, .int .i64 a]) ∧ Below w.heap.size w w') ∨
  (∃ m, itemDec b = .inr m ∧ e = .returned (.tuple #[.agg m.cs, .int .i64 0, .int .i64 (-1)]) ∧ Below w.heap.size w w')
theorem ret_item3 {fn : Func} {p u v : Tmp} (h : fn.results = #[.cell p 39, .tmp u, .tmp v]) {R : Ending → World → Prop} {a : Act} {w : World} (hd : a.defers = []) (g : Nat) (m : It) (x y : Value) (hp : a.tmps.getD p undef = .pointer (some ⟨g, 0, none⟩)) (hg : ItemAt w g m) (hx : a.tmps.getD u undef = x) (hy : a.tmps.getD v undef = y)
    (hR : R (.returned (.tuple #[.agg m.cs, x, y])) w) : bodyPost Tryd.prog fn R .ret a w :=
  bodyPost_ret (results_cell_two h _ w g 39 m.cs (0, 0) _ hp hg Tryd.underlying39 rfl infoItem x y hx hy) hd hR
theorem item_bad_len {i : List UInt8} {k : Nat} (h0 : i ≠ []) (hk : (i.getD 0 0).toNat = k) (h1 : 1 ≤ k) (h6 : k ≤ 2) (h : i.length ≠ longOf (shapeI k)) : itemDec i = .inl (62, i.length) := by
  unfold itemDec
  rw [if_neg h0]
  dsimp only
  rw [hk, if_neg (by omega), if_pos h]
theorem item_some {i : List UInt8} {k j : Nat} (h0 : i ≠ []) (hk : (i.getD 0 0).toNat = k) (h1 : 1 ≤ k) (h6 : k ≤ 2) (h : i.length = longOf (shapeI k)) (hj : badI i (shapeI k) false = some j) : itemDec i = .inl (63, posI (shapeI k) j) := by
  unfold itemDec
  rw [if_neg h0]
  dsimp only
  rw [hk, if_neg (by omega), if_neg (by omega), hj]
theorem item_none {i : List UInt8} {k : Nat} (h0 : i ≠ []) (hk : (i.getD 0 0).toNat = k) (h1 : 1 ≤ k) (h6 : k ≤ 2) (h : i.length = longOf (shapeI k)) (hj : badI i (shapeI k) false = none) : itemDec i = .inr (It.of (readB i (shapeI k))) := by
  unfold itemDec
  rw [if_neg h0]
  dsimp only
  rw [hk, if_neg (by omega), if_neg (by omega), hj]
theorem shapeI_lt (k : Nat) : ∀ f ∈ shapeI k, 1 ≤ f ∧ f < 14 := fun f hf => fieldsI_lt f (shapeI_in k f hf)
abbrev MJ (w : World) (g : Nat) (k ep c ha fi nu ac re ta ok op oc ol os : Int) (b o : Nat) (x : Int) : Prop := MS w g k ep c ha fi nu ac re ta ok op oc ol os ∧ w.cell? ⟨b, o, none⟩ = some (.int .u8 x)
theorem mjDrew {w : World} {g : Nat} {k ep c ha fi nu ac re ta ok op oc ol os : Int} {b o : Nat} {x : Int} (h : MJ w g k ep c ha fi nu ac re ta ok op oc ol os b o x) : MJ w.drew g k ep c ha fi nu ac re ta ok op oc ol os b o x := h
theorem mjChain {w : World} {g gm : Nat} {k ep c ha fi nu ac re ta ok op oc ol os : Int} {b o : Nat} {x : Int} (h : MJ w g k ep c ha fi nu ac re ta ok op oc ol os b o x) (hne : g ≠ gm) (hne2 : b ≠ gm) (a0 a1 a2 a3 a4 a5 a6 a7 : Value) : MJ ((((((((w.setCell ⟨gm, 0, none⟩ a0).setCell ⟨gm, 1, none⟩ a1).setCell ⟨gm, 2, none⟩ a2).setCell ⟨gm, 3, none⟩ a3).setCell ⟨gm, 4, none⟩ a4).setCell ⟨gm, 5, none⟩ a5).setCell ⟨gm, 6, none⟩ a6).setCell ⟨gm, 7, none⟩ a7) g k ep c ha fi nu ac re ta ok op oc ol os b o x := by
  have e : ∀ (q i : Nat) (v : Value), q ≠ gm → w.cell? ⟨q, i, none⟩ = some v → (w.setCells gm 0 [a0, a1, a2, a3, a4, a5, a6, a7]).cell? ⟨q, i, none⟩ = some v := fun q i v hq hv => (World.cell?_setCells_out gm [a0, a1, a2, a3, a4, a5, a6, a7] 0 w ⟨q, i, none⟩ (fun hb _ => absurd hb hq)).trans hv
  obtain ⟨⟨h0, h1, h2, h3, h4, h5, h6, h7, h8, h9, h10, h11, h12, h13⟩, h14⟩ := h
  exact ⟨⟨e _ _ _ hne h0, e _ _ _ hne h1, e _ _ _ hne h2, e _ _ _ hne h3, e _ _ _ hne h4, e _ _ _ hne h5, e _ _ _ hne h6, e _ _ _ hne h7, e _ _ _ hne h8, e _ _ _ hne h9, e _ _ _ hne h10, e _ _ _ hne h11, e _ _ _ hne h12, e _ _ _ hne h13⟩, e _ _ _ hne2 h14⟩

set_option maxRecDepth 100000 in
set_option maxHeartbeats 4000000 in
theorem refDecodeItem_any (ao : Option Addr) (n cap : Nat) (b : List UInt8) (w : World) (hl : b.length = n) (hr : Rd w ao b) (hb : n ≤ 9223372036854775807) :
    Calls Tryd.prog 53 #[.slice ao n cap] w (RefDecItemPost w b) := by
  have hpe : ∀ c a w', itemDec b = .inl (c, a) → Below w.heap.size w w' → RefDecItemPost w b (.returned (.tuple #[.agg zeroI.cs, .int .i64 c, .int .i64 a])) w' := fun c a w' h hb => .inl ⟨c, a, h, rfl, hb⟩
  have hpi : ∀ m w', itemDec b = .inr m → Below w.heap.size w w' → RefDecItemPost w b (.returned (.tuple #[.agg m.cs, .int .i64 0, .int .i64 (-1)])) w' := fun m w' h hb => .inr ⟨m, h, rfl, hb⟩
  obtain ⟨RP, hRP⟩ : ∃ RP, RP = RefDecItemPost w b := ⟨_, rfl⟩
  rw [← hRP] at hpe hpi ⊢
  have hz0 : ItemAt (w.alloc (.cells zeroI.cs 39)) w.heap.size zeroI := heap_alloc_new _ _
  have hb0 := below1 w (.cells zeroI.cs 39)
  have HPE := Lib.hid hpe; have HPI := Lib.hid hpi; have HZ0 := Lib.hid hz0; have HB0 := Lib.hid hb0; have HL := Lib.hid hl; have HR := Lib.hid hr
  clear hpe hpi hRP hz0 hb0 hl hr
  by_cases hn0 : n = 0
  · subst hn0
    have HD := Lib.hid (show itemDec b = .inl (62, 0) by rw [List.eq_nil_of_length_eq_zero HL.out]; rfl)
    go_enter Tryd.func53, Tryd.ntmps53
    go_wp2_with fail
    exact ret_item3 rfl rfl w.heap.size zeroI (.int .i64 62) (.int .i64 0) rfl HZ0.out rfl rfl (HPE.out _ _ _ HD.out HB0.out)
  have hne : ((n : Int) == 0) = false := by rw [beq_eq_false_iff_ne]; omega
  have hnp : 0 < n := by omega
  have HI0 := Lib.hid (show b ≠ [] by intro h; have := HL.out; rw [h] at this; simp at this; omega)
  obtain ⟨g, og, rfl, hgw, hcg⟩ := HR.out.some (by rw [HL.out]; exact hnp)
  have hx0 := hcg 0 (by rw [HL.out]; exact hnp)
  rw [Nat.add_zero] at hx0
  have hx := (HB0.out.cell (p := ⟨g, og, none⟩) hgw).trans hx0
  obtain ⟨k, hk⟩ : ∃ k, k = (b.getD 0 0).toNat := ⟨_, rfl⟩
  rw [← hk] at hx hx0
  have hk255 : k < 256 := by rw [hk]; exact (b.getD 0 0).toNat_lt
  have HK := Lib.hid hk.symm
  have HX := Lib.hid hx; have HX0 := Lib.hid hx0
  have hnm : ∀ w, Calls Tryd.prog 88 #[.int .i64 (k : Int)] w (ListPost w (shapeI k)) := fun w => itemFields_any k w
  clear hk hn0 hcg hx0
  have hzl : zeroI.cs = #[.int .i64 0, .int .i64 0, .int .i64 0, .int .i64 0, .int .i64 0, .int .u8 0, .int .i64 0, .int .i64 0] := rfl
  rw [hzl] at hx HB0 HZ0
  clear hzl
  go_enter Tryd.func53, Tryd.ntmps53
  go_wp2_with fail
  refine (hnm _).mono ?_
  rintro e w2 ⟨al, rfl, hrl, hnl, hb2⟩
  have HB2 := Lib.hid (HB0.out.trans (hb2.mono HB0.out.size)); have HZ2 := Lib.hid (HZ0.out.keep hb2); have HRD2 := Lib.hid (HR.out.step (HB0.out.trans (hb2.mono HB0.out.size))); have HRL := Lib.hid hrl
  have hx2 := (HB2.out.cell (p := ⟨g, og, none⟩) hgw).trans HX0.out
  clear hb2 hrl hnl hnm hx
  by_cases hk16 : k < 1 ∨ 2 < k
  · have e0 : shapeI k = [] := by
      unfold shapeI
      split
      · omega
      · omega
      · rfl
    rw [e0]
    have HD := Lib.hid (show itemDec b = .inl (61, 0) by
      unfold itemDec; rw [if_neg HI0.out]; dsimp only; rw [HK.out, if_pos hk16])
    clear e0 hk16
    go_wp2_with ((with_reducible refine wpList_storeItem2 rfl (.tmp 2) (.tmp 21) rfl rfl w.heap.size zeroI zeroI rfl rfl HZ2.out ?_); intro w5 hm5 ht5 ho5; have HM5 := Lib.hid hm5; have HB5 := Lib.hid (ht5 _ _ (Nat.le_refl _) HB2.out); clear hm5 ht5 ho5)
    exact ret_item3 rfl rfl w.heap.size zeroI (.int .i64 61) (.int .i64 0) rfl HM5.out rfl rfl (HPE.out _ _ _ HD.out HB5.out)
  · have hk1 : 1 ≤ k := by omega
    have hk6 : k ≤ 2 := by omega
    have hsl := shapeI_len k hk1 hk6
    have hbad := fun h => item_bad_len HI0.out HK.out hk1 hk6 h
    have hsm := fun j h h2 => item_some (j := j) HI0.out HK.out hk1 hk6 h h2
    have hno := fun h h2 => item_none HI0.out HK.out hk1 hk6 h h2
    have hrc : 0 ≤ (readM b (shapeI k) 5).op.ch ∧ (readM b (shapeI k) 5).op.ch ≤ 255 := readB_byteI b k
    have hord := ord_shapeI k hk1 hk6
    have hfl : ∀ f ∈ shapeI k, 1 ≤ f ∧ f < 14 := shapeI_lt k
    have hV0 : readB b (shapeI k) 0 = (k : Int) := by unfold readB; rw [if_pos rfl, HK.out]
    obtain ⟨S, hS⟩ : ∃ S, S = shapeI k := ⟨_, rfl⟩
    rw [← hS] at hsl hbad hsm hno hrc hord hfl HRL hV0 ⊢
    obtain ⟨N, hN⟩ : ∃ N, N = S.length := ⟨_, rfl⟩
    rw [← hN] at hsl ⊢
    have hlo : longOf S = 1 + lenOf S := rfl
    have hle := lenOf_le S
    obtain ⟨lo, hlod⟩ : ∃ lo, lo = lenOf S := ⟨_, rfl⟩
    rw [← hlod] at hlo hle
    have hn0 : ((N : Int) == 0) = false := by rw [beq_eq_false_iff_ne]; omega
    have HBAD := Lib.hid hbad; have HSM := Lib.hid hsm; have HNO := Lib.hid hno; have HRC := Lib.hid hrc; have HORD := Lib.hid hord; have HFL := Lib.hid hfl; have HNN := Lib.hid hN; have HLO := Lib.hid hlo; have HLOD := Lib.hid hlod; have HV0 := Lib.hid hV0
    clear hS hN hbad hsm hno hrc hord hfl hlo hlod hk16 hV0
    have hlo20 : lo ≤ 20 := by rw [← HNN.out] at hle; omega
    clear hle
    go_wp2_with fail
    refine (length_any al N N S _ HNN.out.symm HRL.out (by omega) HFL.out).mono ?_
    rintro e w3 ⟨rfl, rfl⟩
    rw [← HLOD.out]
    by_cases hll : n = 1 + lo
    · have ht : ((n : Int) != 1 + (lo : Int)) = false := by rw [bne_eq_false_iff_eq]; omega
      have HLL := Lib.hid (show b.length = longOf S by rw [HL.out, HLO.out]; exact hll)
      clear hll
      go_wp2_with fail
      refine (refRead_any 5 false al N N S (some ⟨g, og, none⟩) n cap b _ HNN.out.symm HRL.out HL.out HRD2.out HLL.out HORD.out (by omega) (by simp) HRC.out).mono ?_
      rintro e w4 hrp
      rcases hrp with ⟨hbi, rfl, hb4⟩ | ⟨j, f, hbi, hf, rfl, hb4⟩
      · have HD := Lib.hid (HNO.out HLL.out hbi)
        have HB4 := Lib.hid (HB2.out.trans (hb4.mono HB2.out.size)); have HZ4 := Lib.hid (HZ2.out.keep hb4)
        obtain ⟨V, hV⟩ : ∃ V, V = readB b S := ⟨_, rfl⟩
        have hrm : readM b S 5 = ⟨5, V 1, V 2, V 3, V 4, V 5, V 6, V 7, V 8, ⟨V 9, V 10, V 11, V 12, V 13⟩⟩ := by rw [hV]; rfl
        have hit : It.of (readB b S) = ⟨(k : Int), V 1, V 8, ⟨V 9, V 10, V 11, V 12, V 13⟩⟩ := by unfold It.of; rw [HV0.out, hV]
        rw [hit] at HD
        rw [hrm]
        have HZZ := Lib.hid (show MsgAt (w4.alloc (.cells #[.int .i64 0, .int .i64 0, .int .i64 0, .int .i64 0, .int .i64 0, .int .i64 0, .int .i64 0, .int .i64 0, .int .i64 0, .int .i64 0, .int .i64 0, .int .u8 0, .int .i64 0, .int .i64 0] 25)) w4.heap.size zeroM from heap_alloc_new _ _)
        clear hbi hb4 hV hrm hit
        go_wp2_with ((with_reducible refine wpList_storeMsg2 rfl (.tmp 6) (.tmp 35) rfl rfl w4.heap.size zeroM ⟨5, V 1, V 2, V 3, V 4, V 5, V 6, V 7, V 8, ⟨V 9, V 10, V 11, V 12, V 13⟩⟩ rfl rfl HZZ.out ?_); intro w5 hm5 ht5 ho5; have HM5 := Lib.hid hm5; have HB5 := Lib.hid (ht5 _ _ HB4.out.size (HB4.out.alloc HB4.out.size _)); have HZ5 := Lib.hid (show ItemAt w5 w.heap.size zeroI from (ho5 w.heap.size (by have := HZ4.out.lt; omega)).trans ((heap_push w4 _ _ HZ4.out.lt).trans HZ4.out)); clear hm5 ht5 ho5)
        have hx5 := (HB5.out.cell (p := ⟨g, og, none⟩) hgw).trans HX0.out
        have hms : MJ w5 w4.heap.size 5 (V 1) (V 2) (V 3) (V 4) (V 5) (V 6) (V 7) (V 8) (V 9) (V 10) (V 11) (V 12) (V 13) g og k := ⟨msg_cells14 HM5.out, hx5⟩
        have hne1 : w4.heap.size ≠ w.heap.size := by have := HZ4.out.lt; omega
        have hne2 : g ≠ w.heap.size := by omega
        obtain ⟨z0, z1, z2, z3, z4, z5, z6, z7⟩ := item_all HZ5.out
        have hzf := HZ5.out.frozen
        clear hx2 hx5
        go_region_held3 (fun w' => MJ w' w4.heap.size 5 (V 1) (V 2) (V 3) (V 4) (V 5) (V 6) (V 7) (V 8) (V 9) (V 10) (V 11) (V 12) (V 13) g og k) (with_reducible first | exact hms | exact mjDrew hms | exact mjChain hms hne1 hne2 _ _ _ _ _ _ _ _ | exact mjDrew (mjChain hms hne1 hne2 _ _ _ _ _ _ _ _)) (fail)
        have hwk : IntKind.i64.wrap (k : Int) = k := IntWalk.i64_in _ ⟨by omega, by omega⟩
        have hfin := itemChain (m' := ⟨(k : Int), V 1, V 8, ⟨V 9, V 10, V 11, V 12, V 13⟩⟩) HZ5.out (Value.int .i64 (IntKind.i64.wrap (k : Int))) (Value.int .i64 (V 1)) (Value.int .i64 (V 8)) (Value.int .i64 (V 9)) (Value.int .i64 (V 10)) (Value.int .u8 (V 11)) (Value.int .i64 (V 12)) (Value.int .i64 (V 13)) (by rw [hwk]; rfl) (by simp [Value.oneCell']) (Nat.le_refl _) HB5.out
        obtain ⟨hst1, hst2⟩ := hfin
        clear z0 z1 z2 z3 z4 z5 z6 z7 hzf hms hwk
        revert hst1 hst2
        generalize World.setCell _ _ _ = w6
        intro hst1 hst2
        have HS6 := Lib.hid hst1; have HRP := Lib.hid (HPI.out _ w6.drew HD.out hst2.drew)
        clear hst1 hst2
        go_wp2_with fail
        exact ret_item3 rfl rfl w.heap.size _ (.int .i64 0) (.int .i64 (-1)) rfl HS6.out rfl rfl HRP.out
      · have HD := Lib.hid (HSM.out j HLL.out hbi)
        have HB4 := Lib.hid (HB2.out.trans (hb4.mono HB2.out.size)); have HZ4 := Lib.hid (HZ2.out.keep hb4)
        obtain ⟨RM, hRM⟩ : ∃ RM, RM = readM b S 5 := ⟨_, rfl⟩
        rw [← hRM]
        have HZZ := Lib.hid (show MsgAt (w4.alloc (.cells #[.int .i64 0, .int .i64 0, .int .i64 0, .int .i64 0, .int .i64 0, .int .i64 0, .int .i64 0, .int .i64 0, .int .i64 0, .int .i64 0, .int .i64 0, .int .u8 0, .int .i64 0, .int .i64 0] 25)) w4.heap.size zeroM from heap_alloc_new _ _)
        have hf0 : ((f : Int) != 0) = true := by rw [bne_iff_ne]; omega
        clear hbi hb4 hRM
        go_wp2_with (first
          | ((with_reducible refine wpList_storeMsg2 rfl (.tmp 6) (.tmp 35) rfl rfl w4.heap.size zeroM RM rfl rfl HZZ.out ?_); intro w5 hm5 ht5 ho5; have HB5 := Lib.hid (ht5 _ _ HB4.out.size (HB4.out.alloc HB4.out.size _)); have HZ5 := Lib.hid (show ItemAt w5 w.heap.size zeroI from (ho5 w.heap.size (by have := HZ4.out.lt; omega)).trans ((heap_push w4 _ _ HZ4.out.lt).trans HZ4.out)); clear hm5 ht5 ho5)
          | ((with_reducible refine wpList_storeItem2 rfl (.tmp 2) (.tmp 40) rfl rfl w.heap.size zeroI zeroI rfl rfl HZ5.out ?_); intro w6 hm6 ht6 ho6; have HM6 := Lib.hid hm6; have HB6 := Lib.hid (ht6 _ _ (Nat.le_refl _) HB5.out); clear hm6 ht6 ho6))
        exact ret_item3 rfl rfl w.heap.size zeroI (.int .i64 63) (.int .i64 (posI S j : Nat)) rfl HM6.out rfl rfl (HPE.out _ _ _ HD.out HB6.out)
    · have ht : ((n : Int) != 1 + (lo : Int)) = true := by rw [bne_iff_ne]; omega
      have HD := Lib.hid (show itemDec b = .inl (62, (n : Nat)) by rw [HBAD.out (by rw [HL.out, HLO.out]; exact hll), HL.out])
      clear hll
      go_wp2_with ((with_reducible refine wpList_storeItem2 rfl (.tmp 2) (.tmp 28) rfl rfl w.heap.size zeroI zeroI rfl rfl HZ2.out ?_); intro w5 hm5 ht5 ho5; have HM5 := Lib.hid hm5; have HB5 := Lib.hid (ht5 _ _ (Nat.le_refl _) HB2.out); clear hm5 ht5 ho5)
      exact ret_item3 rfl rfl w.heap.size zeroI (.int .i64 62) (.int .i64 n) rfl HM5.out rfl rfl (HPE.out _ _ _ HD.out HB5.out)
end Go.Proofs.YtoophonmonojcaaDoor

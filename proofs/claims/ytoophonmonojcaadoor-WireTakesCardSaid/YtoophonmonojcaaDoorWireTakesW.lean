/- The walk of jotterlaw06.WireTakes: it answers true. -/
import Derived.Test.YtoophonmonojcaaDoorWireFixed
import Derived.Test.YtoophonmonojcaaDoorEqAll
namespace Go.Proofs.YtoophonmonojcaaDoor
open Go.RowKit
attribute [-go_sem] run_eql_struct

theorem msg_all {w : World} {g : Nat} {k ep c ha fi nu ac re ta ok op oc ol os : Int} (h : MsgAt w g ⟨k, ep, c, ha, fi, nu, ac, re, ta, ⟨ok, op, oc, ol, os⟩⟩) : w.cell? ⟨g, 0, none⟩ = some (.int .i64 k) ∧ w.cell? ⟨g, 1, none⟩ = some (.int .i64 ep) ∧ w.cell? ⟨g, 2, none⟩ = some (.int .i64 c) ∧ w.cell? ⟨g, 3, none⟩ = some (.int .i64 ha) ∧ w.cell? ⟨g, 4, none⟩ = some (.int .i64 fi) ∧ w.cell? ⟨g, 5, none⟩ = some (.int .i64 nu) ∧ w.cell? ⟨g, 6, none⟩ = some (.int .i64 ac) ∧ w.cell? ⟨g, 7, none⟩ = some (.int .i64 re) ∧ w.cell? ⟨g, 8, none⟩ = some (.int .i64 ta) ∧ w.cell? ⟨g, 9, none⟩ = some (.int .i64 ok) ∧ w.cell? ⟨g, 10, none⟩ = some (.int .i64 op) ∧ w.cell? ⟨g, 11, none⟩ = some (.int .u8 oc) ∧ w.cell? ⟨g, 12, none⟩ = some (.int .i64 ol) ∧ w.cell? ⟨g, 13, none⟩ = some (.int .i64 os) := by
  unfold MsgAt at h
  refine ⟨?_, ?_, ?_, ?_, ?_, ?_, ?_, ?_, ?_, ?_, ?_, ?_, ?_, ?_⟩ <;> simp [World.cell?, h, M.cs]
theorem quiet_Q0 {P : Program} {f : FuncId} {args : Array Value} {w : World} {b : Nat} {v : Value} (h : Calls P f args (w.drewN b) (RetQ (w.drewN b) v)) :
    Calls P f args (w.drewN b) fun e w'' => e = .returned v ∧ ∃ n, w'' = w.drewN n :=
  h.mono fun _ _ ⟨he, m, hm⟩ => ⟨he, b + m, by rw [← hm, ← drewN_two]⟩
theorem encB_inj {a b : M} (ha : a.fine) (hb : b.fine) : (encB a == encB b) = a.eqB b := by
  by_cases h : a = b
  · subst h
    rw [(M.eqB_iff a a).2 rfl]; simp
  · have h1 : a.eqB b = false := by
      rw [← Bool.not_eq_true, M.eqB_iff]; exact h
    rw [h1, beq_eq_false_iff_ne]
    intro e
    have := decode_enc ha
    rw [e, decode_enc hb] at this
    exact h (Sum.inr.inj this).symm

set_option maxRecDepth 100000 in
set_option maxHeartbeats 4000000 in
theorem wireTakes_any (m n : M) (W : World) (hm : m.ok) (hn : n.ok) (hT : Tab W) (hE : EType W) (hS : Sizes W) (hSh : Shapes W) :
    Calls Tryd.prog 15 #[m.v, n.v] W (RetV W (.bool true)) := by
  have hv : Env W := ⟨hT, hE, hS, hSh⟩
  clear hT hE hS hSh
  have hmess : ∀ w, Calls Tryd.prog 22 #[.agg m.cs] w (RetV w (.agg (mess m).cs)) := fun w => message_any _ w hm
  have hness : ∀ w, Calls Tryd.prog 22 #[.agg n.cs] w (RetV w (.agg (mess n).cs)) := fun w => message_any _ w hn
  obtain ⟨m1, hm1⟩ : ∃ m1, m1 = mess m := ⟨_, rfl⟩
  have hfm : m1.fine := by rw [hm1]; exact mess_fine _
  rw [← hm1] at hmess
  obtain ⟨n1, hn1⟩ : ∃ n1, n1 = mess n := ⟨_, rfl⟩
  have hfn : n1.fine := by rw [hn1]; exact mess_fine _
  rw [← hn1] at hness
  have HME := Lib.hid hmess; have HNE := Lib.hid hness; have HF := Lib.hid hfm; have HG := Lib.hid hfn; have HV := Lib.hid hv
  clear hm1 hn1 hmess hness hfm hfn hv hm hn
  obtain ⟨k, ep, c, ha, fi, nu, ac, re, ta, ⟨ok, op, oc, ol, os⟩⟩ := m
  obtain ⟨k', ep', c', ha', fi', nu', ac', re', ta', ⟨ok', op', oc', ol', os'⟩⟩ := n
  unfold M.v
  dsimp only
  go_enter Tryd.func15, Tryd.ntmps15
  go_wp2_with fail
  refine (HME.out _).mono ?_
  rintro e w1 ⟨rfl, hb1⟩
  have hMa : MsgAt w1 W.heap.size ⟨k, ep, c, ha, fi, nu, ac, re, ta, ⟨ok, op, oc, ol, os⟩⟩ := (hb1.block W.heap.size (by simp; omega)).trans (heap_one W _ _)
  have hMb : MsgAt w1 (W.heap.size + 1) ⟨k', ep', c', ha', fi', nu', ac', re', ta', ⟨ok', op', oc', ol', os'⟩⟩ := (hb1.block (W.heap.size + 1) (by simp)).trans (heap_two W _ _)
  have hB1 : Below W.heap.size W w1 := (((Below.refl _ W).alloc (Nat.le_refl _) _).alloc (by simp) _).trans (hb1.mono (by simp; omega))
  have HMa := Lib.hid hMa; have HMb := Lib.hid hMb; have HB1 := Lib.hid hB1
  clear hMa hMb hB1 hb1
  go_wp2_with (first
    | ((with_reducible refine wpList_storeMsg2 rfl (.tmp 2) (.tmp 12) rfl rfl W.heap.size _ m1 rfl rfl HMa.out ?_); intro w2 hm2 ht2 ho2; have HM2 := Lib.hid hm2; have HB2 := Lib.hid (ht2 _ _ (Nat.le_refl _) HB1.out); have HN2 := Lib.hid (show MsgAt w2 (W.heap.size + 1) ⟨k', ep', c', ha', fi', nu', ac', re', ta', ⟨ok', op', oc', ol', os'⟩⟩ from (ho2 _ (by omega)).trans HMb.out); clear hm2 ht2 ho2)
    | (with_reducible refine wpList_loadMsg rfl (.tmp 3) rfl (W.heap.size + 1) _ rfl HN2.out ?_))
  refine (HNE.out _).mono ?_
  rintro e w3 ⟨rfl, hb3⟩
  have HM3 := Lib.hid (HM2.out.keep hb3); have HN3 := Lib.hid (HN2.out.keep hb3); have HB3 := Lib.hid (HB2.out.trans (hb3.mono HB2.out.size))
  clear hb3
  go_wp2_with (first
    | ((with_reducible refine wpList_storeMsg2 rfl (.tmp 3) (.tmp 14) rfl rfl (W.heap.size + 1) _ n1 rfl rfl HN3.out ?_); intro w4 hm4 ht4 ho4; have HN4 := Lib.hid hm4; have HB4 := Lib.hid (ht4 _ _ (by omega) HB3.out); have HM4 := Lib.hid (show MsgAt w4 W.heap.size m1 from (ho4 _ (by omega)).trans HM3.out); clear hm4 ht4 ho4)
    | (with_reducible refine wpList_loadMsg rfl (.tmp 2) rfl W.heap.size _ rfl HM4.out ?_))
  have HV4 := Lib.hid (HV.out.step HB4.out)
  refine (encode_fine m1 _ HF.out HV4.out.tab HV4.out.siz HV4.out.shp).mono ?_
  rintro e w5 ⟨g5, rfl, hg5, hr5, hb5⟩
  have HM5 := Lib.hid (HM4.out.keep hb5); have HN5 := Lib.hid (HN4.out.keep hb5); have HB5 := Lib.hid (HB4.out.trans (hb5.mono HB4.out.size)); have HR5 := Lib.hid hr5
  clear hr5 hb5 hg5
  go_wp2_with (with_reducible refine wpList_loadMsg rfl (.tmp 3) rfl (W.heap.size + 1) _ rfl HN5.out ?_)
  have HV5 := Lib.hid (HV.out.step HB5.out)
  refine (encode_fine n1 _ HG.out HV5.out.tab HV5.out.siz HV5.out.shp).mono ?_
  rintro e w6 ⟨g6, rfl, hg6, hr6, hb6⟩
  have HM6 := Lib.hid (HM5.out.keep hb6); have HN6 := Lib.hid (HN5.out.keep hb6); have HB6 := Lib.hid (HB5.out.trans (hb6.mono HB5.out.size)); have HR6 := Lib.hid hr6; have HR56 := Lib.hid (HR5.out.below hb6 HR5.out.lt)
  clear hr6 hb6 hg6
  have hL := encB_len HF.out
  have hL2 := encB_len HG.out
  obtain ⟨N, hN⟩ : ∃ N, N = (encB m1).length := ⟨_, rfl⟩
  obtain ⟨N2, hN2⟩ : ∃ N2, N2 = (encB n1).length := ⟨_, rfl⟩
  rw [← hN] at hL ⊢
  rw [← hN2] at hL2 ⊢
  have HN' := Lib.hid hN; have HN2' := Lib.hid hN2
  clear hN hN2
  obtain ⟨hL7, hL19⟩ := hL
  obtain ⟨hK7, hK19⟩ := hL2
  go_wp2_with fail
  have HV6 := Lib.hid (HV.out.step HB6.out)
  refine (decode_any_inr (some ⟨g5, 0, none⟩) N N (encB m1) m1 _ (decode_enc HF.out) HN'.out.symm HR56.out.rd (Nat.le_refl _) (by omega) HV6.out.tab HV6.out.ety HV6.out.siz HV6.out.shp).mono ?_
  rintro e w7 ⟨rfl, hb7⟩
  have HM7 := Lib.hid (HM6.out.keep hb7); have HN7 := Lib.hid (HN6.out.keep hb7); have HB7 := Lib.hid (HB6.out.trans (hb7.mono HB6.out.size)); have HR57 := Lib.hid (HR56.out.below hb7 HR56.out.lt); have HR67 := Lib.hid (HR6.out.below hb7 HR6.out.lt)
  clear hb7
  have HZ := Lib.hid (show MsgAt (w7.alloc (.cells #[.int .i64 0, .int .i64 0, .int .i64 0, .int .i64 0, .int .i64 0, .int .i64 0, .int .i64 0, .int .i64 0, .int .i64 0, .int .i64 0, .int .i64 0, .int .u8 0, .int .i64 0, .int .i64 0] 25)) w7.heap.size zeroM from heap_alloc_new _ _)
  go_wp2_with ((with_reducible refine wpList_storeMsg2 rfl (.tmp 9) (.tmp 44) rfl rfl w7.heap.size zeroM m1 rfl rfl HZ.out ?_); intro w8 hm8 ht8 ho8; have HX8 := Lib.hid hm8; have HB8 := Lib.hid (ht8 _ _ HB7.out.size (HB7.out.alloc HB7.out.size _)); have HK8 := Lib.hid (ht8 _ _ (Nat.le_refl _) ((Below.refl w7.heap.size w7).alloc (Nat.le_refl _) _)); clear hm8 ht8 ho8)
  have HM8 := Lib.hid (HM7.out.keep HK8.out); have HN8 := Lib.hid (HN7.out.keep HK8.out); have HR58 := Lib.hid (HR57.out.below HK8.out HR57.out.lt); have HR68 := Lib.hid (HR67.out.below HK8.out HR67.out.lt)
  have HV8 := Lib.hid (HV.out.step HB8.out)
  refine (decode_any_inr (some ⟨g6, 0, none⟩) N2 N2 (encB n1) n1 _ (decode_enc HG.out) HN2'.out.symm HR68.out.rd (Nat.le_refl _) (by omega) HV8.out.tab HV8.out.ety HV8.out.siz HV8.out.shp).mono ?_
  rintro e w9 ⟨rfl, hb9⟩
  have HM9 := Lib.hid (HM8.out.keep hb9); have HN9 := Lib.hid (HN8.out.keep hb9); have HX9 := Lib.hid (HX8.out.keep hb9); have HB9 := Lib.hid (HB8.out.trans (hb9.mono HB8.out.size)); have HR59 := Lib.hid (HR58.out.below hb9 HR58.out.lt); have HR69 := Lib.hid (HR68.out.below hb9 HR68.out.lt)
  clear hb9
  have HZ9 := Lib.hid (show MsgAt (w9.alloc (.cells #[.int .i64 0, .int .i64 0, .int .i64 0, .int .i64 0, .int .i64 0, .int .i64 0, .int .i64 0, .int .i64 0, .int .i64 0, .int .i64 0, .int .i64 0, .int .u8 0, .int .i64 0, .int .i64 0] 25)) w9.heap.size zeroM from heap_alloc_new _ _)
  go_wp2_with ((with_reducible refine wpList_storeMsg2 rfl (.tmp 10) (.tmp 49) rfl rfl w9.heap.size zeroM n1 rfl rfl HZ9.out ?_); intro w10 hm10 ht10 ho10; have HY10 := Lib.hid hm10; have HB10 := Lib.hid (ht10 _ _ HB9.out.size (HB9.out.alloc HB9.out.size _)); have HK10 := Lib.hid (ht10 _ _ (Nat.le_refl _) ((Below.refl w9.heap.size w9).alloc (Nat.le_refl _) _)); clear hm10 ht10 ho10)
  have hM := HM9.out.keep HK10.out; have hN := HN9.out.keep HK10.out; have hX := HX9.out.keep HK10.out; have hY := HY10.out
  have hcall : ∀ q : Nat, Calls Tryd.prog 51 #[.slice (some ⟨g5, 0, none⟩) N N, .slice (some ⟨g6, 0, none⟩) N2 N2] (w10.drewN q) (RetQ (w10.drewN q) (.bool (m1.eqB n1))) := fun q => by
    rw [← encB_inj HF.out HG.out]
    have hbq : Below w9.heap.size w9 (w10.drewN q) := below_drewN HK10.out q
    exact law06_eq_any _ _ _ _ _ _ _ _ _ HN'.out.symm HN2'.out.symm (HR59.out.rd.step hbq) (HR69.out.rd.step hbq) (by omega)
  have hq1 := eql_msg_same m1; have hq2 := eql_msg_same n1; have hq3 := eql_msg m1 n1
  obtain ⟨bq, hbq⟩ : ∃ bq, bq = m1.eqB n1 := ⟨_, rfl⟩
  rw [← hbq] at hcall hq3
  have HC := Lib.hid hcall
  obtain ⟨k1, ep1, c1, ha1, fi1, nu1, ac1, re1, ta1, ⟨ok1, op1, oc1, ol1, os1⟩⟩ := m1
  obtain ⟨k2, ep2, c2, ha2, fi2, nu2, ac2, re2, ta2, ⟨ok2, op2, oc2, ol2, os2⟩⟩ := n1
  obtain ⟨a0, a1, a2, a3, a4, a5, a6, a7, a8, a9, a10, a11, a12, a13⟩ := msg_all hM
  obtain ⟨b0, b1, b2, b3, b4, b5, b6, b7, b8, b9, b10, b11, b12, b13⟩ := msg_all hN
  obtain ⟨c0, c1, c2, c3, c4, c5, c6, c7, c8, c9, c10, c11, c12, c13⟩ := msg_all hX
  obtain ⟨d0, d1, d2, d3, d4, d5, d6, d7, d8, d9, d10, d11, d12, d13⟩ := msg_all hY
  simp only [M.cs] at hq1 hq2 hq3
  clear hM hN hX hY hcall hbq
  cases bq
  all_goals
    go_wp2_with fail
    go_quiet ((go_at_call 51; exact quiet_Q0 (HC.out _)))
    go_wp2
    go_ret
    exact ⟨rfl, below_drewN HB10.out _⟩
end Go.Proofs.YtoophonmonojcaaDoor

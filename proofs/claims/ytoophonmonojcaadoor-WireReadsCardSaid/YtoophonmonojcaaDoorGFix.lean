/- Several texts laid as one, in this order: WireFixed, WireTail, WireOneB. -/
import Derived.Test.YtoophonmonojcaaDoorGPick
import Derived.Test.YtoophonmonojcaaDoorGEq
import Derived.Deep.RegionHeld3
/- Contracts of jotterlaw06's fixed; errors compared with nil. -/
namespace Go.Proofs.YtoophonmonojcaaDoor
open Go.RowKit

attribute [-go_sem] run_eql_struct
theorem wpList_wanted {ops : Array Oper} {Q : Exit → Act → World → Prop} {a : Act} {w : World} {rest : List Oper} {o : Oper} (hw : Region.wanted o (yielded ops a.tmps) = true)
    (h : ∀ K : Act → World → Prop, (∀ a w, wpList Tryd.prog ops Q rest a w → K a w) → o.wp Tryd.prog a w K Q) : wpList Tryd.prog ops Q (o :: rest) a w :=
  wpList_step fun K hK => by rw [if_pos hw]; exact h K hK
/-- A message loaded under a guard that says yes. -/
theorem wpList_loadMsgG {w : World} {ops : Array Oper} {rest : List Oper} {o : Oper} {a : Act} {Q : Exit → Act → World → Prop} (x : Operand) (ho : o.op = .load 25 x) (g : Nat) (m : M) (hx : a.eval x = .pointer (some ⟨g, 0, none⟩)) (hg : MsgAt w g m)
    (hw : Region.wanted o (yielded ops a.tmps) = true) (h : wpList Tryd.prog ops Q rest (a.put o.dst (.agg m.cs)) w) : wpList Tryd.prog ops Q (o :: rest) a w :=
  wpList_wanted hw fun _ hK => wp_load_row 25 x ho g hx 25 m.cs (0, 0) _ hg Tryd.underlying25 rfl infoMsg (hK _ _ h)
theorem eql_msg_same (m : M) (w : World) : (binOp .eql 25 (.agg m.cs) (.agg m.cs)).run Tryd.prog w = .ok (.bool true) w := by rw [eql_msg, (M.eqB_iff m m).2 rfl]
def fixedM : M := ⟨4, 1, 3, 0, 0, 0, 0, 0, 0, zeroO⟩
theorem fixedM_fine : fixedM.fine := by simp [fixedM, M.fine, zeroO]
theorem decode_any_inr (ao : Option Addr) (n cap : Nat) (b : List UInt8) (m : M) (w : World) (h : decode b = .inr m) (hl : b.length = n) (hr : Rd w ao b) (hcap : n ≤ cap) (hb : n ≤ 9223372036854775807) (hT : Tab w) (hE : EType w) (hS : Sizes w) (hSh : Shapes w) :
    Calls Tryd.prog 63 #[.slice ao n cap] w fun e w' => e = .returned (.tuple #[.agg m.cs, .nilIface]) ∧ Below w.heap.size w w' := by
  refine (decode_any ao n cap b w hl hr hcap hb hT hE hS hSh).mono fun e w' hp => ?_
  unfold DecPost at hp
  rw [h] at hp
  exact hp
theorem decode_any_inl (ao : Option Addr) (n cap : Nat) (b : List UInt8) (c a : Int) (w : World) (h : decode b = .inl (c, a)) (hl : b.length = n) (hr : Rd w ao b) (hcap : n ≤ cap) (hb : n ≤ 9223372036854775807) (hT : Tab w) (hE : EType w) (hS : Sizes w) (hSh : Shapes w) :
    Calls Tryd.prog 63 #[.slice ao n cap] w fun e w' => ∃ g, e = .returned (.tuple #[.agg zeroM.cs, faultV g]) ∧ NewFault w a c g w' := by
  refine (decode_any ao n cap b w hl hr hcap hb hT hE hS hSh).mono fun e w' hp => ?_
  unfold DecPost at hp
  rw [h] at hp
  exact hp
/-- What the walks ask of the listed variables, in one. -/
structure Env (w : World) : Prop where
  tab : Tab w
  ety : EType w
  siz : Sizes w
  shp : Shapes w
theorem Env.step {w w' : World} (h : Env w) (hb : Below w.heap.size w w') : Env w' := ⟨h.tab.step hb, h.ety.step hb, h.siz.step hb, h.shp.step hb⟩

set_option maxRecDepth 100000 in
set_option maxHeartbeats 1000000 in
theorem fixed6_any (w : World) (h : Env w) : Calls Tryd.prog 67 #[] w (RetV w (.bool true)) := by
  have H := Lib.hid h
  clear h
  go_enter Tryd.func67, Tryd.ntmps67
  go_wp2_with fail
  have hb0 : Below w.heap.size w (w.alloc (.cells fixedM.cs 25)) := (Below.refl _ w).alloc (Nat.le_refl _) _
  have hM : MsgAt (w.alloc (.cells fixedM.cs 25)) w.heap.size fixedM := heap_alloc_new _ _
  refine (encode_fine fixedM _ fixedM_fine (H.out.tab.step hb0) (H.out.siz.step hb0) (H.out.shp.step hb0)).mono ?_
  rintro e w2 ⟨g2, rfl, hg2, hr2, hb2⟩
  have hlen : (encB fixedM).length = 7 := rfl
  have hc0 := hr2.cell 0 (by rw [hlen]; omega)
  have hc1 := hr2.cell 1 (by rw [hlen]; omega)
  have hc2 := hr2.cell 2 (by rw [hlen]; omega)
  rw [show (encB fixedM).getD 0 0 = 4 from rfl] at hc0
  rw [show (encB fixedM).getD 1 0 = 1 from rfl] at hc1
  rw [show (encB fixedM).getD 2 0 = 3 from rfl] at hc2
  have HM2 := Lib.hid (hM.keep hb2)
  have HB2 := Lib.hid (hb0.trans (hb2.mono hb0.size))
  have HR2 := Lib.hid hr2
  have hgl := hr2.lt
  rw [hlen]
  clear hr2 hb2 hb0 hM
  go_wp2_with fail
  refine (decode_any_inr (some ⟨g2, 0, none⟩) 7 7 (encB fixedM) fixedM _ (decode_enc fixedM_fine) hlen HR2.out.rd (by omega) (by omega) (H.out.tab.step HB2.out) (H.out.ety.step HB2.out) (H.out.siz.step HB2.out) (H.out.shp.step HB2.out)).mono ?_
  rintro e w3 ⟨rfl, hb3⟩
  have HM3 := Lib.hid (HM2.out.keep hb3)
  have HB3 := Lib.hid (HB2.out.trans (hb3.mono HB2.out.size))
  clear hb3
  have HZ := Lib.hid (show MsgAt (w3.alloc (.cells #[.int .i64 0, .int .i64 0, .int .i64 0, .int .i64 0, .int .i64 0, .int .i64 0, .int .i64 0, .int .i64 0, .int .i64 0, .int .i64 0, .int .i64 0, .int .u8 0, .int .i64 0, .int .i64 0] 25)) w3.heap.size zeroM from heap_alloc_new _ _)
  have heq := eql_msg_same fixedM
  obtain ⟨fm, hfm⟩ : ∃ fm, fm = fixedM := ⟨_, rfl⟩
  rw [← hfm] at heq HM3 ⊢
  clear hfm
  go_wp2_with (first
    | ((with_reducible refine wpList_storeMsg2 rfl (.tmp 4) (.tmp 39) rfl rfl w3.heap.size zeroM fm rfl rfl HZ.out ?_); intro w4 hm4 ht4 ho4; have HM4 := Lib.hid hm4; have HT4 := Lib.hid ht4; have HM5 := Lib.hid (show MsgAt w4 w.heap.size fm from (ho4 w.heap.size (by have := HM3.out.lt; omega)).trans ((heap_push w3 _ _ HM3.out.lt).trans HM3.out)); clear hm4 ht4 ho4)
    | (with_reducible refine wpList_loadMsgG (.tmp 4) rfl w3.heap.size fm rfl HM4.out (by kernel_rfl) ?_)
    | (with_reducible refine wpList_loadMsgG (.tmp 1) rfl w.heap.size fm rfl HM5.out (by kernel_rfl) ?_))
  go_ret
  exact ⟨rfl, HT4.out _ _ HB3.out.size (HB3.out.alloc HB3.out.size _)⟩
end Go.Proofs.YtoophonmonojcaaDoor

/- What changes above a block leave as they were. -/
namespace Go.Proofs.YtoophonmonojcaaDoor
open Go.RowKit

theorem below_src {w w' : World} {B : Nat} (h : Below B w.drew w') : Below B w w' := ⟨h.os, h.tape, h.output, h.size, h.block⟩

theorem below_tail {B : Nat} {w6 w X w' : World} (h : Below B w6 w) (hb : Below X.heap.size X w') (e1 : X.os = w.os) (e2 : X.tape = w.tape) (e3 : X.output = w.output) (e4 : X.heap = w.heap) (hle : B ≤ w.heap.size) : Below B w6 w' :=
  ⟨hb.os.trans (e1.trans h.os), hb.tape.trans (e2.trans h.tape), hb.output.trans (e3.trans h.output), by have := hb.size; rw [e4] at this; exact Nat.le_trans h.size this, fun k hk => by rw [hb.block k (by rw [e4]; omega), e4]; exact h.block k hk⟩
theorem cell_tail {w X w' : World} {a : Addr} {v : Value} (h : w.cell? a = some v) (hb : Below X.heap.size X w') (e4 : X.heap = w.heap) : w'.cell? a = some v := by
  have hE : X.cell? a = w.cell? a := by unfold World.cell?; rw [e4]
  exact (hb.cell (p := a) (by rw [e4]; exact block_lt h)).trans (hE.trans h)

theorem msg_cells14 {w : World} {g : Nat} {k ep c ha fi nu ac re ta ok op oc ol os : Int} (h : MsgAt w g ⟨k, ep, c, ha, fi, nu, ac, re, ta, ⟨ok, op, oc, ol, os⟩⟩) : w.cell? ⟨g, 0, none⟩ = some (.int .i64 k) ∧ w.cell? ⟨g, 1, none⟩ = some (.int .i64 ep) ∧ w.cell? ⟨g, 2, none⟩ = some (.int .i64 c) ∧ w.cell? ⟨g, 3, none⟩ = some (.int .i64 ha) ∧ w.cell? ⟨g, 4, none⟩ = some (.int .i64 fi) ∧ w.cell? ⟨g, 5, none⟩ = some (.int .i64 nu) ∧ w.cell? ⟨g, 6, none⟩ = some (.int .i64 ac) ∧ w.cell? ⟨g, 7, none⟩ = some (.int .i64 re) ∧ w.cell? ⟨g, 8, none⟩ = some (.int .i64 ta) ∧ w.cell? ⟨g, 9, none⟩ = some (.int .i64 ok) ∧ w.cell? ⟨g, 10, none⟩ = some (.int .i64 op) ∧ w.cell? ⟨g, 11, none⟩ = some (.int .u8 oc) ∧ w.cell? ⟨g, 12, none⟩ = some (.int .i64 ol) ∧ w.cell? ⟨g, 13, none⟩ = some (.int .i64 os) := by
  unfold MsgAt at h
  refine ⟨?_, ?_, ?_, ?_, ?_, ?_, ?_, ?_, ?_, ?_, ?_, ?_, ?_, ?_⟩ <;> simp [World.cell?, h, M.cs]
end Go.Proofs.YtoophonmonojcaaDoor

/- The walk of jotterlaw06.one: it answers true. -/
namespace Go.Proofs.YtoophonmonojcaaDoor
open Go.RowKit
attribute [-go_sem] run_eql_struct

theorem fine_ok {m : M} (h : m.fine) : m.ok := by
  obtain ⟨k, ep, c, ha, fi, nu, ac, re, ta, ⟨ok, op, oc, ol, os⟩⟩ := m
  simp only [M.fine, O.fine, zeroO, O.mk.injEq] at h
  simp only [M.ok, O.ok, i64]
  have hc : k = 1 ∨ k = 2 ∨ k = 3 ∨ k = 4 ∨ k = 5 ∨ k = 6 := by omega
  rcases hc with rfl | rfl | rfl | rfl | rfl | rfl <;> omega
abbrev MS (w : World) (g : Nat) (k ep c ha fi nu ac re ta ok op oc ol os : Int) : Prop := w.cell? ⟨g, 0, none⟩ = some (.int .i64 k) ∧ w.cell? ⟨g, 1, none⟩ = some (.int .i64 ep) ∧ w.cell? ⟨g, 2, none⟩ = some (.int .i64 c) ∧ w.cell? ⟨g, 3, none⟩ = some (.int .i64 ha) ∧ w.cell? ⟨g, 4, none⟩ = some (.int .i64 fi) ∧ w.cell? ⟨g, 5, none⟩ = some (.int .i64 nu) ∧ w.cell? ⟨g, 6, none⟩ = some (.int .i64 ac) ∧ w.cell? ⟨g, 7, none⟩ = some (.int .i64 re) ∧ w.cell? ⟨g, 8, none⟩ = some (.int .i64 ta) ∧ w.cell? ⟨g, 9, none⟩ = some (.int .i64 ok) ∧ w.cell? ⟨g, 10, none⟩ = some (.int .i64 op) ∧ w.cell? ⟨g, 11, none⟩ = some (.int .u8 oc) ∧ w.cell? ⟨g, 12, none⟩ = some (.int .i64 ol) ∧ w.cell? ⟨g, 13, none⟩ = some (.int .i64 os)
theorem msDrew {w : World} {g : Nat} {k ep c ha fi nu ac re ta ok op oc ol os : Int} (h : MS w g k ep c ha fi nu ac re ta ok op oc ol os) : MS w.drew g k ep c ha fi nu ac re ta ok op oc ol os := h
theorem msDrewN {w : World} {g : Nat} {k ep c ha fi nu ac re ta ok op oc ol os : Int} (h : MS w g k ep c ha fi nu ac re ta ok op oc ol os) (q : Nat) : MS (w.drewN q) g k ep c ha fi nu ac re ta ok op oc ol os := h
theorem msTail {w X w' : World} {g : Nat} {k ep c ha fi nu ac re ta ok op oc ol os : Int} (h : MS w g k ep c ha fi nu ac re ta ok op oc ol os) (hb : Below X.heap.size X w') (e4 : X.heap = w.heap) : MS w' g k ep c ha fi nu ac re ta ok op oc ol os := by
  obtain ⟨h0, h1, h2, h3, h4, h5, h6, h7, h8, h9, h10, h11, h12, h13⟩ := h
  exact ⟨cell_tail h0 hb e4, cell_tail h1 hb e4, cell_tail h2 hb e4, cell_tail h3 hb e4, cell_tail h4 hb e4, cell_tail h5 hb e4, cell_tail h6 hb e4, cell_tail h7 hb e4, cell_tail h8 hb e4, cell_tail h9 hb e4, cell_tail h10 hb e4, cell_tail h11 hb e4, cell_tail h12 hb e4, cell_tail h13 hb e4⟩

set_option maxRecDepth 100000 in
set_option maxHeartbeats 4000000 in
theorem one_any (ao : Option Addr) (n cap : Nat) (b : List UInt8) (W : World) (hl : b.length = n) (hr : Rd W ao b) (hcap : n ≤ cap) (hb : n ≤ 140737488355328) (hv : Env W) :
    Calls Tryd.prog 70 #[.slice ao n cap] W (RetV W (.bool true)) := by
  have HV := Lib.hid hv; have HL := Lib.hid hl; have HR := Lib.hid hr
  clear hv hl hr
  go_enter Tryd.func70, Tryd.ntmps70
  go_wp2_with fail
  rcases hd : decode b with ⟨c, a⟩ | m
  · have herr := decode_err hd
    have HD := Lib.hid hd
    clear hd
    refine (decode_any_inl ao n cap b c a _ HD.out HL.out HR.out hcap (by omega) HV.out.tab HV.out.ety HV.out.siz HV.out.shp).mono ?_
    rintro e w1 ⟨g1, rfl, hN1⟩
    have HB1 := Lib.hid hN1.2.2; have HG1 := Lib.hid hN1.2.1
    have hg1l := heap_lt hN1.2.1
    clear hN1
    have HZ := Lib.hid (show MsgAt (w1.alloc (.cells #[.int .i64 0, .int .i64 0, .int .i64 0, .int .i64 0, .int .i64 0, .int .i64 0, .int .i64 0, .int .i64 0, .int .i64 0, .int .i64 0, .int .i64 0, .int .u8 0, .int .i64 0, .int .i64 0] 25)) w1.heap.size zeroM from heap_alloc_new _ _)
    go_wp2_with ((with_reducible refine wpList_storeMsg2 rfl (.tmp 3) (.tmp 12) rfl rfl w1.heap.size zeroM zeroM rfl rfl HZ.out ?_); intro w2 hm2 ht2 ho2; have HB2 := Lib.hid (ht2 _ _ HB1.out.size (HB1.out.alloc HB1.out.size _)); have HG2 := Lib.hid (show w2.heap[g1]? = some (faultObj a c) from (ho2 g1 (by omega)).trans ((heap_push w1 _ _ hg1l).trans HG1.out)); have HM2 := Lib.hid hm2; clear hm2 ht2 ho2)
    refine (code_fault g1 a c _ HG2.out (HV.out.step HB2.out).ety).mono ?_
    rintro e w3 ⟨rfl, hb3⟩
    have HB3 := Lib.hid (HB2.out.trans (hb3.mono HB2.out.size)); have HG3 := Lib.hid ((hb3.block g1 (heap_lt HG2.out)).trans HG2.out); have HM3 := Lib.hid (HM2.out.keep hb3)
    clear hb3
    go_wp2_with fail
    refine (place_fault g1 a c _ HG3.out (HV.out.step HB3.out).ety).mono ?_
    rintro e w4 ⟨rfl, hb4⟩
    have HB4 := Lib.hid (HB3.out.trans (hb4.mono HB3.out.size)); have HM4 := Lib.hid (HM3.out.keep hb4)
    clear hb4
    have heq : ∀ w, (binOp .eql 25 (.agg zeroM.cs) (.agg #[.int .i64 0, .int .i64 0, .int .i64 0, .int .i64 0, .int .i64 0, .int .i64 0, .int .i64 0, .int .i64 0, .int .i64 0, .int .i64 0, .int .i64 0, .int .u8 0, .int .i64 0, .int .i64 0])).run Tryd.prog w = .ok (.bool true) w := fun w => eql_msg_same zeroM w
    obtain ⟨e1, e2, e3, e4, e5⟩ := herr
    rw [HL.out] at e5
    go_wp2_with (with_reducible refine wpList_loadMsg rfl (.tmp 3) rfl w1.heap.size zeroM rfl HM4.out ?_)
    go_ret
    exact ⟨rfl, HB4.out⟩
  · obtain ⟨hfine, henc⟩ := decode_ok hd
    have hok := fine_ok hfine
    have HD := Lib.hid hd; have HF := Lib.hid hfine; have HENC := Lib.hid henc
    clear hd
    refine (decode_any_inr ao n cap b m _ HD.out HL.out HR.out hcap (by omega) HV.out.tab HV.out.ety HV.out.siz HV.out.shp).mono ?_
    rintro e w1 ⟨rfl, hb1⟩
    have HB1 := Lib.hid hb1
    clear hb1
    have HZ := Lib.hid (show MsgAt (w1.alloc (.cells #[.int .i64 0, .int .i64 0, .int .i64 0, .int .i64 0, .int .i64 0, .int .i64 0, .int .i64 0, .int .i64 0, .int .i64 0, .int .i64 0, .int .i64 0, .int .u8 0, .int .i64 0, .int .i64 0] 25)) w1.heap.size zeroM from heap_alloc_new _ _)
    go_wp2_with (first
      | ((with_reducible refine wpList_storeMsg2 rfl (.tmp 3) (.tmp 12) rfl rfl w1.heap.size zeroM m rfl rfl HZ.out ?_); intro w2 hm2 ht2 ho2; have HB2 := Lib.hid (ht2 _ _ HB1.out.size (HB1.out.alloc HB1.out.size _)); have HM2 := Lib.hid hm2; clear hm2 ht2 ho2)
      | (with_reducible refine wpList_loadMsg rfl (.tmp 3) rfl w1.heap.size m rfl HM2.out ?_))
    have HV2 := Lib.hid (HV.out.step HB2.out)
    refine (encode_fine m _ HF.out HV2.out.tab HV2.out.siz HV2.out.shp).mono ?_
    rintro e w3 ⟨g3, rfl, hg3, hr3, hb3⟩
    have HB3 := Lib.hid (HB2.out.trans (hb3.mono HB2.out.size)); have HM3 := Lib.hid (HM2.out.keep hb3); have HR3 := Lib.hid hr3
    clear hg3 hr3 hb3
    rw [HENC.out, HL.out]
    have hceq : ∀ X : World, Below w3.heap.size w3 X → Calls Tryd.prog 51 #[.slice (some ⟨g3, 0, none⟩) n n, .slice ao n cap] X (RetQ X (.bool true)) := fun X hX => by
      have h := law06_eq_any (some ⟨g3, 0, none⟩) ao n n n cap (encB m) b X (by rw [HENC.out, HL.out]) HL.out (HR3.out.rd.step hX) ((HR.out.step HB3.out).step hX) hb
      rw [HENC.out] at h
      simpa using h
    have hmess : ∀ w, Calls Tryd.prog 22 #[.agg m.cs] w (RetV w (.agg m.cs)) := fun w => by
      have h := message_any m w hok
      rw [mess_of HF.out] at h
      exact h
    have hq := eql_msg_same m
    have hM := HM3.out
    clear hfine henc hok
    obtain ⟨k, ep, c, ha, fi, nu, ac, re, ta, ⟨ok, op, oc, ol, os⟩⟩ := m
    have hms : MS w3 w1.heap.size k ep c ha fi nu ac re ta ok op oc ol os := msg_cells14 hM
    simp only [M.cs] at hq hmess
    have HCEQ := Lib.hid hceq; have HME := Lib.hid hmess
    clear hM hceq hmess
    have hbel := Below.refl w3.heap.size w3
    have hgf := Nat.le_refl w3.heap.size
    go_wp2_with fail
    go_region_held3 (fun w' => MS w' w1.heap.size k ep c ha fi nu ac re ta ok op oc ol os) (with_reducible first | exact hms | exact msDrew hms | exact msDrew (msDrew hms) | exact msDrew (msDrew (msDrew hms)))
      (first
       | ((with_reducible refine (HCEQ.out _ ?_).mono ?_); (· first | exact hbel | exact hbel.drew | exact hbel.drew.drew); intro e w' hqq; obtain ⟨rfl, hb2⟩ := hqq.below; have hms := msTail hms hb2 rfl; have hbel := below_tail hbel hb2 rfl rfl rfl rfl hgf; have hgf := Nat.le_trans hgf hb2.size)
       | ((with_reducible refine (HME.out _).mono ?_); rintro e w' ⟨rfl, hb2⟩; have hms := msTail hms hb2 rfl; have hbel := below_tail hbel hb2 rfl rfl rfl rfl hgf; have hgf := Nat.le_trans hgf hb2.size))
    all_goals
      go_wp2_with fail
      go_ret
      have hfin := HB3.out.trans (hbel.mono HB3.out.size)
      first | exact ⟨rfl, hfin⟩ | exact ⟨rfl, hfin.drew⟩ | exact ⟨rfl, hfin.drew.drew⟩

end Go.Proofs.YtoophonmonojcaaDoor

/- Several texts laid as one, in this order: ItemLaw, WireItemsW, WireLogsA. -/
import Derived.Test.YtoophonmonojcaaDoorItemDec
import Derived.Test.YtoophonmonojcaaDoorGFix
import Derived.Deep.RegionHeld3
import Derived.Test.YtoophonmonojcaaDoorGEq
/- Contract of jotterlaw06.item. -/
namespace Go.Proofs.YtoophonmonojcaaDoor
open Go.RowKit

abbrev IS (w : World) (g : Nat) (ta ok op oc ol os : Int) : Prop := w.cell? ⟨g, 2, none⟩ = some (.int .i64 ta) ∧ w.cell? ⟨g, 3, none⟩ = some (.int .i64 ok) ∧ w.cell? ⟨g, 4, none⟩ = some (.int .i64 op) ∧ w.cell? ⟨g, 5, none⟩ = some (.int .u8 oc) ∧ w.cell? ⟨g, 6, none⟩ = some (.int .i64 ol) ∧ w.cell? ⟨g, 7, none⟩ = some (.int .i64 os)
theorem isTail {w X w' : World} {g : Nat} {ta ok op oc ol os : Int} (h : IS w g ta ok op oc ol os) (hb : Below X.heap.size X w') (e4 : X.heap = w.heap) : IS w' g ta ok op oc ol os :=
  ⟨cell_tail h.1 hb e4, cell_tail h.2.1 hb e4, cell_tail h.2.2.1 hb e4, cell_tail h.2.2.2.1 hb e4, cell_tail h.2.2.2.2.1 hb e4, cell_tail h.2.2.2.2.2 hb e4⟩
theorem isKeep {w : World} {g : Nat} {ta ok op oc ol os : Int} (h : IS w g ta ok op oc ol os) (X : Obj) : IS (w.alloc X) g ta ok op oc ol os :=
  ⟨cell_alloc h.1 X, cell_alloc h.2.1 X, cell_alloc h.2.2.1 X, cell_alloc h.2.2.2.1 X, cell_alloc h.2.2.2.2.1 X, cell_alloc h.2.2.2.2.2 X⟩
theorem isDrew {w : World} {g : Nat} {ta ok op oc ol os : Int} (h : IS w g ta ok op oc ol os) : IS w.drew g ta ok op oc ol os := h
theorem isChain {w : World} {g gm : Nat} {ta ok op oc ol os : Int} (h : IS w g ta ok op oc ol os) (hne : g ≠ gm) (a0 a1 a2 a3 a4 a5 a6 a7 : Value) : IS ((((((((w.setCell ⟨gm, 0, none⟩ a0).setCell ⟨gm, 1, none⟩ a1).setCell ⟨gm, 2, none⟩ a2).setCell ⟨gm, 3, none⟩ a3).setCell ⟨gm, 4, none⟩ a4).setCell ⟨gm, 5, none⟩ a5).setCell ⟨gm, 6, none⟩ a6).setCell ⟨gm, 7, none⟩ a7) g ta ok op oc ol os := by
  have e : ∀ (i : Nat) (v : Value), w.cell? ⟨g, i, none⟩ = some v → (w.setCells gm 0 [a0, a1, a2, a3, a4, a5, a6, a7]).cell? ⟨g, i, none⟩ = some v := fun i v hv => (World.cell?_setCells_out gm [a0, a1, a2, a3, a4, a5, a6, a7] 0 w ⟨g, i, none⟩ (fun hb _ => absurd hb hne)).trans hv
  exact ⟨e _ _ h.1, e _ _ h.2.1, e _ _ h.2.2.1, e _ _ h.2.2.2.1, e _ _ h.2.2.2.2.1, e _ _ h.2.2.2.2.2⟩
theorem itemChain {W : World} {g : Nat} {m m' : It} (h : ItemAt W g m) (a0 a1 a2 a3 a4 a5 a6 a7 : Value) (hv : #[a0, a1, a2, a3, a4, a5, a6, a7] = m'.cs) (h1 : ∀ v ∈ [a0, a1, a2, a3, a4, a5, a6, a7], v.oneCell' = true) {w1 : World} {B : Nat} (hb : B ≤ g) (hB : Below B w1 W) : ItemAt ((((((((W.setCell ⟨g, 0, none⟩ a0).setCell ⟨g, 1, none⟩ a1).setCell ⟨g, 2, none⟩ a2).setCell ⟨g, 3, none⟩ a3).setCell ⟨g, 4, none⟩ a4).setCell ⟨g, 5, none⟩ a5).setCell ⟨g, 6, none⟩ a6).setCell ⟨g, 7, none⟩ a7) g m' ∧ Below B w1 ((((((((W.setCell ⟨g, 0, none⟩ a0).setCell ⟨g, 1, none⟩ a1).setCell ⟨g, 2, none⟩ a2).setCell ⟨g, 3, none⟩ a3).setCell ⟨g, 4, none⟩ a4).setCell ⟨g, 5, none⟩ a5).setCell ⟨g, 6, none⟩ a6).setCell ⟨g, 7, none⟩ a7) := by
  have hr := setCells_row W g 39 m.cs [a0, a1, a2, a3, a4, a5, a6, a7] h rfl h1
  have e : W.setCells g 0 [a0, a1, a2, a3, a4, a5, a6, a7] = ((((((((W.setCell ⟨g, 0, none⟩ a0).setCell ⟨g, 1, none⟩ a1).setCell ⟨g, 2, none⟩ a2).setCell ⟨g, 3, none⟩ a3).setCell ⟨g, 4, none⟩ a4).setCell ⟨g, 5, none⟩ a5).setCell ⟨g, 6, none⟩ a6).setCell ⟨g, 7, none⟩ a7) := by simp only [World.setCells, Nat.zero_add, Nat.reduceAdd]
  rw [e] at hr
  rw [hr]
  refine ⟨?_, below_setRow hB hb _⟩
  unfold ItemAt
  rw [← hv]
  exact setRow_heap W g _ _ _ _ h

set_option maxRecDepth 100000 in
set_option maxHeartbeats 2000000 in
theorem item_any (x : It) (w : World) (h : x.ok) : Calls Tryd.prog 27 #[.agg x.cs] w (RetV w (.agg (itemOf x).cs)) := by
  obtain ⟨k, ep, ta, ⟨ok, op, oc, ol, os⟩⟩ := x
  simp only [It.ok, O.ok, i64] at h
  obtain ⟨h0, h1, h2, h3, h4, h5, h6, h7⟩ := h
  obtain ⟨V, hV⟩ : ∃ V, V = (itemOf ⟨k, ep, ta, ⟨ok, op, oc, ol, os⟩⟩).cs := ⟨_, rfl⟩
  rw [← hV]
  have HV := Lib.hid hV; clear hV
  have hop : ∀ w, Calls Tryd.prog 73 #[.agg #[.int .i64 ok, .int .i64 op, .int .u8 oc, .int .i64 ol, .int .i64 os]] w (OpPost w (operate ⟨ok, op, oc, ol, os⟩).v) := fun w => operation_any ok op oc ol os w h3 h4 h5 h6 h7
  obtain ⟨qk, qp, qc, ql, qs, hO⟩ : ∃ qk qp qc ql qs, operate ⟨ok, op, oc, ol, os⟩ = ⟨qk, qp, qc, ql, qs⟩ := ⟨_, _, _, _, _, rfl⟩
  rw [hO] at hop
  simp only [O.v] at hop
  have HOP := Lib.hid hop; have HO := Lib.hid hO; clear hop hO
  unfold It.cs
  dsimp only
  go_enter Tryd.func27, Tryd.ntmps27
  go_wp2_with fail
  refine (within_any k 1 2 _ h0.1 h0.2 (by omega) (by omega) (by omega)).mono ?_
  rintro e w1 ⟨rfl, rfl⟩
  have hk0 := within_ge k 1 2 (by omega)
  have hk1 := within_le k 1 2 (by omega)
  obtain ⟨kk, hkk⟩ : ∃ kk, kk = within k 1 2 := ⟨_, rfl⟩
  rw [← hkk] at hk0 hk1 ⊢
  have HKK := Lib.hid hkk; clear hkk
  have hc : kk = 1 ∨ kk = 2 := by omega
  rcases hc with rfl | rfl
  · go_wp2_with fail
    refine (within_any ep 1 255 _ h1.1 h1.2 (by omega) (by omega) (by omega)).mono ?_
    rintro e w1 ⟨rfl, rfl⟩
    go_wp2
    try simp only [Exit.inBlock, Exit.then]
    exact bodyPost_ret (results_cell_row rfl _ _ (w.heap.size + 1) 39 _ (0, 0) _ rfl (heap_two _ _ _) Tryd.underlying39 rfl infoItem) rfl ⟨by rw [HV.out]; simp [It.cs, itemOf, ← HKK.out, zeroO], ((Below.refl _ w).alloc (Nat.le_refl _) _).alloc (by simp) _⟩
  · go_wp2_with fail
    have hB : Below w.heap.size w ((w.alloc (.cells #[.int .i64 k, .int .i64 ep, .int .i64 ta, .int .i64 ok, .int .i64 op, .int .u8 oc, .int .i64 ol, .int .i64 os] 39)).alloc (.cells #[.int .i64 0, .int .i64 0, .int .i64 0, .int .i64 0, .int .i64 0, .int .u8 0, .int .i64 0, .int .i64 0] 39)) := ((Below.refl _ w).alloc (Nat.le_refl _) _).alloc (by simp) _
    have hM : ItemAt ((w.alloc (.cells #[.int .i64 k, .int .i64 ep, .int .i64 ta, .int .i64 ok, .int .i64 op, .int .u8 oc, .int .i64 ol, .int .i64 os] 39)).alloc (.cells #[.int .i64 0, .int .i64 0, .int .i64 0, .int .i64 0, .int .i64 0, .int .u8 0, .int .i64 0, .int .i64 0] 39)) (w.heap.size + 1) zeroI := heap_two _ _ _
    have hX : ItemAt ((w.alloc (.cells #[.int .i64 k, .int .i64 ep, .int .i64 ta, .int .i64 ok, .int .i64 op, .int .u8 oc, .int .i64 ol, .int .i64 os] 39)).alloc (.cells #[.int .i64 0, .int .i64 0, .int .i64 0, .int .i64 0, .int .i64 0, .int .u8 0, .int .i64 0, .int .i64 0] 39)) w.heap.size ⟨k, ep, ta, ⟨ok, op, oc, ol, os⟩⟩ := heap_one _ _ _
    generalize ((w.alloc (.cells #[.int .i64 k, .int .i64 ep, .int .i64 ta, .int .i64 ok, .int .i64 op, .int .u8 oc, .int .i64 ol, .int .i64 os] 39)).alloc (.cells #[.int .i64 0, .int .i64 0, .int .i64 0, .int .i64 0, .int .i64 0, .int .u8 0, .int .i64 0, .int .i64 0] 39)) = w1 at hB hM hX ⊢
    have HB := Lib.hid hB; have HM := Lib.hid hM
    obtain ⟨x0, x1, x2, x3, x4, x5, x6, x7⟩ := item_all hX
    obtain ⟨z0, z1, z2, z3, z4, z5, z6, z7⟩ := item_all hM
    have hzf := hM.frozen
    have hgl := hM.lt
    have hgl0 : w.heap.size < w1.heap.size := by omega
    have his : IS w1 w.heap.size ta ok op oc ol os := ⟨x2, x3, x4, x5, x6, x7⟩
    have hne : w.heap.size ≠ w.heap.size + 1 := by omega
    obtain ⟨tt, htt⟩ : ∃ tt, tt = within ta 0 4096 := ⟨_, rfl⟩
    have hwt : ∀ X : World, Calls Tryd.prog 24 #[.int .i64 ta, .int .i64 0, .int .i64 4096] X fun e w' => e = .returned (.int .i64 tt) ∧ X = w' := fun X => by rw [htt]; exact within_any ta 0 4096 X h2.1 h2.2 (by omega) (by omega) (by omega)
    have HWT := Lib.hid hwt; have HTT := Lib.hid htt
    clear hB hM hX x0 x1 htt hwt
    go_region_held3 (fun w' => IS w' w.heap.size ta ok op oc ol os) (with_reducible first | exact his | exact isDrew his | exact isDrew (isDrew his) | exact isKeep (isKeep his _) _ | exact isDrew (isKeep (isKeep his _) _) | exact isDrew (isDrew (isKeep (isKeep his _) _)) | exact isKeep (isKeep (isChain his hne _ _ _ _ _ _ _ _) _) _ | exact isDrew (isKeep (isKeep (isChain his hne _ _ _ _ _ _ _ _) _) _) | exact isDrew (isDrew (isKeep (isKeep (isChain his hne _ _ _ _ _ _ _ _) _) _)))
      (first
       | ((with_reducible refine (HWT.out _).mono ?_); rintro e w' ⟨rfl, rfl⟩)
       | ((with_reducible refine (HOP.out _).mono ?_); rintro e w' ⟨rfl, D, E, rfl⟩))
    have hch := itemChain (m' := ⟨2, 0, tt, ⟨qk, qp, qc, ql, qs⟩⟩) HM.out (Value.int .i64 2) (Value.int .i64 0) (Value.int .i64 tt) (Value.int .i64 qk) (Value.int .i64 qp) (Value.int .u8 qc) (Value.int .i64 ql) (Value.int .i64 qs) rfl (by simp [Value.oneCell']) (B := w.heap.size) (by omega) HB.out
    have HC1 := Lib.hid ((hch.1.keep ((Below.refl _ _).alloc (Nat.le_refl _) D)).keep ((Below.refl _ _).alloc (Nat.le_refl _) E)).drew
    have hb1 := hch.2.alloc hch.2.size D
    have HC2 := Lib.hid ((hb1.alloc hb1.size E).drew)
    clear hch hb1 z0 z1 z2 z3 z4 z5 z6 z7 hzf
    go_wp2_with fail
    exact bodyPost_ret (results_cell_row rfl _ _ (w.heap.size + 1) 39 _ (0, 0) _ rfl HC1.out Tryd.underlying39 rfl infoItem) rfl ⟨by rw [HV.out]; simp [It.cs, itemOf, ← HKK.out, ← HTT.out, HO.out], HC2.out⟩
end Go.Proofs.YtoophonmonojcaaDoor

/- The walk of jotterlaw06.WireItems: it answers true. -/
namespace Go.Proofs.YtoophonmonojcaaDoor
open Go.RowKit
attribute [-go_sem] run_eql_struct

/-- What the items' walks ask of the listed variables. -/
structure EnvI (w : World) : Prop where
  siz : Sizes w
  shp : ShapesI w
  fld : FieldsI w
theorem EnvI.step {w w' : World} (h : EnvI w) (hb : Below w.heap.size w w') : EnvI w' := ⟨h.siz.step hb, h.shp.step hb, h.fld.step hb⟩
theorem fineI_ch {x : It} (h : x.fine) : 0 ≤ x.op.ch ∧ x.op.ch ≤ 255 := by
  rcases h with ⟨_, _, _, _, h⟩ | ⟨_, _, _, _, h⟩
  · rw [h]; simp [zeroO]
  · exact O.fine_ch h
theorem fineI_ok {x : It} (h : x.fine) : x.ok := by
  obtain ⟨k, ep, ta, ⟨ok, op, oc, ol, os⟩⟩ := x
  simp only [It.fine, O.fine, zeroO, O.mk.injEq] at h
  simp only [It.ok, O.ok, i64]
  rcases h with h | h <;> omega
theorem encI_len {x : It} (h : x.fine) : 2 ≤ (encI x).length ∧ (encI x).length ≤ 9 := by
  obtain ⟨k, _, e, h1, h2⟩ := fineI_kind h
  unfold encI
  rw [e, layI_length _ k h1 h2]
  have hc : k = 1 ∨ k = 2 := by omega
  rcases hc with rfl | rfl <;> decide
/-- An item that may stand is encoded. -/
theorem encodeItem_fine (x : It) (w : World) (h : x.fine) (hv : EnvI w) : Calls Tryd.prog 26 #[.agg x.cs] w fun e w' =>
    ∃ g, e = .returned (.tuple #[.slice (some ⟨g, 0, none⟩) (encI x).length (encI x).length, .nilIface]) ∧ w.heap.size ≤ g ∧ Row w' g (encI x) ∧ Below w.heap.size w w' := by
  obtain ⟨k, hk, _, h1, h2⟩ := fineI_kind h
  have hG := (goodI_fine k x hk h1 h2).2 h
  have hch := fineI_ch h
  have key : Calls Tryd.prog 26 #[.agg x.cs] w (EncItemPost w k x) := by
    obtain ⟨mk, ep, ta, ⟨ok, op, oc, ol, os⟩⟩ := x
    dsimp only at hk hch
    subst hk
    exact encodeItem_core k ep ta ok op oc ol os w _ (fun e w' h => h) h1 h2 hch hv.siz hv.shp hv.fld
  refine key.mono ?_
  rintro e w' (⟨_, hx⟩ | ⟨j, g, hj, _, hb, _⟩)
  · exact hx
  · have hj' : j < fieldsI.length := hj
    have hm : fieldsI.getD j 0 ∈ fieldsI := by
      rw [List.getD_eq_getElem?_getD, List.getElem?_eq_getElem hj']
      exact List.getElem_mem hj'
    rw [hG _ hm] at hb; cases hb
theorem decodeItem_inr (ao : Option Addr) (n cap : Nat) (b : List UInt8) (x : It) (w : World) (h : itemDec b = .inr x) (hl : b.length = n) (hr : Rd w ao b) (hb : n ≤ 9223372036854775807) (hv : EnvI w) :
    Calls Tryd.prog 31 #[.slice ao n cap] w fun e w' => e = .returned (.tuple #[.agg x.cs, .nilIface]) ∧ Below w.heap.size w w' := by
  refine (decodeItem_any ao n cap b w hl hr hb hv.siz hv.shp).mono fun e w' hp => ?_
  unfold DecItemPost at hp
  rw [h] at hp
  exact hp
theorem decodeItem_inl (ao : Option Addr) (n cap : Nat) (b : List UInt8) (c a : Int) (w : World) (h : itemDec b = .inl (c, a)) (hl : b.length = n) (hr : Rd w ao b) (hb : n ≤ 9223372036854775807) (hv : EnvI w) :
    Calls Tryd.prog 31 #[.slice ao n cap] w fun e w' => ∃ g, e = .returned (.tuple #[.agg zeroI.cs, faultV g]) ∧ NewFault w a c g w' := by
  refine (decodeItem_any ao n cap b w hl hr hb hv.siz hv.shp).mono fun e w' hp => ?_
  unfold DecItemPost at hp
  rw [h] at hp
  exact hp
abbrev IC (w : World) (g : Nat) (k ep ta ok op oc ol os : Int) : Prop := w.cell? ⟨g, 0, none⟩ = some (.int .i64 k) ∧ w.cell? ⟨g, 1, none⟩ = some (.int .i64 ep) ∧ w.cell? ⟨g, 2, none⟩ = some (.int .i64 ta) ∧ w.cell? ⟨g, 3, none⟩ = some (.int .i64 ok) ∧ w.cell? ⟨g, 4, none⟩ = some (.int .i64 op) ∧ w.cell? ⟨g, 5, none⟩ = some (.int .u8 oc) ∧ w.cell? ⟨g, 6, none⟩ = some (.int .i64 ol) ∧ w.cell? ⟨g, 7, none⟩ = some (.int .i64 os)
theorem icDrew {w : World} {g : Nat} {k ep ta ok op oc ol os : Int} (h : IC w g k ep ta ok op oc ol os) : IC w.drew g k ep ta ok op oc ol os := h
theorem icTail {w X w' : World} {g : Nat} {k ep ta ok op oc ol os : Int} (h : IC w g k ep ta ok op oc ol os) (hb : Below X.heap.size X w') (e4 : X.heap = w.heap) : IC w' g k ep ta ok op oc ol os := by
  obtain ⟨h0, h1, h2, h3, h4, h5, h6, h7⟩ := h
  exact ⟨cell_tail h0 hb e4, cell_tail h1 hb e4, cell_tail h2 hb e4, cell_tail h3 hb e4, cell_tail h4 hb e4, cell_tail h5 hb e4, cell_tail h6 hb e4, cell_tail h7 hb e4⟩

set_option maxRecDepth 100000 in
set_option maxHeartbeats 4000000 in
theorem oneItem_any (ao : Option Addr) (n cap : Nat) (b : List UInt8) (W : World) (hl : b.length = n) (hr : Rd W ao b) (hb : n ≤ 9223372036854775807) (hE : EType W) (hv : EnvI W) :
    Calls Tryd.prog 54 #[.slice ao n cap] W (RetV W (.bool true)) := by
  have HV := Lib.hid hv; have HL := Lib.hid hl; have HR := Lib.hid hr; have HE := Lib.hid hE
  clear hv hl hr hE
  go_enter Tryd.func54, Tryd.ntmps54
  go_wp2_with fail
  rcases hd : itemDec b with ⟨c, a⟩ | x
  · have herr := itemDec_err hd
    have HD := Lib.hid hd
    clear hd
    refine (decodeItem_inl ao n cap b c a _ HD.out HL.out HR.out hb HV.out).mono ?_
    rintro e w1 ⟨g1, rfl, hN1⟩
    have HB1 := Lib.hid hN1.2.2; have HG1 := Lib.hid hN1.2.1
    have hg1l := heap_lt hN1.2.1
    clear hN1
    have HZ := Lib.hid (show ItemAt (w1.alloc (.cells #[.int .i64 0, .int .i64 0, .int .i64 0, .int .i64 0, .int .i64 0, .int .u8 0, .int .i64 0, .int .i64 0] 39)) w1.heap.size zeroI from heap_alloc_new _ _)
    go_wp2_with ((with_reducible refine wpList_storeItem2 rfl (.tmp 3) (.tmp 12) rfl rfl w1.heap.size zeroI zeroI rfl rfl HZ.out ?_); intro w2 hm2 ht2 ho2; have HB2 := Lib.hid (ht2 _ _ HB1.out.size (HB1.out.alloc HB1.out.size _)); have HG2 := Lib.hid (show w2.heap[g1]? = some (faultObj a c) from (ho2 g1 (by omega)).trans ((heap_push w1 _ _ hg1l).trans HG1.out)); have HM2 := Lib.hid hm2; clear hm2 ht2 ho2)
    refine (code_fault g1 a c _ HG2.out (HE.out.step HB2.out)).mono ?_
    rintro e w3 ⟨rfl, hb3⟩
    have HB3 := Lib.hid (HB2.out.trans (hb3.mono HB2.out.size)); have HG3 := Lib.hid ((hb3.block g1 (heap_lt HG2.out)).trans HG2.out); have HM3 := Lib.hid (HM2.out.keep hb3)
    clear hb3
    go_wp2_with fail
    refine (place_fault g1 a c _ HG3.out (HE.out.step HB3.out)).mono ?_
    rintro e w4 ⟨rfl, hb4⟩
    have HB4 := Lib.hid (HB3.out.trans (hb4.mono HB3.out.size)); have HM4 := Lib.hid (HM3.out.keep hb4)
    clear hb4
    have heq : ∀ w, (binOp .eql 39 (.agg zeroI.cs) (.agg #[.int .i64 0, .int .i64 0, .int .i64 0, .int .i64 0, .int .i64 0, .int .u8 0, .int .i64 0, .int .i64 0])).run Tryd.prog w = .ok (.bool true) w := fun w => eql_item_same zeroI w
    obtain ⟨e1, e2, e3, e4⟩ := herr
    rw [HL.out] at e4
    go_wp2_with (with_reducible refine wpList_loadItem rfl (.tmp 3) rfl w1.heap.size zeroI rfl HM4.out ?_)
    go_ret
    exact ⟨rfl, HB4.out⟩
  · obtain ⟨hfine, henc⟩ := itemDec_ok hd
    have hok := fineI_ok hfine
    have hlen := encI_len hfine
    have HD := Lib.hid hd; have HF := Lib.hid hfine; have HENC := Lib.hid henc
    rw [henc, HL.out] at hlen
    clear hd
    refine (decodeItem_inr ao n cap b x _ HD.out HL.out HR.out hb HV.out).mono ?_
    rintro e w1 ⟨rfl, hb1⟩
    have HB1 := Lib.hid hb1
    clear hb1
    have HZ := Lib.hid (show ItemAt (w1.alloc (.cells #[.int .i64 0, .int .i64 0, .int .i64 0, .int .i64 0, .int .i64 0, .int .u8 0, .int .i64 0, .int .i64 0] 39)) w1.heap.size zeroI from heap_alloc_new _ _)
    go_wp2_with (first
      | ((with_reducible refine wpList_storeItem2 rfl (.tmp 3) (.tmp 12) rfl rfl w1.heap.size zeroI x rfl rfl HZ.out ?_); intro w2 hm2 ht2 ho2; have HB2 := Lib.hid (ht2 _ _ HB1.out.size (HB1.out.alloc HB1.out.size _)); have HM2 := Lib.hid hm2; clear hm2 ht2 ho2)
      | (with_reducible refine wpList_loadItem rfl (.tmp 3) rfl w1.heap.size x rfl HM2.out ?_))
    refine (encodeItem_fine x _ HF.out (HV.out.step HB2.out)).mono ?_
    rintro e w3 ⟨g3, rfl, hg3, hr3, hb3⟩
    have HB3 := Lib.hid (HB2.out.trans (hb3.mono HB2.out.size)); have HM3 := Lib.hid (HM2.out.keep hb3); have HR3 := Lib.hid hr3
    clear hg3 hr3 hb3
    rw [HENC.out, HL.out]
    have hceq : ∀ X : World, Below w3.heap.size w3 X → Calls Tryd.prog 51 #[.slice (some ⟨g3, 0, none⟩) n n, .slice ao n cap] X (RetQ X (.bool true)) := fun X hX => by
      have h := law06_eq_any (some ⟨g3, 0, none⟩) ao n n n cap (encI x) b X (by rw [HENC.out, HL.out]) HL.out (HR3.out.rd.step hX) ((HR.out.step HB3.out).step hX) (by omega)
      rw [HENC.out] at h
      simpa using h
    have hmess : ∀ w, Calls Tryd.prog 27 #[.agg x.cs] w (RetV w (.agg x.cs)) := fun w => by
      have h := item_any x w hok
      rw [itemOf_of HF.out] at h
      exact h
    have hq := eql_item_same x
    have hM := HM3.out
    clear hfine henc hok
    obtain ⟨k, ep, ta, ⟨ok, op, oc, ol, os⟩⟩ := x
    have hms : IC w3 w1.heap.size k ep ta ok op oc ol os := item_all hM
    simp only [It.cs] at hq hmess
    have HCEQ := Lib.hid hceq; have HME := Lib.hid hmess
    clear hM hceq hmess
    have hbel := Below.refl w3.heap.size w3
    have hgf := Nat.le_refl w3.heap.size
    go_wp2_with fail
    go_region_held3 (fun w' => IC w' w1.heap.size k ep ta ok op oc ol os) (with_reducible first | exact hms | exact icDrew hms | exact icDrew (icDrew hms) | exact icDrew (icDrew (icDrew hms)))
      (first
       | ((with_reducible refine (HCEQ.out _ ?_).mono ?_); (· first | exact hbel | exact hbel.drew | exact hbel.drew.drew); intro e w' hqq; obtain ⟨rfl, hb2⟩ := hqq.below; have hms := icTail hms hb2 rfl; have hbel := below_tail hbel hb2 rfl rfl rfl rfl hgf; have hgf := Nat.le_trans hgf hb2.size)
       | ((with_reducible refine (HME.out _).mono ?_); rintro e w' ⟨rfl, hb2⟩; have hms := icTail hms hb2 rfl; have hbel := below_tail hbel hb2 rfl rfl rfl rfl hgf; have hgf := Nat.le_trans hgf hb2.size))
    all_goals
      go_wp2_with fail
      go_ret
      have hfin := HB3.out.trans (hbel.mono HB3.out.size)
      first | exact ⟨rfl, hfin⟩ | exact ⟨rfl, hfin.drew⟩ | exact ⟨rfl, hfin.drew.drew⟩

set_option maxRecDepth 100000 in
set_option maxHeartbeats 2000000 in
theorem wireItems_any (ao : Option Addr) (n cap : Nat) (b : List UInt8) (x : It) (W : World) (hl : b.length = n) (hr : Rd W ao b) (_hcap : n ≤ cap) (_hz : ao = none → cap = 0) (hb : n ≤ 9223372036854775807) (hx : x.ok) (hE : EType W) (hS : Sizes W) (hSI : ShapesI W) (hFI : FieldsI W) :
    Calls Tryd.prog 13 #[.slice ao n cap, x.v] W (RetV W (.bool true)) := by
  have hv : EnvI W := ⟨hS, hSI, hFI⟩
  have hit : ∀ w, Calls Tryd.prog 27 #[.agg x.cs] w (RetV w (.agg (itemOf x).cs)) := fun w => item_any x w hx
  obtain ⟨y, hy⟩ : ∃ y, y = itemOf x := ⟨_, rfl⟩
  have hfine : y.fine := by rw [hy]; exact itemOf_fine x
  rw [← hy] at hit
  have HIT := Lib.hid hit; have HF := Lib.hid hfine; have HV := Lib.hid hv; have HL := Lib.hid hl; have HR := Lib.hid hr; have HE := Lib.hid hE
  clear hS hSI hFI hE hv hl hr hit hfine hy hx
  obtain ⟨k, ep, ta, ⟨ok, op, oc, ol, os⟩⟩ := x
  rw [It.v_cs]
  unfold It.cs
  dsimp only
  go_enter Tryd.func13, Tryd.ntmps13
  go_wp2_with fail
  have hM0 : ItemAt (W.alloc (.cells #[.int .i64 k, .int .i64 ep, .int .i64 ta, .int .i64 ok, .int .i64 op, .int .u8 oc, .int .i64 ol, .int .i64 os] 39)) W.heap.size ⟨k, ep, ta, ⟨ok, op, oc, ol, os⟩⟩ := heap_alloc_new _ _
  have hb0 : Below W.heap.size W (W.alloc (.cells #[.int .i64 k, .int .i64 ep, .int .i64 ta, .int .i64 ok, .int .i64 op, .int .u8 oc, .int .i64 ol, .int .i64 os] 39)) := (Below.refl _ W).alloc (Nat.le_refl _) _
  refine (oneItem_any ao n cap b _ HL.out (HR.out.step hb0) hb (HE.out.step hb0) (HV.out.step hb0)).mono ?_
  rintro e w1 ⟨rfl, hb1⟩
  have HM1 := Lib.hid (hM0.keep hb1); have HB1 := Lib.hid (hb0.trans (hb1.mono hb0.size))
  clear hM0 hb0 hb1
  go_wp2_with (with_reducible refine wpList_loadItem rfl (.tmp 3) rfl W.heap.size _ rfl HM1.out ?_)
  refine (HIT.out _).mono ?_
  rintro e w2 ⟨rfl, hb2⟩
  have HM2 := Lib.hid (HM1.out.keep hb2); have HB2 := Lib.hid (HB1.out.trans (hb2.mono HB1.out.size))
  clear hb2
  go_wp2_with (first
    | ((with_reducible refine wpList_storeItem2 rfl (.tmp 3) (.tmp 12) rfl rfl W.heap.size _ y rfl rfl HM2.out ?_); intro w3 hm3 ht3 ho3; have HM3 := Lib.hid hm3; have HB3 := Lib.hid (ht3 _ _ (Nat.le_refl _) HB2.out); clear hm3 ht3 ho3)
    | (with_reducible refine wpList_loadItem rfl (.tmp 3) rfl W.heap.size y rfl HM3.out ?_))
  refine (encodeItem_fine y _ HF.out (HV.out.step HB3.out)).mono ?_
  rintro e w4 ⟨g4, rfl, hg4, hr4, hb4⟩
  have HM4 := Lib.hid (HM3.out.keep hb4); have HB4 := Lib.hid (HB3.out.trans (hb4.mono HB3.out.size)); have HR4 := Lib.hid hr4
  clear hg4 hr4 hb4
  have hlen := encI_len HF.out
  obtain ⟨N, hN⟩ : ∃ N, N = (encI y).length := ⟨_, rfl⟩
  rw [← hN] at hlen ⊢
  have HN := Lib.hid hN
  clear hN
  go_wp2_with fail
  refine (decodeItem_inr (some ⟨g4, 0, none⟩) N N (encI y) y _ (itemDec_enc HF.out) HN.out.symm HR4.out.rd (by omega) (HV.out.step HB4.out)).mono ?_
  rintro e w5 ⟨rfl, hb5⟩
  have HM5 := Lib.hid (HM4.out.keep hb5); have HB5 := Lib.hid (HB4.out.trans (hb5.mono HB4.out.size))
  clear hb5
  have HZ := Lib.hid (show ItemAt (w5.alloc (.cells #[.int .i64 0, .int .i64 0, .int .i64 0, .int .i64 0, .int .i64 0, .int .u8 0, .int .i64 0, .int .i64 0] 39)) w5.heap.size zeroI from heap_alloc_new _ _)
  have heq := eql_item_same y
  go_wp2_with (first
    | ((with_reducible refine wpList_storeItem2 rfl (.tmp 7) (.tmp 23) rfl rfl w5.heap.size zeroI y rfl rfl HZ.out ?_); intro w6 hm6 ht6 ho6; have HM6 := Lib.hid hm6; have HB6 := Lib.hid (ht6 _ _ HB5.out.size (HB5.out.alloc HB5.out.size _)); have HM7 := Lib.hid (show ItemAt w6 W.heap.size y from (ho6 W.heap.size (by have := HM5.out.lt; omega)).trans ((heap_push w5 _ _ HM5.out.lt).trans HM5.out)); clear hm6 ht6 ho6)
    | (with_reducible refine wpList_loadItemG (.tmp 7) rfl w5.heap.size y rfl HM6.out (by kernel_rfl) ?_)
    | (with_reducible refine wpList_loadItemG (.tmp 3) rfl W.heap.size y rfl HM7.out (by kernel_rfl) ?_))
  go_ret
  exact ⟨rfl, HB6.out⟩
end Go.Proofs.YtoophonmonojcaaDoor

/- jotterlaw06's fixedItem answers true. -/
namespace Go.Proofs.YtoophonmonojcaaDoor
open Go.RowKit
attribute [-go_sem] run_eql_struct

def item17 : It := ⟨1, 7, 0, zeroO⟩
theorem item17_fine : item17.fine := .inl ⟨rfl, by decide, by decide, rfl, rfl⟩
theorem item17_enc : encI item17 = [1, 7] := by decide +kernel

set_option maxRecDepth 100000 in
set_option maxHeartbeats 2000000 in
theorem fixedItem_any (W : World) (hv : EnvI W) : Calls Tryd.prog 29 #[] W (RetV W (.bool true)) := by
  have HV := Lib.hid hv
  have heq := eql_item_same item17
  clear hv
  go_enter Tryd.func29, Tryd.ntmps29
  go_wp2_with fail
  have hM0 : ItemAt (W.alloc (.cells #[.int .i64 1, .int .i64 7, .int .i64 0, .int .i64 0, .int .i64 0, .int .u8 0, .int .i64 0, .int .i64 0] 39)) W.heap.size item17 := heap_alloc_new _ _
  have hb0 : Below W.heap.size W (W.alloc (.cells #[.int .i64 1, .int .i64 7, .int .i64 0, .int .i64 0, .int .i64 0, .int .u8 0, .int .i64 0, .int .i64 0] 39)) := (Below.refl _ W).alloc (Nat.le_refl _) _
  refine (encodeItem_fine item17 _ item17_fine (HV.out.step hb0)).mono ?_
  rintro e w1 ⟨g1, rfl, hg1, hr1, hb1⟩
  rw [item17_enc] at hr1 ⊢
  have HM1 := Lib.hid (hM0.keep hb1); have HB1 := Lib.hid (hb0.trans (hb1.mono hb0.size)); have HR1 := Lib.hid hr1
  clear hM0 hb0 hb1 hr1 hg1
  simp only [List.length_cons, List.length_nil]
  go_wp2_with fail
  have hrow : Row (w1.alloc (.cells #[.int .u8 1, .int .u8 7] 5)) w1.heap.size [1, 7] := heap_alloc_new _ _
  have hb1 : Below w1.heap.size w1 (w1.alloc (.cells #[.int .u8 1, .int .u8 7] 5)) := (Below.refl _ w1).alloc (Nat.le_refl _) _
  refine (law06_eq_any (some ⟨g1, 0, none⟩) (some ⟨w1.heap.size, 0, none⟩) 2 2 2 2 [1, 7] [1, 7] _ rfl rfl (HR1.out.rd.step hb1) hrow.rd (by omega)).mono ?_
  intro e w2 hq
  obtain ⟨rfl, hb2⟩ := hq.below
  replace hb2 := hb1.trans (hb2.mono hb1.size)
  have HM2 := Lib.hid (HM1.out.keep hb2); have HB2 := Lib.hid (HB1.out.trans (hb2.mono HB1.out.size)); have HR2 := Lib.hid (HR1.out.rd.step hb2)
  clear hrow hb1 hq hb2
  rw [beq_self_eq_true]
  go_wp2_with fail
  refine (decodeItem_inr (some ⟨g1, 0, none⟩) 2 2 [1, 7] item17 _ (by rw [← item17_enc]; exact itemDec_enc item17_fine) rfl HR2.out (by omega) (HV.out.step HB2.out)).mono ?_
  rintro e w3 ⟨rfl, hb3⟩
  have HM3 := Lib.hid (HM2.out.keep hb3); have HB3 := Lib.hid (HB2.out.trans (hb3.mono HB2.out.size))
  clear hb3
  have HZ := Lib.hid (show ItemAt (w3.alloc (.cells #[.int .i64 0, .int .i64 0, .int .i64 0, .int .i64 0, .int .i64 0, .int .u8 0, .int .i64 0, .int .i64 0] 39)) w3.heap.size zeroI from heap_alloc_new _ _)
  go_wp2_with (first
    | ((with_reducible refine wpList_storeItem2 rfl (.tmp 4) (.tmp 22) rfl rfl w3.heap.size zeroI item17 rfl rfl HZ.out ?_); intro w6 hm6 ht6 ho6; have HM6 := Lib.hid hm6; have HB6 := Lib.hid (ht6 _ _ HB3.out.size (HB3.out.alloc HB3.out.size _)); have HM7 := Lib.hid (show ItemAt w6 W.heap.size item17 from (ho6 W.heap.size (by have := HM3.out.lt; omega)).trans ((heap_push w3 _ _ HM3.out.lt).trans HM3.out)); clear hm6 ht6 ho6)
    | (with_reducible refine wpList_loadItemG (.tmp 4) rfl w3.heap.size item17 rfl HM6.out (by kernel_rfl) ?_)
    | (with_reducible refine wpList_loadItemG (.tmp 1) rfl W.heap.size item17 rfl HM7.out (by kernel_rfl) ?_))
  go_ret
  exact ⟨rfl, HB6.out⟩
end Go.Proofs.YtoophonmonojcaaDoor

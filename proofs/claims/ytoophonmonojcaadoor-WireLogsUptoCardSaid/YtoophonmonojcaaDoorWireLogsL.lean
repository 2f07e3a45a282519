/- Several texts laid as one, in this order: ItemLaw, WireItemsW, WireLogsA, ItemsArg, WalPrefixW, WireLogsB, WireLogsW, KitItems, WireLogsR. -/
import Derived.Test.YtoophonmonojcaaDoorItemDec
import Derived.Test.YtoophonmonojcaaDoorWireTail
import Derived.Deep.RegionHeld3
import Derived.Test.YtoophonmonojcaaDoorEqAll
import Derived.Test.YtoophonmonojcaaDoorMsgArg
import Derived.Test.YtoophonmonojcaaDoorRowsArg
import Derived.Deep.MidRow
import Derived.Test.YtoophonmonojcaaDoorAmong
import Derived.Test.YtoophonmonojcaaDoorKitWire
import Derived.Test.YtoophonmonojcaaDoorItemEnc
import Derived.Deep.DeepWitnessRowRef
/- Contract of jotterlaw06.item. -/
namespace Go.Proofs.YtoophonmonojcaaDoor
open Go.RowKit

abbrev IS (w : World) (g : Nat) (ta ok op oc ol os : Int) : Prop := w.cell? ⟨g, 2, none⟩ = some (.int .i64 ta) ∧ w.cell? ⟨g, 3, none⟩ = some (.int .i64 ok) ∧ w.cell? ⟨g, 4, none⟩ = some (.int .i64 op) ∧ w.cell? ⟨g, 5, none⟩ = some (.int .u8 oc) ∧ w.cell? ⟨g, 6, none⟩ = some (.int .i64 ol) ∧ w.cell? ⟨g, 7, none⟩ = some (.int .i64 os)
theorem isTail {w X w' : World} {g : Nat} {ta ok op oc ol os : Int} (h : IS w g ta ok op oc ol os) (hb : Below X.heap.size X w') (e4 : X.heap = w.heap) : IS w' g ta ok op oc ol os :=
  ⟨cell_tail h.1 hb e4, cell_tail h.2.1 hb e4, cell_tail h.2.2.1 hb e4, cell_tail h.2.2.2.1 hb e4, cell_tail h.2.2.2.2.1 hb e4, cell_tail h.2.2.2.2.2 hb e4⟩
theorem isKeep {w : World} {g : Nat} {ta ok op oc ol os : Int} (h : IS w g ta ok op oc ol os) (X : Obj) : IS (w.alloc X) g ta ok op oc ol os :=
  ⟨cell_alloc h.1 X, cell_alloc h.2.1 X, cell_alloc h.2.2.1 X, cell_alloc h.2.2.2.1 X, cell_alloc h.2.2.2.2.1 X, cell_alloc h.2.2.2.2.2 X⟩
theorem isDrew {w : World} {g : Nat} {ta ok op oc ol os : Int} (h : IS w g ta ok op oc ol os) : IS w.drew g ta ok op oc ol os := h
theorem isChain {w : World} {g gm : Nat} {ta ok op oc ol os : Int} (h : IS w g ta ok op oc ol os) (hne : g ≠ gm) (a0 a1 a2 a3 a4 a5 a6 a7 : Value) : IS ((((((((w.setCell ⟨gm, 0, none⟩ a0).setCell ⟨gm, 1, none⟩ a1).setCell ⟨gm, 2, none⟩ a2).setCell ⟨gm, 3, none⟩ a3).setCell ⟨gm, 4, none⟩ a4).setCell ⟨gm, 5, none⟩ a5).setCell ⟨gm, 6, none⟩ a6).setCell ⟨gm, 7, none⟩ a7) g ta ok op oc ol os := by
  have e : ∀ (i : Nat) (v : Value), w.cell? ⟨g, i, none⟩ = some v → (w.setCells gm 0 [a0, a1, a2, a3, a4, a5, a6, a7]).cell? ⟨g, i, none⟩ = some v := fun i v hv => (World.cell?_setCells_out gm [a0, a1, a2, a3, a4, a5, a6, a7] 0 w ⟨g, i, none⟩ (fun hb _ => absurd hb hne)).trans hv
  exact ⟨e _ _ h.1, e _ _ h.2.1, e _ _ h.2.2.1, e _ _ h.2.2.2.1, e _ _ h.2.2.2.2.1, e _ _ h.2.2.2.2.2⟩
theorem itemChain {W : World} {g : Nat} {m m' : It} (h : ItemAt W g m) (a0 a1 a2 a3 a4 a5 a6 a7 : Value) (hv : #[a0, a1, a2, a3, a4, a5, a6, a7] = m'.cs) (h1 : ∀ v ∈ [a0, a1, a2, a3, a4, a5, a6, a7], v.oneCell' = true) {w1 : World} {B : Nat} (hb : B ≤ g) (hB : Below B w1 W) : ItemAt ((((((((W.setCell ⟨g, 0, none⟩ a0).setCell ⟨g, 1, none⟩ a1).setCell ⟨g, 2, none⟩ a2).setCell ⟨g, 3, none⟩ a3).setCell ⟨g, 4, none⟩ a4).setCell ⟨g, 5, none⟩ a5).setCell ⟨g, 6, none⟩ a6).setCell ⟨g, 7, none⟩ a7) g m' ∧ Below B w1 ((((((((W.setCell ⟨g, 0, none⟩ a0).setCell ⟨g, 1, none⟩ a1).setCell ⟨g, 2, none⟩ a2).setCell ⟨g, 3, none⟩ a3).setCell ⟨g, 4, none⟩ a4).setCell ⟨g, 5, none⟩ a5).setCell ⟨g, 6, none⟩ a6).setCell ⟨g, 7, none⟩ a7) := by
  have hr := setCells_row W g 39 m.cs [a0, a1, a2, a3, a4, a5, a6, a7] h rfl h1
  have e : W.setCells g 0 [a0, a1, a2, a3, a4, a5, a6, a7] = ((((((((W.setCell ⟨g, 0, none⟩ a0).setCell ⟨g, 1, none⟩ a1).setCell ⟨g, 2, none⟩ a2).setCell ⟨g, 3, none⟩ a3).setCell ⟨g, 4, none⟩ a4).setCell ⟨g, 5, none⟩ a5).setCell ⟨g, 6, none⟩ a6).setCell ⟨g, 7, none⟩ a7) := by simp only [World.setCells, Nat.zero_add, Nat.reduceAdd]
  rw [e] at hr
  rw [hr]
  refine ⟨?_, below_setRow hB hb _⟩
  unfold ItemAt
  rw [← hv]
  exact setRow_heap W g _ _ _ _ h

set_option maxRecDepth 100000 in
set_option maxHeartbeats 2000000 in
theorem item_any (x : It) (w : World) (h : x.ok) : Calls Tryd.prog 27 #[.agg x.cs] w (RetV w (.agg (itemOf x).cs)) := by
  obtain ⟨k, ep, ta, ⟨ok, op, oc, ol, os⟩⟩ := x
  simp only [It.ok, O.ok, i64] at h
  obtain ⟨h0, h1, h2, h3, h4, h5, h6, h7⟩ := h
  obtain ⟨V, hV⟩ : ∃ V, V = (itemOf ⟨k, ep, ta, ⟨ok, op, oc, ol, os⟩⟩).cs := ⟨_, rfl⟩
  rw [← hV]
  have HV := Lib.hid hV; clear hV
  have hop : ∀ w, Calls Tryd.prog 73 #[.agg #[.int .i64 ok, .int .i64 op, .int .u8 oc, .int .i64 ol, .int .i64 os]] w (OpPost w (operate ⟨ok, op, oc, ol, os⟩).v) := fun w => operation_any ok op oc ol os w h3 h4 h5 h6 h7
  obtain ⟨qk, qp, qc, ql, qs, hO⟩ : ∃ qk qp qc ql qs, operate ⟨ok, op, oc, ol, os⟩ = ⟨qk, qp, qc, ql, qs⟩ := ⟨_, _, _, _, _, rfl⟩
  rw [hO] at hop
  simp only [O.v] at hop
  have HOP := Lib.hid hop; have HO := Lib.hid hO; clear hop hO
  unfold It.cs
  dsimp only
  go_enter Tryd.func27, Tryd.ntmps27
  go_wp2_with fail
  refine (within_any k 1 2 _ h0.1 h0.2 (by omega) (by omega) (by omega)).mono ?_
  rintro e w1 ⟨rfl, rfl⟩
  have hk0 := within_ge k 1 2 (by omega)
  have hk1 := within_le k 1 2 (by omega)
  obtain ⟨kk, hkk⟩ : ∃ kk, kk = within k 1 2 := ⟨_, rfl⟩
  rw [← hkk] at hk0 hk1 ⊢
  have HKK := Lib.hid hkk; clear hkk
  have hc : kk = 1 ∨ kk = 2 := by omega
  rcases hc with rfl | rfl
  · go_wp2_with fail
    refine (within_any ep 1 255 _ h1.1 h1.2 (by omega) (by omega) (by omega)).mono ?_
    rintro e w1 ⟨rfl, rfl⟩
    go_wp2
    try simp only [Exit.inBlock, Exit.then]
    exact bodyPost_ret (results_cell_row rfl _ _ (w.heap.size + 1) 39 _ (0, 0) _ rfl (heap_two _ _ _) Tryd.underlying39 rfl infoItem) rfl ⟨by rw [HV.out]; simp [It.cs, itemOf, ← HKK.out, zeroO], ((Below.refl _ w).alloc (Nat.le_refl _) _).alloc (by simp) _⟩
  · go_wp2_with fail
    have hB : Below w.heap.size w ((w.alloc (.cells #[.int .i64 k, .int .i64 ep, .int .i64 ta, .int .i64 ok, .int .i64 op, .int .u8 oc, .int .i64 ol, .int .i64 os] 39)).alloc (.cells #[.int .i64 0, .int .i64 0, .int .i64 0, .int .i64 0, .int .i64 0, .int .u8 0, .int .i64 0, .int .i64 0] 39)) := ((Below.refl _ w).alloc (Nat.le_refl _) _).alloc (by simp) _
    have hM : ItemAt ((w.alloc (.cells #[.int .i64 k, .int .i64 ep, .int .i64 ta, .int .i64 ok, .int .i64 op, .int .u8 oc, .int .i64 ol, .int .i64 os] 39)).alloc (.cells #[.int .i64 0, .int .i64 0, .int .i64 0, .int .i64 0, .int .i64 0, .int .u8 0, .int .i64 0, .int .i64 0] 39)) (w.heap.size + 1) zeroI := heap_two _ _ _
    have hX : ItemAt ((w.alloc (.cells #[.int .i64 k, .int .i64 ep, .int .i64 ta, .int .i64 ok, .int .i64 op, .int .u8 oc, .int .i64 ol, .int .i64 os] 39)).alloc (.cells #[.int .i64 0, .int .i64 0, .int .i64 0, .int .i64 0, .int .i64 0, .int .u8 0, .int .i64 0, .int .i64 0] 39)) w.heap.size ⟨k, ep, ta, ⟨ok, op, oc, ol, os⟩⟩ := heap_one _ _ _
    generalize ((w.alloc (.cells #[.int .i64 k, .int .i64 ep, .int .i64 ta, .int .i64 ok, .int .i64 op, .int .u8 oc, .int .i64 ol, .int .i64 os] 39)).alloc (.cells #[.int .i64 0, .int .i64 0, .int .i64 0, .int .i64 0, .int .i64 0, .int .u8 0, .int .i64 0, .int .i64 0] 39)) = w1 at hB hM hX ⊢
    have HB := Lib.hid hB; have HM := Lib.hid hM
    obtain ⟨x0, x1, x2, x3, x4, x5, x6, x7⟩ := item_all hX
    obtain ⟨z0, z1, z2, z3, z4, z5, z6, z7⟩ := item_all hM
    have hzf := hM.frozen
    have hgl := hM.lt
    have hgl0 : w.heap.size < w1.heap.size := by omega
    have his : IS w1 w.heap.size ta ok op oc ol os := ⟨x2, x3, x4, x5, x6, x7⟩
    have hne : w.heap.size ≠ w.heap.size + 1 := by omega
    obtain ⟨tt, htt⟩ : ∃ tt, tt = within ta 0 4096 := ⟨_, rfl⟩
    have hwt : ∀ X : World, Calls Tryd.prog 24 #[.int .i64 ta, .int .i64 0, .int .i64 4096] X fun e w' => e = .returned (.int .i64 tt) ∧ X = w' := fun X => by rw [htt]; exact within_any ta 0 4096 X h2.1 h2.2 (by omega) (by omega) (by omega)
    have HWT := Lib.hid hwt; have HTT := Lib.hid htt
    clear hB hM hX x0 x1 htt hwt
    go_region_held3 (fun w' => IS w' w.heap.size ta ok op oc ol os) (with_reducible first | exact his | exact isDrew his | exact isDrew (isDrew his) | exact isKeep (isKeep his _) _ | exact isDrew (isKeep (isKeep his _) _) | exact isDrew (isDrew (isKeep (isKeep his _) _)) | exact isKeep (isKeep (isChain his hne _ _ _ _ _ _ _ _) _) _ | exact isDrew (isKeep (isKeep (isChain his hne _ _ _ _ _ _ _ _) _) _) | exact isDrew (isDrew (isKeep (isKeep (isChain his hne _ _ _ _ _ _ _ _) _) _)))
      (first
       | ((with_reducible refine (HWT.out _).mono ?_); rintro e w' ⟨rfl, rfl⟩)
       | ((with_reducible refine (HOP.out _).mono ?_); rintro e w' ⟨rfl, D, E, rfl⟩))
    have hch := itemChain (m' := ⟨2, 0, tt, ⟨qk, qp, qc, ql, qs⟩⟩) HM.out (Value.int .i64 2) (Value.int .i64 0) (Value.int .i64 tt) (Value.int .i64 qk) (Value.int .i64 qp) (Value.int .u8 qc) (Value.int .i64 ql) (Value.int .i64 qs) rfl (by simp [Value.oneCell']) (B := w.heap.size) (by omega) HB.out
    have HC1 := Lib.hid ((hch.1.keep ((Below.refl _ _).alloc (Nat.le_refl _) D)).keep ((Below.refl _ _).alloc (Nat.le_refl _) E)).drew
    have hb1 := hch.2.alloc hch.2.size D
    have HC2 := Lib.hid ((hb1.alloc hb1.size E).drew)
    clear hch hb1 z0 z1 z2 z3 z4 z5 z6 z7 hzf
    go_wp2_with fail
    exact bodyPost_ret (results_cell_row rfl _ _ (w.heap.size + 1) 39 _ (0, 0) _ rfl HC1.out Tryd.underlying39 rfl infoItem) rfl ⟨by rw [HV.out]; simp [It.cs, itemOf, ← HKK.out, ← HTT.out, HO.out], HC2.out⟩
end Go.Proofs.YtoophonmonojcaaDoor

/- The walk of jotterlaw06.WireItems: it answers true. -/
namespace Go.Proofs.YtoophonmonojcaaDoor
open Go.RowKit
attribute [-go_sem] run_eql_struct

/-- What the items' walks ask of the listed variables. -/
structure EnvI (w : World) : Prop where
  siz : Sizes w
  shp : ShapesI w
  fld : FieldsI w
theorem EnvI.step {w w' : World} (h : EnvI w) (hb : Below w.heap.size w w') : EnvI w' := ⟨h.siz.step hb, h.shp.step hb, h.fld.step hb⟩
theorem fineI_ch {x : It} (h : x.fine) : 0 ≤ x.op.ch ∧ x.op.ch ≤ 255 := by
  rcases h with ⟨_, _, _, _, h⟩ | ⟨_, _, _, _, h⟩
  · rw [h]; simp [zeroO]
  · exact O.fine_ch h
theorem fineI_ok {x : It} (h : x.fine) : x.ok := by
  obtain ⟨k, ep, ta, ⟨ok, op, oc, ol, os⟩⟩ := x
  simp only [It.fine, O.fine, zeroO, O.mk.injEq] at h
  simp only [It.ok, O.ok, i64]
  rcases h with h | h <;> omega
theorem encI_len {x : It} (h : x.fine) : 2 ≤ (encI x).length ∧ (encI x).length ≤ 9 := by
  obtain ⟨k, _, e, h1, h2⟩ := fineI_kind h
  unfold encI
  rw [e, layI_length _ k h1 h2]
  have hc : k = 1 ∨ k = 2 := by omega
  rcases hc with rfl | rfl <;> decide
/-- An item that may stand is encoded. -/
theorem encodeItem_fine (x : It) (w : World) (h : x.fine) (hv : EnvI w) : Calls Tryd.prog 26 #[.agg x.cs] w fun e w' =>
    ∃ g, e = .returned (.tuple #[.slice (some ⟨g, 0, none⟩) (encI x).length (encI x).length, .nilIface]) ∧ w.heap.size ≤ g ∧ Row w' g (encI x) ∧ Below w.heap.size w w' := by
  obtain ⟨k, hk, _, h1, h2⟩ := fineI_kind h
  have hG := (goodI_fine k x hk h1 h2).2 h
  have hch := fineI_ch h
  have key : Calls Tryd.prog 26 #[.agg x.cs] w (EncItemPost w k x) := by
    obtain ⟨mk, ep, ta, ⟨ok, op, oc, ol, os⟩⟩ := x
    dsimp only at hk hch
    subst hk
    exact encodeItem_core k ep ta ok op oc ol os w _ (fun e w' h => h) h1 h2 hch hv.siz hv.shp hv.fld
  refine key.mono ?_
  rintro e w' (⟨_, hx⟩ | ⟨j, g, hj, _, hb, _⟩)
  · exact hx
  · have hj' : j < fieldsI.length := hj
    have hm : fieldsI.getD j 0 ∈ fieldsI := by
      rw [List.getD_eq_getElem?_getD, List.getElem?_eq_getElem hj']
      exact List.getElem_mem hj'
    rw [hG _ hm] at hb; cases hb
theorem decodeItem_inr (ao : Option Addr) (n cap : Nat) (b : List UInt8) (x : It) (w : World) (h : itemDec b = .inr x) (hl : b.length = n) (hr : Rd w ao b) (hb : n ≤ 9223372036854775807) (hv : EnvI w) :
    Calls Tryd.prog 31 #[.slice ao n cap] w fun e w' => e = .returned (.tuple #[.agg x.cs, .nilIface]) ∧ Below w.heap.size w w' := by
  refine (decodeItem_any ao n cap b w hl hr hb hv.siz hv.shp).mono fun e w' hp => ?_
  unfold DecItemPost at hp
  rw [h] at hp
  exact hp
theorem decodeItem_inl (ao : Option Addr) (n cap : Nat) (b : List UInt8) (c a : Int) (w : World) (h : itemDec b = .inl (c, a)) (hl : b.length = n) (hr : Rd w ao b) (hb : n ≤ 9223372036854775807) (hv : EnvI w) :
    Calls Tryd.prog 31 #[.slice ao n cap] w fun e w' => ∃ g, e = .returned (.tuple #[.agg zeroI.cs, faultV g]) ∧ NewFault w a c g w' := by
  refine (decodeItem_any ao n cap b w hl hr hb hv.siz hv.shp).mono fun e w' hp => ?_
  unfold DecItemPost at hp
  rw [h] at hp
  exact hp
abbrev IC (w : World) (g : Nat) (k ep ta ok op oc ol os : Int) : Prop := w.cell? ⟨g, 0, none⟩ = some (.int .i64 k) ∧ w.cell? ⟨g, 1, none⟩ = some (.int .i64 ep) ∧ w.cell? ⟨g, 2, none⟩ = some (.int .i64 ta) ∧ w.cell? ⟨g, 3, none⟩ = some (.int .i64 ok) ∧ w.cell? ⟨g, 4, none⟩ = some (.int .i64 op) ∧ w.cell? ⟨g, 5, none⟩ = some (.int .u8 oc) ∧ w.cell? ⟨g, 6, none⟩ = some (.int .i64 ol) ∧ w.cell? ⟨g, 7, none⟩ = some (.int .i64 os)
theorem icDrew {w : World} {g : Nat} {k ep ta ok op oc ol os : Int} (h : IC w g k ep ta ok op oc ol os) : IC w.drew g k ep ta ok op oc ol os := h
theorem icTail {w X w' : World} {g : Nat} {k ep ta ok op oc ol os : Int} (h : IC w g k ep ta ok op oc ol os) (hb : Below X.heap.size X w') (e4 : X.heap = w.heap) : IC w' g k ep ta ok op oc ol os := by
  obtain ⟨h0, h1, h2, h3, h4, h5, h6, h7⟩ := h
  exact ⟨cell_tail h0 hb e4, cell_tail h1 hb e4, cell_tail h2 hb e4, cell_tail h3 hb e4, cell_tail h4 hb e4, cell_tail h5 hb e4, cell_tail h6 hb e4, cell_tail h7 hb e4⟩

set_option maxRecDepth 100000 in
set_option maxHeartbeats 4000000 in
theorem oneItem_any (ao : Option Addr) (n cap : Nat) (b : List UInt8) (W : World) (hl : b.length = n) (hr : Rd W ao b) (hb : n ≤ 9223372036854775807) (hE : EType W) (hv : EnvI W) :
    Calls Tryd.prog 54 #[.slice ao n cap] W (RetV W (.bool true)) := by
  have HV := Lib.hid hv; have HL := Lib.hid hl; have HR := Lib.hid hr; have HE := Lib.hid hE
  clear hv hl hr hE
  go_enter Tryd.func54, Tryd.ntmps54
  go_wp2_with fail
  rcases hd : itemDec b with ⟨c, a⟩ | x
  · have herr := itemDec_err hd
    have HD := Lib.hid hd
    clear hd
    refine (decodeItem_inl ao n cap b c a _ HD.out HL.out HR.out hb HV.out).mono ?_
    rintro e w1 ⟨g1, rfl, hN1⟩
    have HB1 := Lib.hid hN1.2.2; have HG1 := Lib.hid hN1.2.1
    have hg1l := heap_lt hN1.2.1
    clear hN1
    have HZ := Lib.hid (show ItemAt (w1.alloc (.cells #[.int .i64 0, .int .i64 0, .int .i64 0, .int .i64 0, .int .i64 0, .int .u8 0, .int .i64 0, .int .i64 0] 39)) w1.heap.size zeroI from heap_alloc_new _ _)
    go_wp2_with ((with_reducible refine wpList_storeItem2 rfl (.tmp 3) (.tmp 12) rfl rfl w1.heap.size zeroI zeroI rfl rfl HZ.out ?_); intro w2 hm2 ht2 ho2; have HB2 := Lib.hid (ht2 _ _ HB1.out.size (HB1.out.alloc HB1.out.size _)); have HG2 := Lib.hid (show w2.heap[g1]? = some (faultObj a c) from (ho2 g1 (by omega)).trans ((heap_push w1 _ _ hg1l).trans HG1.out)); have HM2 := Lib.hid hm2; clear hm2 ht2 ho2)
    refine (code_fault g1 a c _ HG2.out (HE.out.step HB2.out)).mono ?_
    rintro e w3 ⟨rfl, hb3⟩
    have HB3 := Lib.hid (HB2.out.trans (hb3.mono HB2.out.size)); have HG3 := Lib.hid ((hb3.block g1 (heap_lt HG2.out)).trans HG2.out); have HM3 := Lib.hid (HM2.out.keep hb3)
    clear hb3
    go_wp2_with fail
    refine (place_fault g1 a c _ HG3.out (HE.out.step HB3.out)).mono ?_
    rintro e w4 ⟨rfl, hb4⟩
    have HB4 := Lib.hid (HB3.out.trans (hb4.mono HB3.out.size)); have HM4 := Lib.hid (HM3.out.keep hb4)
    clear hb4
    have heq : ∀ w, (binOp .eql 39 (.agg zeroI.cs) (.agg #[.int .i64 0, .int .i64 0, .int .i64 0, .int .i64 0, .int .i64 0, .int .u8 0, .int .i64 0, .int .i64 0])).run Tryd.prog w = .ok (.bool true) w := fun w => eql_item_same zeroI w
    obtain ⟨e1, e2, e3, e4⟩ := herr
    rw [HL.out] at e4
    go_wp2_with (with_reducible refine wpList_loadItem rfl (.tmp 3) rfl w1.heap.size zeroI rfl HM4.out ?_)
    go_ret
    exact ⟨rfl, HB4.out⟩
  · obtain ⟨hfine, henc⟩ := itemDec_ok hd
    have hok := fineI_ok hfine
    have hlen := encI_len hfine
    have HD := Lib.hid hd; have HF := Lib.hid hfine; have HENC := Lib.hid henc
    rw [henc, HL.out] at hlen
    clear hd
    refine (decodeItem_inr ao n cap b x _ HD.out HL.out HR.out hb HV.out).mono ?_
    rintro e w1 ⟨rfl, hb1⟩
    have HB1 := Lib.hid hb1
    clear hb1
    have HZ := Lib.hid (show ItemAt (w1.alloc (.cells #[.int .i64 0, .int .i64 0, .int .i64 0, .int .i64 0, .int .i64 0, .int .u8 0, .int .i64 0, .int .i64 0] 39)) w1.heap.size zeroI from heap_alloc_new _ _)
    go_wp2_with (first
      | ((with_reducible refine wpList_storeItem2 rfl (.tmp 3) (.tmp 12) rfl rfl w1.heap.size zeroI x rfl rfl HZ.out ?_); intro w2 hm2 ht2 ho2; have HB2 := Lib.hid (ht2 _ _ HB1.out.size (HB1.out.alloc HB1.out.size _)); have HM2 := Lib.hid hm2; clear hm2 ht2 ho2)
      | (with_reducible refine wpList_loadItem rfl (.tmp 3) rfl w1.heap.size x rfl HM2.out ?_))
    refine (encodeItem_fine x _ HF.out (HV.out.step HB2.out)).mono ?_
    rintro e w3 ⟨g3, rfl, hg3, hr3, hb3⟩
    have HB3 := Lib.hid (HB2.out.trans (hb3.mono HB2.out.size)); have HM3 := Lib.hid (HM2.out.keep hb3); have HR3 := Lib.hid hr3
    clear hg3 hr3 hb3
    rw [HENC.out, HL.out]
    have hceq : ∀ X : World, Below w3.heap.size w3 X → Calls Tryd.prog 51 #[.slice (some ⟨g3, 0, none⟩) n n, .slice ao n cap] X (RetQ X (.bool true)) := fun X hX => by
      have h := law06_eq_any (some ⟨g3, 0, none⟩) ao n n n cap (encI x) b X (by rw [HENC.out, HL.out]) HL.out (HR3.out.rd.step hX) ((HR.out.step HB3.out).step hX) (by omega)
      rw [HENC.out] at h
      simpa using h
    have hmess : ∀ w, Calls Tryd.prog 27 #[.agg x.cs] w (RetV w (.agg x.cs)) := fun w => by
      have h := item_any x w hok
      rw [itemOf_of HF.out] at h
      exact h
    have hq := eql_item_same x
    have hM := HM3.out
    clear hfine henc hok
    obtain ⟨k, ep, ta, ⟨ok, op, oc, ol, os⟩⟩ := x
    have hms : IC w3 w1.heap.size k ep ta ok op oc ol os := item_all hM
    simp only [It.cs] at hq hmess
    have HCEQ := Lib.hid hceq; have HME := Lib.hid hmess
    clear hM hceq hmess
    have hbel := Below.refl w3.heap.size w3
    have hgf := Nat.le_refl w3.heap.size
    go_wp2_with fail
    go_region_held3 (fun w' => IC w' w1.heap.size k ep ta ok op oc ol os) (with_reducible first | exact hms | exact icDrew hms | exact icDrew (icDrew hms) | exact icDrew (icDrew (icDrew hms)))
      (first
       | ((with_reducible refine (HCEQ.out _ ?_).mono ?_); (· first | exact hbel | exact hbel.drew | exact hbel.drew.drew); intro e w' hqq; obtain ⟨rfl, hb2⟩ := hqq.below; have hms := icTail hms hb2 rfl; have hbel := below_tail hbel hb2 rfl rfl rfl rfl hgf; have hgf := Nat.le_trans hgf hb2.size)
       | ((with_reducible refine (HME.out _).mono ?_); rintro e w' ⟨rfl, hb2⟩; have hms := icTail hms hb2 rfl; have hbel := below_tail hbel hb2 rfl rfl rfl rfl hgf; have hgf := Nat.le_trans hgf hb2.size))
    all_goals
      go_wp2_with fail
      go_ret
      have hfin := HB3.out.trans (hbel.mono HB3.out.size)
      first | exact ⟨rfl, hfin⟩ | exact ⟨rfl, hfin.drew⟩ | exact ⟨rfl, hfin.drew.drew⟩

set_option maxRecDepth 100000 in
set_option maxHeartbeats 2000000 in
theorem wireItems_any (ao : Option Addr) (n cap : Nat) (b : List UInt8) (x : It) (W : World) (hl : b.length = n) (hr : Rd W ao b) (_hcap : n ≤ cap) (_hz : ao = none → cap = 0) (hb : n ≤ 9223372036854775807) (hx : x.ok) (hE : EType W) (hS : Sizes W) (hSI : ShapesI W) (hFI : FieldsI W) :
    Calls Tryd.prog 13 #[.slice ao n cap, x.v] W (RetV W (.bool true)) := by
  have hv : EnvI W := ⟨hS, hSI, hFI⟩
  have hit : ∀ w, Calls Tryd.prog 27 #[.agg x.cs] w (RetV w (.agg (itemOf x).cs)) := fun w => item_any x w hx
  obtain ⟨y, hy⟩ : ∃ y, y = itemOf x := ⟨_, rfl⟩
  have hfine : y.fine := by rw [hy]; exact itemOf_fine x
  rw [← hy] at hit
  have HIT := Lib.hid hit; have HF := Lib.hid hfine; have HV := Lib.hid hv; have HL := Lib.hid hl; have HR := Lib.hid hr; have HE := Lib.hid hE
  clear hS hSI hFI hE hv hl hr hit hfine hy hx
  obtain ⟨k, ep, ta, ⟨ok, op, oc, ol, os⟩⟩ := x
  rw [It.v_cs]
  unfold It.cs
  dsimp only
  go_enter Tryd.func13, Tryd.ntmps13
  go_wp2_with fail
  have hM0 : ItemAt (W.alloc (.cells #[.int .i64 k, .int .i64 ep, .int .i64 ta, .int .i64 ok, .int .i64 op, .int .u8 oc, .int .i64 ol, .int .i64 os] 39)) W.heap.size ⟨k, ep, ta, ⟨ok, op, oc, ol, os⟩⟩ := heap_alloc_new _ _
  have hb0 : Below W.heap.size W (W.alloc (.cells #[.int .i64 k, .int .i64 ep, .int .i64 ta, .int .i64 ok, .int .i64 op, .int .u8 oc, .int .i64 ol, .int .i64 os] 39)) := (Below.refl _ W).alloc (Nat.le_refl _) _
  refine (oneItem_any ao n cap b _ HL.out (HR.out.step hb0) hb (HE.out.step hb0) (HV.out.step hb0)).mono ?_
  rintro e w1 ⟨rfl, hb1⟩
  have HM1 := Lib.hid (hM0.keep hb1); have HB1 := Lib.hid (hb0.trans (hb1.mono hb0.size))
  clear hM0 hb0 hb1
  go_wp2_with (with_reducible refine wpList_loadItem rfl (.tmp 3) rfl W.heap.size _ rfl HM1.out ?_)
  refine (HIT.out _).mono ?_
  rintro e w2 ⟨rfl, hb2⟩
  have HM2 := Lib.hid (HM1.out.keep hb2); have HB2 := Lib.hid (HB1.out.trans (hb2.mono HB1.out.size))
  clear hb2
  go_wp2_with (first
    | ((with_reducible refine wpList_storeItem2 rfl (.tmp 3) (.tmp 12) rfl rfl W.heap.size _ y rfl rfl HM2.out ?_); intro w3 hm3 ht3 ho3; have HM3 := Lib.hid hm3; have HB3 := Lib.hid (ht3 _ _ (Nat.le_refl _) HB2.out); clear hm3 ht3 ho3)
    | (with_reducible refine wpList_loadItem rfl (.tmp 3) rfl W.heap.size y rfl HM3.out ?_))
  refine (encodeItem_fine y _ HF.out (HV.out.step HB3.out)).mono ?_
  rintro e w4 ⟨g4, rfl, hg4, hr4, hb4⟩
  have HM4 := Lib.hid (HM3.out.keep hb4); have HB4 := Lib.hid (HB3.out.trans (hb4.mono HB3.out.size)); have HR4 := Lib.hid hr4
  clear hg4 hr4 hb4
  have hlen := encI_len HF.out
  obtain ⟨N, hN⟩ : ∃ N, N = (encI y).length := ⟨_, rfl⟩
  rw [← hN] at hlen ⊢
  have HN := Lib.hid hN
  clear hN
  go_wp2_with fail
  refine (decodeItem_inr (some ⟨g4, 0, none⟩) N N (encI y) y _ (itemDec_enc HF.out) HN.out.symm HR4.out.rd (by omega) (HV.out.step HB4.out)).mono ?_
  rintro e w5 ⟨rfl, hb5⟩
  have HM5 := Lib.hid (HM4.out.keep hb5); have HB5 := Lib.hid (HB4.out.trans (hb5.mono HB4.out.size))
  clear hb5
  have HZ := Lib.hid (show ItemAt (w5.alloc (.cells #[.int .i64 0, .int .i64 0, .int .i64 0, .int .i64 0, .int .i64 0, .int .u8 0, .int .i64 0, .int .i64 0] 39)) w5.heap.size zeroI from heap_alloc_new _ _)
  have heq := eql_item_same y
  go_wp2_with (first
    | ((with_reducible refine wpList_storeItem2 rfl (.tmp 7) (.tmp 23) rfl rfl w5.heap.size zeroI y rfl rfl HZ.out ?_); intro w6 hm6 ht6 ho6; have HM6 := Lib.hid hm6; have HB6 := Lib.hid (ht6 _ _ HB5.out.size (HB5.out.alloc HB5.out.size _)); have HM7 := Lib.hid (show ItemAt w6 W.heap.size y from (ho6 W.heap.size (by have := HM5.out.lt; omega)).trans ((heap_push w5 _ _ HM5.out.lt).trans HM5.out)); clear hm6 ht6 ho6)
    | (with_reducible refine wpList_loadItemG (.tmp 7) rfl w5.heap.size y rfl HM6.out (by kernel_rfl) ?_)
    | (with_reducible refine wpList_loadItemG (.tmp 3) rfl W.heap.size y rfl HM7.out (by kernel_rfl) ?_))
  go_ret
  exact ⟨rfl, HB6.out⟩
end Go.Proofs.YtoophonmonojcaaDoor

/- jotterlaw06's fixedItem answers true. -/
namespace Go.Proofs.YtoophonmonojcaaDoor
open Go.RowKit
attribute [-go_sem] run_eql_struct

def item17 : It := ⟨1, 7, 0, zeroO⟩
theorem item17_fine : item17.fine := .inl ⟨rfl, by decide, by decide, rfl, rfl⟩
theorem item17_enc : encI item17 = [1, 7] := by decide +kernel

set_option maxRecDepth 100000 in
set_option maxHeartbeats 2000000 in
theorem fixedItem_any (W : World) (hv : EnvI W) : Calls Tryd.prog 29 #[] W (RetV W (.bool true)) := by
  have HV := Lib.hid hv
  have heq := eql_item_same item17
  clear hv
  go_enter Tryd.func29, Tryd.ntmps29
  go_wp2_with fail
  have hM0 : ItemAt (W.alloc (.cells #[.int .i64 1, .int .i64 7, .int .i64 0, .int .i64 0, .int .i64 0, .int .u8 0, .int .i64 0, .int .i64 0] 39)) W.heap.size item17 := heap_alloc_new _ _
  have hb0 : Below W.heap.size W (W.alloc (.cells #[.int .i64 1, .int .i64 7, .int .i64 0, .int .i64 0, .int .i64 0, .int .u8 0, .int .i64 0, .int .i64 0] 39)) := (Below.refl _ W).alloc (Nat.le_refl _) _
  refine (encodeItem_fine item17 _ item17_fine (HV.out.step hb0)).mono ?_
  rintro e w1 ⟨g1, rfl, hg1, hr1, hb1⟩
  rw [item17_enc] at hr1 ⊢
  have HM1 := Lib.hid (hM0.keep hb1); have HB1 := Lib.hid (hb0.trans (hb1.mono hb0.size)); have HR1 := Lib.hid hr1
  clear hM0 hb0 hb1 hr1 hg1
  simp only [List.length_cons, List.length_nil]
  go_wp2_with fail
  have hrow : Row (w1.alloc (.cells #[.int .u8 1, .int .u8 7] 5)) w1.heap.size [1, 7] := heap_alloc_new _ _
  have hb1 : Below w1.heap.size w1 (w1.alloc (.cells #[.int .u8 1, .int .u8 7] 5)) := (Below.refl _ w1).alloc (Nat.le_refl _) _
  refine (law06_eq_any (some ⟨g1, 0, none⟩) (some ⟨w1.heap.size, 0, none⟩) 2 2 2 2 [1, 7] [1, 7] _ rfl rfl (HR1.out.rd.step hb1) hrow.rd (by omega)).mono ?_
  intro e w2 hq
  obtain ⟨rfl, hb2⟩ := hq.below
  replace hb2 := hb1.trans (hb2.mono hb1.size)
  have HM2 := Lib.hid (HM1.out.keep hb2); have HB2 := Lib.hid (HB1.out.trans (hb2.mono HB1.out.size)); have HR2 := Lib.hid (HR1.out.rd.step hb2)
  clear hrow hb1 hq hb2
  rw [beq_self_eq_true]
  go_wp2_with fail
  refine (decodeItem_inr (some ⟨g1, 0, none⟩) 2 2 [1, 7] item17 _ (by rw [← item17_enc]; exact itemDec_enc item17_fine) rfl HR2.out (by omega) (HV.out.step HB2.out)).mono ?_
  rintro e w3 ⟨rfl, hb3⟩
  have HM3 := Lib.hid (HM2.out.keep hb3); have HB3 := Lib.hid (HB2.out.trans (hb3.mono HB2.out.size))
  clear hb3
  have HZ := Lib.hid (show ItemAt (w3.alloc (.cells #[.int .i64 0, .int .i64 0, .int .i64 0, .int .i64 0, .int .i64 0, .int .u8 0, .int .i64 0, .int .i64 0] 39)) w3.heap.size zeroI from heap_alloc_new _ _)
  go_wp2_with (first
    | ((with_reducible refine wpList_storeItem2 rfl (.tmp 4) (.tmp 22) rfl rfl w3.heap.size zeroI item17 rfl rfl HZ.out ?_); intro w6 hm6 ht6 ho6; have HM6 := Lib.hid hm6; have HB6 := Lib.hid (ht6 _ _ HB3.out.size (HB3.out.alloc HB3.out.size _)); have HM7 := Lib.hid (show ItemAt w6 W.heap.size item17 from (ho6 W.heap.size (by have := HM3.out.lt; omega)).trans ((heap_push w3 _ _ HM3.out.lt).trans HM3.out)); clear hm6 ht6 ho6)
    | (with_reducible refine wpList_loadItemG (.tmp 4) rfl w3.heap.size item17 rfl HM6.out (by kernel_rfl) ?_)
    | (with_reducible refine wpList_loadItemG (.tmp 1) rfl W.heap.size item17 rfl HM7.out (by kernel_rfl) ?_))
  go_ret
  exact ⟨rfl, HB6.out⟩
end Go.Proofs.YtoophonmonojcaaDoor

/- A []api.Item argument: what is read of it, and opened for the walks. -/
namespace Go.Proofs.YtoophonmonojcaaDoor
open Go.ChangeShapes Go.WideShapes Go.ChangeAt Go.RowKit Go.Deep

/-- The items' cells lie at the slice's address, eight to an item. -/
def RdItems (w : World) (ao : Option Addr) (xs : List It) : Prop := ∀ i, i < xs.length → ∃ b off, ao = some ⟨b, off, none⟩ ∧ w.rangeAt b (off + i * 8) (xs.getD i zeroI).cells
theorem range_step {w w' : World} {b o : Nat} {cs : List Value} (h : w.rangeAt b o cs) (hb : Below w.heap.size w w') : w'.rangeAt b o cs := fun j v hv =>
  (hb.cell (p := ⟨b, o + j, none⟩) (block_lt (h j v hv))).trans (h j v hv)
theorem RdItems.step {w w' : World} {ao : Option Addr} {xs : List It} (h : RdItems w ao xs) (hb : Below w.heap.size w w') : RdItems w' ao xs := by
  intro i hi
  obtain ⟨b, off, e, hc⟩ := h i hi
  exact ⟨b, off, e, range_step hc hb⟩
theorem RdItems.some {w : World} {ao : Option Addr} {xs : List It} (h : RdItems w ao xs) (hp : 0 < xs.length) :
    ∃ b off, ao = Option.some ⟨b, off, none⟩ ∧ b < w.heap.size ∧ ∀ i, i < xs.length → w.rangeAt b (off + i * 8) (xs.getD i zeroI).cells := by
  obtain ⟨b, off, e, hc⟩ := h 0 hp
  refine ⟨b, off, e, block_lt (hc 0 _ rfl), fun i hi => ?_⟩
  obtain ⟨b', off', e', hc'⟩ := h i hi
  rw [e] at e'
  cases e'
  exact hc'
theorem items_open {H : Type} {enc : TypeId × Value → H} {W : World} {v : Value} {d : DataW H} {p : List MemPlace} (h : DataW.Trod enc Tryd.prog W 0 (fun _ => true) true 35 v d p) (hv : ∃ a n c, v = .slice a n c) :
    ∃ ao n cap xs, v = .slice ao n cap ∧ xs.length = n ∧ (RdItems W ao xs ∧ ∀ x ∈ xs, x.ok) ∧ n + 1 ≤ Rows.uptoBulk d := by
  obtain ⟨a0, n0, c0, rfl⟩ := hv
  obtain ⟨fuel, hf⟩ := h
  rcases open_slice Tryd.underlying35 hf with ⟨hcs, hx⟩ | ⟨a, len, cap, m, n, D, Pl, hcs, _, hl, hm, hmm, hx, hr⟩
  · simp [Value.cells] at hcs
    obtain ⟨rfl, rfl, rfl⟩ := hcs
    exact ⟨none, 0, 0, [], rfl, rfl, ⟨fun i hi => by simp at hi, fun x hx => by simp at hx⟩, by have := bulk_one d; omega⟩
  · simp [Value.cells] at hcs
    obtain ⟨rfl, rfl, rfl⟩ := hcs
    simp only [Prod.mk.injEq] at hx
    obtain ⟨rfl, _⟩ := hx
    simp only [if_true] at hmm
    have key : ∀ i, i < m → ∃ x : It, W.cells? 0 (a.add (i * 8)) 8 = some x.cells ∧ x.ok := by
      intro i hi
      obtain ⟨cs', h1, h2⟩ := hr i hi
      obtain ⟨x, rfl, hx⟩ := item_cells h2
      rw [cellsItem] at h1
      exact ⟨x, h1, hx⟩
    have : Inhabited It := ⟨zeroI⟩
    obtain ⟨f, hf⟩ := choose_lt key
    refine ⟨some a, n0, c0, (List.range n0).map f, rfl, by simp, ⟨?_, ?_⟩, ?_⟩
    · intro i hi
      simp only [List.length_map, List.length_range] at hi
      obtain ⟨_, _, h0⟩ := World.cells?_some (hf 0 (by omega)).1
      have hs := spot_none (h0 0 (by omega))
      simp only [Nat.zero_mul] at hs
      have hz : (a.add 0).add 0 = a := by simp [Addr.add]
      rw [hz] at hs
      refine ⟨a.block, a.off, by rw [← hs], fun j v hv => ?_⟩
      obtain ⟨_, hl8, hi8⟩ := World.cells?_some (hf i (by omega)).1
      have hg : ((List.range n0).map f).getD i zeroI = f i := by simp [List.getD_eq_getElem?_getD, hi]
      rw [hg] at hv
      have hj : j < 8 := by have := (List.getElem?_eq_some_iff.1 hv).1; omega
      have := hi8 j hj
      rw [hs, add_plain, add_plain] at this
      rw [this, hv]
    · intro x hx
      obtain ⟨r, hr', rfl⟩ := List.mem_map.1 hx
      exact (hf r (by have := List.mem_range.1 hr'; omega)).2
    · rw [← bulk_slice]
      have := bulk_length ((List.range n0).map D)
      simp only [List.length_map, List.length_range] at this
      omega
end Go.Proofs.YtoophonmonojcaaDoor

/- The walk of jotterlaw03.WalPrefix: it answers true. -/
namespace Go.Proofs.YtoophonmonojcaaDoor
open Go.RowKit

/-- The shape of a list of bytes of the call's own: nil, or a row's head. -/
theorem Own.cases {w : World} {B : Nat} {v : Value} {l : List UInt8} (h : Own w B v l) : (v = .slice none 0 0 ∧ l = []) ∨ ∃ g cap, v = .slice (some ⟨g, 0, none⟩) l.length cap ∧ l.length ≤ cap ∧ cap ≤ maxLen ∧ Rd w (some ⟨g, 0, none⟩) l ∧ B ≤ g ∧ g < w.heap.size := by
  obtain ⟨ao, cap, rfl, h1, h2, h3, h4, h5, h6⟩ := h.shape
  cases ao with
  | none =>
    have := h5 rfl
    subst this
    have := h.rd.2.2.2.2 rfl
    subst this
    exact .inl ⟨rfl, rfl⟩
  | some a =>
    obtain ⟨g, rfl⟩ := h6 a rfl
    exact .inr ⟨g, cap, rfl, h1, h2, h3, (h4 _ rfl).1, (h4 _ rfl).2⟩
theorem joined_empty {ps : List (List UInt8)} (hf : Fits ps) (h : joined ps = []) : ps = [] := by
  cases ps with
  | nil => rfl
  | cons p t => rw [joined_cons] at h; have := congrArg List.length h; simp [frame_length] at this

set_option maxRecDepth 100000 in
set_option maxHeartbeats 2000000 in
theorem walPrefix_any (ao : Option Addr) (n cap : Nat) (ps : List (List UInt8)) (k : Int) (w : World) (hl : ps.length = n) (hr : RdRows w ao ps) (hb : n ≤ 1048576) (hk1 : -9223372036854775808 ≤ k) (hk2 : k ≤ 9223372036854775807) (ht : Tab w) (hE : EType w) :
    Calls Tryd.prog 8 #[.slice ao n cap, .int .i64 k] w (RetV w (.bool true)) := by
  have HL := Lib.hid hl; have HR := Lib.hid hr; have HT := Lib.hid ht; have HE := Lib.hid hE
  clear hl hr ht hE
  go_enter Tryd.func8, Tryd.ntmps8
  go_wp2_with fail
  refine (fixed_any _ HT.out).mono ?_
  rintro e w0 ⟨rfl, hb0⟩
  have HB0 := Lib.hid hb0; clear hb0
  go_wp2_with fail
  refine (fit_any _ n cap ps _ HL.out (HR.out.step HB0.out) (by omega)).mono ?_
  rintro e w1 ⟨vf, rfl, hof, hb1⟩
  have HB1 := Lib.hid (HB0.out.trans (hb1.mono HB0.out.size)); clear hb1
  obtain ⟨af, cf, rfl, hfc, hrf, hnf⟩ := hof.read
  have hfk : (fits ps).length ≤ n := by have := fits_length ps; have := HL.out; omega
  obtain ⟨fs, hfs⟩ : ∃ fs, fs = fits ps := ⟨_, rfl⟩
  have hff : Fits fs := by rw [hfs]; exact fits_fits ps
  rw [← hfs] at hrf hfk hfc
  rw [← hfs]
  have hjl := joined_length_le fs hff
  have HFF := Lib.hid hff; have HRF := Lib.hid hrf
  clear hof hnf hff hrf hfs
  go_wp2_with fail
  refine (joined_any af _ cf fs _ rfl HRF.out HFF.out (by omega) (HT.out.step HB1.out)).mono ?_
  rintro e w2 ⟨vj, rfl, hoj, hb2⟩
  have HRF2 := Lib.hid (HRF.out.step hb2)
  have HB2 := Lib.hid (HB1.out.trans (hb2.mono HB1.out.size)); clear hb2
  obtain ⟨N, hN⟩ : ∃ N, N = (joined fs).length := ⟨_, rfl⟩
  rw [← hN] at hjl
  have hN0 := Int.emod_nonneg k (show ((N : Int) + 1) ≠ 0 by omega)
  have hN1 := Int.emod_lt_of_pos k (show (0 : Int) < (N : Int) + 1 by omega)
  obtain ⟨kk, hkk⟩ : ∃ kk : Nat, (kk : Int) = k % ((N : Int) + 1) := ⟨(k % ((N : Int) + 1)).toNat, by omega⟩
  have hkN : kk ≤ N := by omega
  clear hN0 hN1
  have HKK := Lib.hid hkk; have HN := Lib.hid hN; clear hkk hN
  have hoc := hoj.cases
  clear hoj
  rcases hoc with ⟨rfl, hj0⟩ | ⟨gj, cj, rfl, hjc, hjm, hrj, _, _⟩
  · have hN0 : N = 0 := by rw [HN.out, hj0]; rfl
    subst hN0
    obtain rfl := joined_empty HFF.out hj0
    obtain rfl : kk = 0 := by omega
    go_wp2_with fail
    refine (among_any k 1 _ hk1 hk2 (by omega) (by omega)).mono ?_
    rintro e w3 ⟨rfl, rfl⟩
    have hk0 : k % 1 = 0 := by omega
    rw [hk0]
    go_wp2_with fail
    refine (upTo_any af 0 cf [] 0 _ rfl HRF2.out HFF.out (by omega) (by omega)).mono ?_
    rintro e w4 ⟨i, at_, rfl, hw, rfl⟩
    obtain rfl : i = 0 := by have := hw.1; simpa using this
    obtain rfl : at_ = 0 := by have := hw.2.2.1; omega
    clear hw
    go_wp2_with fail
    refine (scan_any none 0 0 [] _ rfl (fun i hi => by simp at hi) (by omega) (by omega) (HT.out.step HB2.out)).mono ?_
    rintro e w5 ⟨vs, ev, rfl, hvs, hev, hb3⟩
    rw [scan_nil] at hvs hev
    rw [scan_nil]
    dsimp only at hvs hev
    have HB3 := Lib.hid (HB2.out.trans (hb3.mono HB2.out.size))
    have HRF3 := Lib.hid (HRF2.out.step hb3)
    clear hb3
    obtain rfl : ev = .nilIface := by rcases hev with ⟨h, _⟩ | ⟨h, _⟩; exact h; exact absurd rfl h
    clear hev
    obtain ⟨av, cv, rfl, hvc, hrv, _⟩ := hvs.read
    have HRV := Lib.hid hrv
    clear hvs hrv
    replace hvc : 0 ≤ cv := hvc
    rw [show ([] : List (List UInt8)).length = 0 from rfl]
    go_wp2_with fail
    refine (eqAll_any av af 0 cv 0 cf [] [] _ rfl rfl HRV.out HRF3.out (by omega) (fun p hp => by simp at hp)).mono ?_
    intro e w6 hq
    obtain ⟨rfl, hb4⟩ := hq.below
    have HB4 := Lib.hid (HB3.out.trans (hb4.mono HB3.out.size))
    clear hq
    rw [beq_self_eq_true]
    go_wp2
    go_ret
    exact ⟨rfl, HB4.out⟩
  · rw [← HN.out] at hjc
    rw [← HN.out]
    have HRJ := Lib.hid hrj; clear hrj
    go_wp2_with fail
    refine (among_any k ((N : Int) + 1) _ hk1 hk2 (by omega) (by omega)).mono ?_
    rintro e w3 ⟨rfl, rfl⟩
    rw [← HKK.out]
    go_wp2_with fail
    refine (upTo_any af _ cf fs kk _ rfl HRF2.out HFF.out (by omega) (by omega)).mono ?_
    rintro e w4 ⟨i, at_, rfl, hw, rfl⟩
    have hi := hw.1
    have hatk := hw.2.2.1
    have HSP := Lib.hid (scan_prefix HFF.out (by rw [← HN.out]; exact hkN) hw); clear hw
    have HKL : ((joined fs).take kk).length = kk := by rw [List.length_take, ← HN.out]; omega
    have HKL' := Lib.hid HKL; clear HKL
    go_wp2_with fail
    refine (scan_any (some ⟨gj, 0, none⟩) _ cj ((joined fs).take kk) _ HKL'.out (HRJ.out.take kk) (by omega) (by omega) (HT.out.step HB2.out)).mono ?_
    rintro e w5 ⟨vs, ev, rfl, hvs, hev, hb3⟩
    rw [HSP.out] at hvs hev
    rw [HSP.out]
    dsimp only at hvs hev
    have HB3 := Lib.hid (HB2.out.trans (hb3.mono HB2.out.size))
    have HRF3 := Lib.hid ((HRF2.out.take i).step hb3)
    clear hb3
    obtain ⟨av, cv, rfl, hvc, hrv, _⟩ := hvs.read
    have hpl : ∀ p ∈ fs.take i, p.length ≤ 140737488355328 := fun p hp => by have := ((fits_take HFF.out i) p hp).2; omega
    have hil : (fs.take i).length = i := by rw [List.length_take]; omega
    have HRV := Lib.hid hrv; have HPL := Lib.hid hpl
    clear hvs hrv hpl
    rw [hil] at hvc
    rw [hil]
    have HIL := Lib.hid hil; clear hil
    go_wp2_with fail
    refine (eqAll_any av af i cv i cf _ _ _ HIL.out HIL.out HRV.out HRF3.out (by omega) HPL.out).mono ?_
    intro e w6 hq
    obtain ⟨rfl, hb4⟩ := hq.below
    have HB4 := Lib.hid (HB3.out.trans (hb4.mono HB3.out.size))
    clear hq
    rw [beq_self_eq_true]
    by_cases hke : at_ = kk
    · rw [if_pos hke] at hev
      obtain rfl : ev = .nilIface := by rcases hev with ⟨h, _⟩ | ⟨h, _⟩; exact h; exact absurd rfl h
      subst hke
      clear hev
      go_wp2
      go_ret
      exact ⟨rfl, HB4.out⟩
    · rw [if_neg hke] at hev
      obtain ⟨g, rfl, hg⟩ : ∃ g, ev = faultV g ∧ w5.heap[g]? = some (faultObj at_ 32) := by rcases hev with ⟨_, h⟩ | ⟨_, h⟩; exact absurd h (by decide); exact h
      have hgs : g < w5.heap.size := by
        rcases Nat.lt_or_ge g w5.heap.size with h | h
        · exact h
        · rw [Array.getElem?_eq_none h] at hg; cases hg
      have HG := Lib.hid ((hb4.block g hgs).trans hg)
      clear hev hg hgs
      go_wp2_with fail
      refine (law03_is _ 32 at_ _ (.inr (.inr ⟨g, rfl, HG.out⟩)) (HE.out.step HB4.out)).mono ?_
      rintro e w7 ⟨rfl, hb5⟩
      have HB5 := Lib.hid (HB4.out.trans (hb5.mono HB4.out.size))
      clear hb5
      go_wp2
      go_ret
      exact ⟨rfl, HB5.out⟩
end Go.Proofs.YtoophonmonojcaaDoor

/- The lists that jotterlaw06.WireLogs makes: ints of the call's own; where the records end. -/
namespace Go.Proofs.YtoophonmonojcaaDoor
open Go.RowKit

theorem wpList_loadItemAt {w : World} {ops : Array Oper} {rest : List Oper} {o : Oper} {a : Act} {Q : Exit → Act → World → Prop} (hgd : o.guard = none) (x : Operand) (ho : o.op = .load 39 x) (b off : Nat) (m : It)
    (hx : a.eval x = .pointer (some ⟨b, off, none⟩)) (hg : w.rangeAt b off m.cells) (h : wpList Tryd.prog ops Q rest (a.put o.dst (.agg m.cs)) w) : wpList Tryd.prog ops Q (o :: rest) a w :=
  wpList_load_mid hgd 39 x ho b off hx m.cells _ hg Tryd.underlying39 rfl infoItem h
theorem wpList_loadItemAtG {w : World} {ops : Array Oper} {rest : List Oper} {o : Oper} {a : Act} {Q : Exit → Act → World → Prop} (x : Operand) (ho : o.op = .load 39 x) (b off : Nat) (m : It)
    (hx : a.eval x = .pointer (some ⟨b, off, none⟩)) (hg : w.rangeAt b off m.cells) (hw : Region.wanted o (yielded ops a.tmps) = true) (h : wpList Tryd.prog ops Q rest (a.put o.dst (.agg m.cs)) w) : wpList Tryd.prog ops Q (o :: rest) a w :=
  wpList_wantedI hw fun _ hK => wp_load_mid 39 x ho b off hx m.cells _ hg Tryd.underlying39 rfl infoItem (hK _ _ h)

/-- The value v owns the numbers l in blocks from B on. -/
def OwnI (w : World) (B : Nat) (v : Value) (l : List Int) : Prop := w.ownsRow B 3 1 v l.length (l.map (.int .i64))
theorem OwnI.nil (w : World) (B : Nat) : OwnI w B (.slice none 0 0) [] := World.ownsRow_nil w B 3 1
theorem OwnI.keep {w w' : World} {B : Nat} {v : Value} {l : List Int} (h : OwnI w B v l) (hb : Below w.heap.size w w') : OwnI w' B v l := ownsRow_keep h hb
theorem ownsRow_apart {w w' : World} {B e size n : Nat} {v : Value} {xs : List Value} (h : w.ownsRow B e size v n xs) {r : Option Nat} (hg : w.grownBy w' r) (hr : ∀ g, r = some g → ∃ cs t fr, w.heap[g]? = some (.cells cs t fr) ∧ t ≠ e) : w'.ownsRow B e size v n xs := by
  obtain ⟨h1, h2⟩ := h
  refine ⟨h1, ?_⟩
  rcases h2 with h2 | ⟨g, cap, cur, hv, hB, hh, q⟩
  · exact .inl h2
  · refine .inr ⟨g, cap, cur, hv, hB, ?_, q⟩
    rw [hg.block g (heap_lt hh) fun e => ?_]
    · exact hh
    · obtain ⟨cs, t, fr, h3, h4⟩ := hr _ e.symm
      rw [hh] at h3
      cases h3
      exact h4 rfl
theorem ownsRow_cells {w : World} {B e size n : Nat} {v : Value} {xs : List Value} (h : w.ownsRow B e size v n xs) : ∀ g, v.ownBlock = some g → B ≤ g ∧ ∃ cs fr, w.heap[g]? = some (.cells cs e fr) := by
  intro g hg
  rcases h.2 with ⟨rfl, _⟩ | ⟨g', cap, cur, rfl, hB, hg', _⟩
  · simp [Value.ownBlock] at hg
  · simp [Value.ownBlock] at hg; subst hg; exact ⟨hB, _, _, hg'⟩
theorem OwnI.apart {w w' : World} {B : Nat} {v u : Value} {l : List Int} {m : List UInt8} (h : OwnI w B v l) (hu : Own w B u m) (hg : w.grownBy w' u.ownBlock) : OwnI w' B v l :=
  ownsRow_apart h hg fun g hr => by obtain ⟨_, cs, fr, h1⟩ := ownsRow_cells hu g hr; exact ⟨cs, _, fr, h1, by decide⟩
theorem Own.apart {w w' : World} {B : Nat} {v u : Value} {l : List Int} {m : List UInt8} (h : OwnI w B v l) (hu : Own w B u m) (hg : w.grownBy w' v.ownBlock) : Own w' B u m :=
  ownsRow_apart hu hg fun g hr => by obtain ⟨_, cs, fr, h1⟩ := ownsRow_cells h g hr; exact ⟨cs, _, fr, h1, by decide⟩
theorem OwnI.grown {w w0 w' : World} {B : Nat} {v : Value} {l : List Int} (h : OwnI w B v l) (hb : Below B w0 w) (hB : B ≤ w.heap.size) (hg : w.grownBy w' v.ownBlock) : Below B w0 w' :=
  hb.grown hg hB fun k hk => (ownsRow_cells h k hk).1
theorem OwnI.shape {w : World} {B : Nat} {v : Value} {l : List Int} (h : OwnI w B v l) (hp : 0 < l.length) : ∃ g cap, v = .slice (some ⟨g, 0, none⟩) l.length cap ∧ ∀ i, i < l.length → w.cell? ⟨g, i, none⟩ = some (.int .i64 (l.getD i 0)) := by
  rcases h.2 with ⟨_, h0⟩ | ⟨g, cap, cur, rfl, hB, hg, hn, hm, hs, ht⟩
  · omega
  · refine ⟨g, cap, rfl, fun i hi => ?_⟩
    have e : cur.toList[i]? = (l.map (Value.int .i64))[i]? := by rw [← ht, List.getElem?_take, if_pos (by omega)]
    rw [List.getElem?_map, List.getElem?_eq_getElem hi] at e
    simp only [Option.map_some] at e
    simp only [World.cell?, hg, Option.isSome_none, Bool.false_eq_true, if_false]
    rw [← Array.getElem?_toList, e]
    simp [List.getD_eq_getElem?_getD, List.getElem?_eq_getElem hi]
/-- 'ends = append(ends, z)', ends the call's own. -/
theorem wpList_appendI {w : World} {ops : Array Oper} {rest : List Oper} {o : Oper} {a : Act} {Q : Exit → Act → World → Prop} (hgd : o.guard = none) (s x : Operand)
    (ho : o.op = .call { callee := .builtin .append, args := #[s, x], argTypes := #[36, 36] })
    (B : Nat) (v : Value) (l : List Int) (hs : a.eval s = v) (hown : OwnI w B v l) (ad : Addr) (c2 : Nat) (hx : a.eval x = .slice (some ad) 1 c2) (z : Int) (hcell : w.cell? ad = some (.int .i64 z))
    (hle : (l.length + 1) * 8 ≤ 140737488355328) (hB : B ≤ w.heap.size)
    (h : ∀ v' w', OwnI w' B v' (l ++ [z]) → w.grownBy w' v.ownBlock → wpList Tryd.prog ops Q rest (a.put o.dst v') w') : wpList Tryd.prog ops Q (o :: rest) a w := by
  obtain ⟨i0, hi, hz0, hz1, hz2⟩ := info_parts Tryd.infoInt
  refine wpList_append_own _ hgd s x 36 ho B 3 i0 (.int .i64 0) 1 8 Tryd.underlying36 hi hz0 hz1 hz2 rfl (by decide) v l.length (l.map (.int .i64)) hs hown ad 1 c2 [.int .i64 z] hx rfl ?_ ?_ (by unfold maxLen; omega) hle hB ?_
  · intro j u hj
    match j, hj with
    | 0, hj => simp at hj; subst hj; simpa [Addr.add] using hcell
  · intro u hu
    simp at hu
    subst hu
    rfl
  · intro v' w' h4 h5 _
    exact h v' w' (by simpa [OwnI] using h4) h5

/-- Where the first k records end, each. -/
def endsOf (ps : List (List UInt8)) (k : Nat) : List Int := (List.range k).map fun i => ((joined (ps.take (i + 1))).length : Int)
theorem endsOf_length (ps : List (List UInt8)) (k : Nat) : (endsOf ps k).length = k := by simp [endsOf]
theorem endsOf_succ (ps : List (List UInt8)) (k : Nat) : endsOf ps (k + 1) = endsOf ps k ++ [((joined (ps.take (k + 1))).length : Int)] := by simp [endsOf, List.range_succ]
theorem endsOf_get (ps : List (List UInt8)) (k i : Nat) (h : i < k) : (endsOf ps k).getD i 0 = ((joined (ps.take (i + 1))).length : Int) := by
  simp [endsOf, List.getD_eq_getElem?_getD, h]
/-- The payloads of the items. -/
def pays (xs : List It) : List (List UInt8) := xs.map fun x => encI (itemOf x)
theorem pays_get (xs : List It) (k : Nat) (h : k < xs.length) : (pays xs).getD k [] = encI (itemOf (xs.getD k zeroI)) := by
  simp [pays, List.getD_eq_getElem?_getD, h]
theorem pays_fits (xs : List It) : Fits (pays xs) := by
  intro p hp
  obtain ⟨x, _, rfl⟩ := List.mem_map.1 hp
  have := encI_len (itemOf_fine x)
  omega
theorem neq_item_same (x : It) (w : World) : (binOp .neq 39 (.agg x.cs) (.agg x.cs)).run Tryd.prog w = .ok (.bool false) w := by
  have h := eql_item_same x w
  rw [run_eql_struct] at h
  rw [run_neq_struct]
  cases hr : (Op.equalIn 10000 39 (.agg x.cs) (.agg x.cs)).run Tryd.prog w with
  | ok b w' =>
    rw [hr] at h
    simp only [Result.andThen, Result.ok.injEq, Value.bool.injEq] at h
    obtain ⟨rfl, rfl⟩ := h
    rfl
  | _ => rw [hr] at h; simp [Result.andThen] at h
abbrev IAt (w : World) (b o : Nat) (k ep ta ok op oc ol os : Int) : Prop := w.cell? ⟨b, o, none⟩ = some (.int .i64 k) ∧ w.cell? ⟨b, o + 1, none⟩ = some (.int .i64 ep) ∧ w.cell? ⟨b, o + 2, none⟩ = some (.int .i64 ta) ∧ w.cell? ⟨b, o + 3, none⟩ = some (.int .i64 ok) ∧ w.cell? ⟨b, o + 4, none⟩ = some (.int .i64 op) ∧ w.cell? ⟨b, o + 5, none⟩ = some (.int .u8 oc) ∧ w.cell? ⟨b, o + 6, none⟩ = some (.int .i64 ol) ∧ w.cell? ⟨b, o + 7, none⟩ = some (.int .i64 os)
theorem iat_of {w : World} {b o : Nat} {k ep ta ok op oc ol os : Int} (h : w.rangeAt b o (It.cells ⟨k, ep, ta, ⟨ok, op, oc, ol, os⟩⟩)) : IAt w b o k ep ta ok op oc ol os :=
  ⟨h 0 _ rfl, h 1 _ rfl, h 2 _ rfl, h 3 _ rfl, h 4 _ rfl, h 5 _ rfl, h 6 _ rfl, h 7 _ rfl⟩
abbrev IB (w : World) (g : Nat) (k ep ta ok op oc ol os : Int) (b o : Nat) (k2 ep2 ta2 ok2 op2 oc2 ol2 os2 : Int) : Prop := IC w g k ep ta ok op oc ol os ∧ IAt w b o k2 ep2 ta2 ok2 op2 oc2 ol2 os2
theorem ibDrew {w : World} {g : Nat} {k ep ta ok op oc ol os : Int} {b o : Nat} {k2 ep2 ta2 ok2 op2 oc2 ol2 os2 : Int} (h : IB w g k ep ta ok op oc ol os b o k2 ep2 ta2 ok2 op2 oc2 ol2 os2) : IB w.drew g k ep ta ok op oc ol os b o k2 ep2 ta2 ok2 op2 oc2 ol2 os2 := h
theorem ibTail {w X w' : World} {g : Nat} {k ep ta ok op oc ol os : Int} {b o : Nat} {k2 ep2 ta2 ok2 op2 oc2 ol2 os2 : Int} (h : IB w g k ep ta ok op oc ol os b o k2 ep2 ta2 ok2 op2 oc2 ol2 os2) (hb : Below X.heap.size X w') (e4 : X.heap = w.heap) : IB w' g k ep ta ok op oc ol os b o k2 ep2 ta2 ok2 op2 oc2 ol2 os2 := by
  obtain ⟨h, h0, h1, h2, h3, h4, h5, h6, h7⟩ := h
  exact ⟨icTail h hb e4, cell_tail h0 hb e4, cell_tail h1 hb e4, cell_tail h2 hb e4, cell_tail h3 hb e4, cell_tail h4 hb e4, cell_tail h5 hb e4, cell_tail h6 hb e4, cell_tail h7 hb e4⟩
end Go.Proofs.YtoophonmonojcaaDoor

/- The walk of jotterlaw06.WireLogs: it answers true. -/
namespace Go.Proofs.YtoophonmonojcaaDoor
open Go.RowKit
attribute [-go_sem] run_eql_struct run_neq_struct

set_option maxRecDepth 100000 in
set_option maxHeartbeats 4000000 in
theorem wireLogs_any (ao : Option Addr) (n cap : Nat) (xs : List It) (cut : Int) (w : World) (hl : xs.length = n) (hr : RdItems w ao xs ∧ ∀ x ∈ xs, x.ok) (hb : n ≤ 1048576) (hk1 : -9223372036854775808 ≤ cut) (hk2 : cut ≤ 9223372036854775807) (ht : Tab w) (hS : Sizes w) (hSI : ShapesI w) (hFI : FieldsI w) :
    Calls Tryd.prog 4 #[.slice ao n cap, .int .i64 cut] w (RetV w (.bool true)) := by
  have hv : EnvI w := ⟨hS, hSI, hFI⟩
  clear hS hSI hFI
  rcases Nat.eq_zero_or_pos n with h0 | h0
  · subst h0
    have HV := Lib.hid hv
    clear hr hl ht hv
    go_enter Tryd.func4, Tryd.ntmps4
    go_wp2_with fail
    refine wp_loop_rounds 1 ?_
    rw [rounds_succ]
    go_wp2_with fail
    refine (fixedItem_any _ HV.out).mono ?_
    rintro e w0 ⟨rfl, hb0⟩
    go_wp2_with fail
    go_ret
    exact ⟨rfl, hb0⟩
  · obtain ⟨b, off, rfl, hbw, hc⟩ := hr.1.some (by omega)
    have hok := hr.2
    rw [hl] at hc
    have hfit := pays_fits xs
    obtain ⟨ps, hps⟩ : ∃ ps, ps = pays xs := ⟨_, rfl⟩
    have hpl : ps.length = n := by rw [hps]; simp [pays, hl]
    rw [← hps] at hfit
    have HL := Lib.hid hl; have HC := Lib.hid hc; have HOK := Lib.hid hok; have HT := Lib.hid ht; have HV := Lib.hid hv; have HF := Lib.hid hfit; have HPS := Lib.hid hps; have HPL := Lib.hid hpl
    clear hl hr hc hok ht hv hfit hps hpl
    go_enter Tryd.func4, Tryd.ntmps4
    go_wp2_with fail
    go_loopw [5, 6, 7] (fun v u i wr => ∃ (k : Nat), k ≤ n ∧ i = .int .i64 k ∧ Own wr w.heap.size v (joined (ps.take k)) ∧ OwnI wr w.heap.size u (endsOf ps k) ∧ Below w.heap.size w wr) (fun _ _ i _ => n - (intOf i).toNat)
    case atStart => exact ⟨0, Nat.zero_le _, rfl, Own.nil _ _, OwnI.nil _ _, Below.refl _ _⟩
    case round =>
      obtain ⟨k, hk, rfl, hown, hownI, hbel⟩ := hrel
      have HOWN := Lib.hid hown; have HOWNI := Lib.hid hownI; have HBEL := Lib.hid hbel; clear hown hownI hbel
      have hjl : (joined (ps.take k)).length ≤ 72 * k := by
        refine Nat.le_trans (joined_length_le _ (fun p hp => HF.out p (List.mem_of_mem_take hp))) ?_
        have := List.length_take_le k ps
        omega
      by_cases hlt : k < n
      · have hkx : k < xs.length := by have := HL.out; omega
        have hx := HC.out k hlt
        have hxo := HOK.out (xs.getD k zeroI) (by rw [List.getD_eq_getElem?_getD, List.getElem?_eq_getElem hkx]; exact List.getElem_mem _)
        have hjt := joined_take ps k (by have := HPL.out; omega)
        have hq0 := pays_get xs k hkx
        rw [← HPS.out] at hq0
        obtain ⟨x, hxx⟩ : ∃ x, x = xs.getD k zeroI := ⟨_, rfl⟩
        rw [← hxx] at hx hxo hq0
        have hit : ∀ w, Calls Tryd.prog 27 #[.agg x.cs] w (RetV w (.agg (itemOf x).cs)) := fun w => item_any x w hxo
        obtain ⟨y, hy⟩ : ∃ y, y = itemOf x := ⟨_, rfl⟩
        have hfine : y.fine := by rw [hy]; exact itemOf_fine x
        rw [← hy] at hit hq0
        rw [hq0] at hjt
        have hlen := encI_len hfine
        obtain ⟨m, hm⟩ : ∃ m, m = (encI y).length := ⟨_, rfl⟩
        rw [← hm] at hlen
        have HX := Lib.hid (range_step hx HBEL.out); have HIT := Lib.hid hit; have HFI := Lib.hid hfine; have HM := Lib.hid hm; have HJT := Lib.hid hjt
        clear hx hxo hjt hq0 hxx hit hy hfine hm hkx
        obtain ⟨hc1, hf1⟩ := bcell HBEL.out
        go_wp2_with (with_reducible refine wpList_loadItemAt rfl (.tmp 27) rfl b (off + k * 8) x rfl HX.out ?_)
        refine (HIT.out _).mono ?_
        rintro e w1 ⟨rfl, hb1⟩
        have HBEL1 := Lib.hid (HBEL.out.trans (hb1.mono HBEL.out.size)); have HOWN1 := Lib.hid (HOWN.out.keep hb1); have HOWNI1 := Lib.hid (HOWNI.out.keep hb1)
        clear hb1 HBEL HOWN HOWNI
        go_wp2_with fail
        refine (encodeItem_fine y _ HFI.out (HV.out.step HBEL1.out)).mono ?_
        rintro e w2 ⟨g2, rfl, hg2, hr2, hb2⟩
        have HBEL2 := Lib.hid (HBEL1.out.trans (hb2.mono HBEL1.out.size)); have HOWN2 := Lib.hid (HOWN1.out.keep hb2); have HOWNI2 := Lib.hid (HOWNI1.out.keep hb2); have HR2 := Lib.hid hr2
        clear hb2 hg2 hr2 HBEL1 HOWN1 HOWNI1
        rw [← HM.out]
        go_wp2_with fail
        refine (frame_ok (some ⟨g2, 0, none⟩) m m (encI y) _ HM.out.symm HR2.out.rd (by omega) (by omega) (fun h => by cases h) (HT.out.step HBEL2.out)).mono ?_
        rintro e w3 ⟨g3, rfl, hg3, hr3, hb3⟩
        have HBEL3 := Lib.hid (HBEL2.out.trans (hb3.mono HBEL2.out.size)); have HOWN3 := Lib.hid (HOWN2.out.keep hb3); have HOWNI3 := Lib.hid (HOWNI2.out.keep hb3); have HR3 := Lib.hid hr3
        clear hb3 hg3 hr3 HBEL2 HOWN2 HOWNI2 HR2
        rw [← HM.out]
        obtain ⟨N, hN⟩ : ∃ N, N = (joined (ps.take k)).length + (m + 8) := ⟨_, rfl⟩
        have hNb : N ≤ 75497472 := by omega
        have HN := Lib.hid hN
        clear hN
        go_wp2_with (first
          | ((with_reducible refine wpList_appendB1 rfl (.tmp 50) (.tmp 51) rfl w.heap.size u5 (joined (ps.take k)) (frame (encI y)) rfl HOWN3.out _ (m + 8) (m + 8) rfl (fun h => by cases h) (by rw [frame_length, HM.out]) HR3.out.rd (by omega) HBEL3.out.size (by omega) N HN.out ?_); intro g4 c4 w4 ho4 hgr4; have HO4 := Lib.hid ho4; have HI4 := Lib.hid (OwnI.apart HOWNI3.out HOWN3.out hgr4); have HB4 := Lib.hid (Own.grown HOWN3.out HBEL3.out HBEL3.out.size hgr4); clear ho4 hgr4)
          | ((with_reducible refine wpList_appendI rfl (.tmp 53) (.tmp 56) rfl w.heap.size u6 (endsOf ps k) rfl (HI4.out.keep ((Below.refl _ w4).alloc (Nat.le_refl _) _)) ⟨w4.heap.size, 0, none⟩ 1 rfl (N : Int) (by simp) (by rw [endsOf_length]; omega) (by have := HB4.out.size; simp; omega) ?_); intro v5 w5 ho5 hgr5; have HO5 := Lib.hid ho5; have HG5 := Lib.hid hgr5; clear ho5 hgr5))
        go_roundw
        case rel =>
          have hal := (Below.refl w4.heap.size w4).alloc (Nat.le_refl _) (.cells #[.int .i64 (N : Int)] 3)
          have hB4 := HB4.out
          have hI4 := HI4.out.keep hal
          refine ⟨k + 1, by omega, by go_num, ?_, ?_, ?_⟩
          · have := Own.apart hI4 (HO4.out.keep hal) HG5.out
            rw [HJT.out]; exact this
          · rw [endsOf_succ, HJT.out, List.length_append, frame_length, ← HM.out, ← HN.out]; exact HO5.out
          · exact OwnI.grown hI4 (hB4.alloc hB4.size _) (by have := hB4.size; simp; omega) HG5.out
        case measure => simp [intOf]; omega
      · obtain rfl : k = n := by omega
        have hown := HOWN.out
        have hownI := HOWNI.out
        rw [List.take_of_length_le (by have := HPL.out; omega)] at hown hjl
        obtain ⟨ge, ce, he, hec⟩ := hownI.shape (by rw [endsOf_length]; omega)
        rw [endsOf_length] at he hec
        subst he
        have hec' : ∀ i, i < k → wr.cell? ⟨ge, i, none⟩ = some (.int .i64 ((joined (ps.take (i + 1))).length : Int)) := fun i hi => by rw [hec i hi, endsOf_get ps k i hi]
        rcases hown.cases with ⟨rfl, hj0⟩ | ⟨gb, cb, rfl, hbc, hbm, hrb, _, _⟩
        · have := joined_empty HF.out hj0
          have h3 := HPL.out
          rw [this] at h3
          simp at h3
          omega
        obtain ⟨N, hN⟩ : ∃ N, N = (joined ps).length := ⟨_, rfl⟩
        have hN0 : 0 < N := by
          rcases Nat.eq_zero_or_pos N with h | h
          · have := joined_empty HF.out (List.eq_nil_of_length_eq_zero (hN.symm.trans h))
            have h3 := HPL.out
            rw [this] at h3
            simp at h3
            omega
          · exact h
        rw [← hN] at hjl hbc ⊢
        have HN := Lib.hid hN; have HEC := Lib.hid hec'; have HRB := Lib.hid hrb
        clear hown hownI hec hec' hN hrb HOWN HOWNI
        go_wp2_with fail
        refine (within_any cut 0 (N : Int) _ hk1 hk2 (by omega) (by omega) (by omega)).mono ?_
        rintro e w1 ⟨rfl, rfl⟩
        have hw0 := within_ge cut 0 (N : Int) (by omega)
        have hw1 := within_le cut 0 (N : Int) (by omega)
        obtain ⟨kk, hkk⟩ : ∃ kk : Nat, (kk : Int) = within cut 0 (N : Int) := ⟨(within cut 0 (N : Int)).toNat, by omega⟩
        rw [← hkk] at hw0 hw1 ⊢
        have hkN : kk ≤ N := by omega
        clear hkk hw0 hw1
        go_wp2_with fail
        go_loopw [11] (fun i wX => ∃ (m : Nat), m ≤ k ∧ i = .int .i64 m ∧ Hid ((joined (ps.take m)).length ≤ kk) ∧ wX = wr) (fun i _ => k - (intOf i).toNat)
        case atStart => exact ⟨0, Nat.zero_le _, rfl, by simp [Hid, joined_nil], rfl⟩
        case round =>
          obtain ⟨m, hm, rfl, hle, rfl⟩ := hrel
          have HLE := Lib.hid hle.out
          clear hle
          by_cases hgo : m < k ∧ (joined (ps.take (m + 1))).length ≤ kk
          · obtain ⟨hmk, hge⟩ := hgo
            have hce := HEC.out m hmk
            obtain ⟨E, hE⟩ : ∃ E, E = (joined (ps.take (m + 1))).length := ⟨_, rfl⟩
            rw [← hE] at hce hge
            have HE' := Lib.hid hE
            clear hE
            go_wp2_with fail
            go_roundw
            case rel => exact ⟨m + 1, by omega, by go_num, by rw [← HE'.out]; exact hge, by trivial⟩
            case measure => simp [intOf]; omega
          · have hW : Whole ps kk m (joined (ps.take m)).length := by
              refine ⟨by have := HPL.out; omega, rfl, HLE.out, fun p hp => ?_⟩
              obtain ⟨hm1, hm2⟩ := List.getElem?_eq_some_iff.1 hp
              have h1 := joined_take ps m hm1
              have h2 : (joined (ps.take (m + 1))).length = (joined (ps.take m)).length + (p.length + 8) := by
                rw [h1, List.length_append, frame_length, List.getD_eq_getElem?_getD, hp]; rfl
              have h3 : ¬ (joined (ps.take (m + 1))).length ≤ kk := fun h => hgo ⟨by have := HPL.out; omega, h⟩
              omega
            have HSP := Lib.hid (scan_prefix HF.out (by rw [← HN.out]; exact hkN) hW)
            have HKL : ((joined ps).take kk).length = kk := by rw [List.length_take, ← HN.out]; omega
            have HKL' := Lib.hid HKL
            have HGO := Lib.hid hgo
            clear hW HKL hgo
            by_cases hmk : m < k
            case' pos =>
              have hce := HEC.out m hmk
              obtain ⟨E, hE⟩ : ∃ E, E = (joined (ps.take (m + 1))).length := ⟨_, rfl⟩
              have hge : ¬ E ≤ kk := fun h => HGO.out ⟨hmk, by rw [← hE]; exact h⟩
              rw [← hE] at hce
              clear hE
              go_wp2_with fail
            case' neg => go_wp2_with fail
            all_goals
              refine (scan_any (some ⟨gb, 0, none⟩) kk cb ((joined ps).take kk) _ HKL'.out (HRB.out.take kk) (by omega) (by omega) (HT.out.step HBEL.out)).mono ?_
              rintro e w5 ⟨vs, ev, rfl, hvs, hev, hb3⟩
              rw [HSP.out] at hvs
              rw [HSP.out]
              dsimp only at hvs
              have HB5 := Lib.hid (HBEL.out.trans (hb3.mono HBEL.out.size))
              clear hb3 hev
              obtain ⟨av, cv, rfl, hvc, hrv, _⟩ := hvs.read
              have hil : (ps.take m).length = m := by rw [List.length_take]; have := HPL.out; omega
              rw [hil] at hvc ⊢
              have HRV := Lib.hid hrv; have HIL := Lib.hid hil
              clear hvs hrv hil
              go_wp2_with fail
              go_loopw [15] (fun i wX => ∃ (j : Nat), j ≤ m ∧ i = .int .i64 j ∧ Below w5.heap.size w5 wX) (fun i _ => m - (intOf i).toNat)
              case atStart => exact ⟨0, Nat.zero_le _, rfl, Below.refl _ _⟩
              case round =>
                obtain ⟨j, hj, rfl, hbel⟩ := hrel
                have HBW := Lib.hid hbel
                have HBX := Lib.hid (HB5.out.trans (hbel.mono HB5.out.size))
                clear hbel
                by_cases hjm : j < m
                · obtain ⟨gv, ov, rfl, _, hce⟩ := HRV.out.some (by have := HIL.out; omega)
                  obtain ⟨pv, hpv, hsl⟩ := hce j (by have := HIL.out; omega)
                  have hjk : j < k := by omega
                  have hjx : j < xs.length := by have := HL.out; omega
                  have hx := range_step (HC.out j hjk) HBX.out
                  have hxo := HOK.out (xs.getD j zeroI) (by rw [List.getD_eq_getElem?_getD, List.getElem?_eq_getElem hjx]; exact List.getElem_mem _)
                  have hq0 := pays_get xs j hjx
                  rw [← HPS.out] at hq0
                  have hq1 : (ps.take m).getD j [] = ps.getD j [] := by simp [List.getD_eq_getElem?_getD, hjm]
                  rw [hq1, hq0] at hsl
                  clear hq0 hq1 hce
                  obtain ⟨x, hxx⟩ : ∃ x, x = xs.getD j zeroI := ⟨_, rfl⟩
                  rw [← hxx] at hx hxo hsl
                  have hit : ∀ w, Calls Tryd.prog 27 #[.agg x.cs] w (RetV w (.agg (itemOf x).cs)) := fun w => item_any x w hxo
                  obtain ⟨y, hy⟩ : ∃ y, y = itemOf x := ⟨_, rfl⟩
                  have hfine : y.fine := by rw [hy]; exact itemOf_fine x
                  rw [← hy] at hit hsl
                  have hlen := encI_len hfine
                  have hdec := itemDec_enc hfine
                  obtain ⟨q, hq⟩ : ∃ q, q = (encI y).length := ⟨_, rfl⟩
                  obtain ⟨aq, cq, rfl, hqc, hrq, _⟩ := hsl
                  rw [← hq] at hlen hpv hqc
                  have HIT := Lib.hid hit; have HQ := Lib.hid hq; have HRQ := Lib.hid (hrq.step HBW.out); have HD := Lib.hid hdec; have HX := Lib.hid hx
                  have hpv' := (HBW.out.cell (p := ⟨gv, ov + j, none⟩) (block_lt hpv)).trans hpv
                  clear hx hxo hxx hit hy hfine hq hrq hdec hpv hjx
                  have hbk : b < wr.heap.size := Nat.lt_of_lt_of_le hbw HBX.out.size
                  go_wp2_with fail
                  refine (decodeItem_inr aq q cq (encI y) y _ HD.out HQ.out.symm HRQ.out (by omega) (HV.out.step HBX.out)).mono ?_
                  rintro e w6 ⟨rfl, hb6⟩
                  have HB6 := Lib.hid (HBX.out.trans (hb6.mono HBX.out.size)); have HW6 := Lib.hid (HBW.out.trans (hb6.mono HBW.out.size)); have HX6 := Lib.hid (range_step HX.out hb6)
                  clear hb6
                  have HZ := Lib.hid (show ItemAt (w6.alloc (.cells #[.int .i64 0, .int .i64 0, .int .i64 0, .int .i64 0, .int .i64 0, .int .u8 0, .int .i64 0, .int .i64 0] 39)) w6.heap.size zeroI from heap_alloc_new _ _)
                  go_wp2_with ((with_reducible refine wpList_storeItem2 rfl (.tmp 16) (.tmp 103) rfl rfl w6.heap.size zeroI y rfl rfl HZ.out ?_); intro w7 hm7 ht7 ho7; have HB7 := Lib.hid (ht7 _ _ HB6.out.size (HB6.out.alloc HB6.out.size _)); have HW7 := Lib.hid (ht7 _ _ HW6.out.size (HW6.out.alloc HW6.out.size _)); have HBB := Lib.hid (ht7 _ _ (Nat.le_refl _) ((Below.refl w6.heap.size w6).alloc (Nat.le_refl _) _)); have HX7 := Lib.hid (range_step HX6.out HBB.out); have HM7 := Lib.hid hm7; clear hm7 ht7 ho7)
                  have hq := neq_item_same y
                  have hM := HM7.out
                  have hX := HX7.out
                  have hmess := HIT.out
                  clear HZ HM7 HX7 HX6 HX HIT
                  obtain ⟨k1, ep, ta, ⟨ok, op, oc, ol, os⟩⟩ := y
                  obtain ⟨k2, ep2, ta2, ⟨ok2, op2, oc2, ol2, os2⟩⟩ := x
                  have hms : IB w7 w6.heap.size k1 ep ta ok op oc ol os b (off + j * 8) k2 ep2 ta2 ok2 op2 oc2 ol2 os2 := ⟨item_all hM, iat_of hX⟩
                  simp only [It.cs] at hq hmess
                  have HME := Lib.hid hmess
                  clear hM hX hmess
                  have hbel := Below.refl w7.heap.size w7
                  have hgf := Nat.le_refl w7.heap.size
                  go_region_held3 (fun w' => IB w' w6.heap.size k1 ep ta ok op oc ol os b (off + j * 8) k2 ep2 ta2 ok2 op2 oc2 ol2 os2) (with_reducible first | exact hms | exact ibDrew hms | exact ibDrew (ibDrew hms) | exact ibDrew (ibDrew (ibDrew hms)))
                    (first
                     | ((with_reducible refine (HME.out _).mono ?_); rintro e w' ⟨rfl, hb2⟩; have hms := ibTail hms hb2 rfl; have hbel := below_tail hbel hb2 rfl rfl rfl rfl hgf; have hgf := Nat.le_trans hgf hb2.size))
                  all_goals
                    go_wp2_with fail
                    go_roundw
                    case rel =>
                      have hfin := HW7.out.trans (hbel.mono HW7.out.size)
                      exact ⟨j + 1, by omega, by go_num, by first | exact hfin | exact hfin.drew | exact hfin.drew.drew⟩
                    case measure => simp [intOf]; omega
                · obtain rfl : j = m := by omega
                  go_wp2_with fail
                  go_ret
                  exact ⟨rfl, HBX.out⟩
end Go.Proofs.YtoophonmonojcaaDoor

/- What the items' rows share: from the listed variables to the walks' facts; a world for the witness. -/
namespace Go.Proofs.YtoophonmonojcaaDoor
open Go.ChangeShapes Go.WideShapes Go.ChangeAt Go.RowKit Go.Deep

theorem gShapesI : Tryd.prog.globalNamed "jotter/wire.itemShapes" = some 1 := by kernel_rfl
theorem gShapesIType : (Tryd.prog.globals[1]?).map (·.type) = some 121 := by kernel_rfl
theorem cellsShapesI : Tryd.prog.cellsOf 121 = 3 := by kernel_rfl
theorem gFieldsI : Tryd.prog.globalNamed "jotter/wire.itemFields" = some 2 := by kernel_rfl
theorem gFieldsIType : (Tryd.prog.globals[2]?).map (·.type) = some 122 := by kernel_rfl
theorem cellsFieldsI : Tryd.prog.cellsOf 122 = 7 := by kernel_rfl
theorem shapesI_of_laid {W : World} {rest : List (String × DataW Unit)} (h : laidMet Tryd.prog (("jotter/wire.itemShapes", Rows.laid_jotter_wire_itemShapes) :: rest) W) : ShapesI W := by
  have e : (Rows.laid_jotter_wire_itemShapes : DataW Unit) = .agg (([[], [1], [8, 9, 10, 11, 12, 13]] : List (List Nat)).map shapeD) := by
    simp [Rows.laid_jotter_wire_itemShapes, shapeD]
  rw [e] at h
  have := shapes_at gShapesI gShapesIType Tryd.underlying121 cellsShapesI h
  intro k hk
  have := this k hk
  have hc : k = 0 ∨ k = 1 ∨ k = 2 := by omega
  rcases hc with rfl | rfl | rfl <;> exact this
theorem fieldsI_of_laid {W : World} {rest : List (String × DataW Unit)} (h : laidMet Tryd.prog (("jotter/wire.itemFields", Rows.laid_jotter_wire_itemFields) :: rest) W) : FieldsI W := by
  have h1 : Lib.TabIs Tryd.prog W "jotter/wire.itemFields" .i64 (fieldsI.map fun (x : Nat) => (x : Int)) :=
    Lib.tabIs_of_head (rest := rest) gFieldsI gFieldsIType Tryd.underlying122 Tryd.underlying3 cellsI cellsFieldsI h
  intro i hi
  have := World.var?_cell gFieldsI h1 i
  rw [this]
  simp only [List.getElem?_toArray, List.getElem?_map, List.getD_eq_getElem?_getD]
  have hl : i < fieldsI.length := hi
  rw [List.getElem?_eq_getElem hl]
  rfl
theorem of_laidI {W : World} (h : laidMetH Tryd.prog [("errors.errorType", Rows.laid_errors_errorType), ("jotter/wire.size", Rows.laid_jotter_wire_size), ("jotter/wire.itemShapes", Rows.laid_jotter_wire_itemShapes), ("jotter/wire.itemFields", Rows.laid_jotter_wire_itemFields)] W) : EType W ∧ Sizes W ∧ ShapesI W ∧ FieldsI W := by
  have h' : laidMet Tryd.prog [("jotter/wire.size", Rows.laid_jotter_wire_size), ("jotter/wire.itemShapes", Rows.laid_jotter_wire_itemShapes), ("jotter/wire.itemFields", Rows.laid_jotter_wire_itemFields)] W ∧ handlesMet Tryd.prog [("errors.errorType", Rows.laid_errors_errorType)] W := by
    unfold laidMetH at h
    exact h
  exact ⟨etype_of_handles h'.2 (by simp), sizes_of_laid h'.1, shapesI_of_laid h'.1.tail, fieldsI_of_laid h'.1.tail.tail⟩
theorem of_laidL {W : World} (h : laidMet Tryd.prog [("jotter/octet.table", Rows.laid_jotter_octet_table), ("jotter/wire.size", Rows.laid_jotter_wire_size), ("jotter/wire.itemShapes", Rows.laid_jotter_wire_itemShapes), ("jotter/wire.itemFields", Rows.laid_jotter_wire_itemFields)] W) : Tab W ∧ Sizes W ∧ ShapesI W ∧ FieldsI W :=
  ⟨tab_of_laid h, sizes_of_laid h.tail, shapesI_of_laid h.tail.tail, fieldsI_of_laid h.tail.tail.tail⟩
abbrev fieldCells : Array Value := (fieldsI.map fun (x : Nat) => Value.int .i64 (x : Int)).toArray
/-- A WORLD FOR THE WITNESS of a row that lists the items' variables. -/
noncomputable def laidWorldI (os : Os) : World :=
  let w0 := World.holding Tryd.prog os ⟨#[rowI [1], rowI [8, 9, 10, 11, 12, 13]], #[], []⟩
  { w0 with heap := (((((w0.heap.modify 5 (withCells tabCells)).modify 3 (withCells #[.iface 172 (.agg #[hnd 29])])).modify 4 (withCells sizeCells)).modify 1 (withCells #[.slice none 0 0, sl 0 1, sl 1 6])).modify 2 (withCells fieldCells)) }
noncomputable abbrev laidWorldL (os : Os) : World := laidWorldI os
end Go.Proofs.YtoophonmonojcaaDoor

/- Proved: the law WireLogs of package jotterlaw06 (items written, framed for the log, laid one behind the other, cut off anywhere, scanned and read are the first of them: those whose records are whole) answers true and leaves its arguments as they were, where what it reads is of bulk at most 1048576; octet.table, wire.size, wire.itemShapes and wire.itemFields read as the program lays them (the card ties that). -/
namespace Go.Proofs.YtoophonmonojcaaDoor.fnWireLogs
open Go.ChangeShapes Go.WideShapes Go.ChangeAt Go.RowKit

set_option maxRecDepth 100000 in
theorem contract (H : Type) (enc : TypeId × Value → H) (W : World) (base : Nat) (args : Array Value) (ds gs : List (DataW H)) (before : List MemPlace)
    (hval : ∀ (j : Nat) t v, Tryd.f4.params[j]? = some t → args[j]? = some v → Value.okWide Tryd.prog W .any base t v)
    (hW : DataW.Whole enc Tryd.prog Tryd.f4.params.toList Rows.wireLogsSpec.vars false W args.toList ds gs before) (hk : Rows.uptoSmall H (ds ++ gs) = true) (hL : laidMet Tryd.prog Rows.wireLogsUptoRow.laid W) :
    Calls Tryd.prog 4 args W fun e W' => ∃ v, e = .returned v ∧ Rows.wireLogsSpec.post enc Tryd.prog Tryd.f4 false true false false W args v W' := by
  have hW' := hW
  obtain ⟨p, q, hA0, hV, rfl, hfz, hnd⟩ := hW
  have hA : DataW.TrodAll enc Tryd.prog W 0 (fun _ => true) true Tryd.f4.params.toList args.toList ds p := hA0
  rw [Tryd.params4] at hA hval
  obtain ⟨v0, vs0, d0, ds0, p0, q0, hargs, rfl, rfl, h0, r0⟩ := trodAll_cons hA
  obtain ⟨v1, vs1, d1, ds1, p1, q1, rfl, rfl, rfl, h1, r1⟩ := trodAll_cons r0
  obtain ⟨rfl, rfl, rfl⟩ := trodAll_nil r1
  obtain rfl : args = #[v0, v1] := by cases args; simp_all
  obtain ⟨rfl, rfl⟩ := trodVars_none hV
  clear hA0
  obtain ⟨ao0, n0, cap0, xs0, rfl, hl0, hr0, hn0⟩ := items_open h0 (okWide_slice Tryd.underlying35 (hval 0 35 v0 rfl rfl))
  obtain ⟨k1, rfl, rfl, rfl, wf1⟩ := open_int Tryd.underlying3 (hval 1 3 v1 rfl rfl) h1
  have kb1 := bounds_i64 wf1
  have hb := bulk_bound hk
  simp only [List.append_nil, Rows.uptoBulkAll] at hb
  obtain ⟨hT, hS, hSI, hFI⟩ := of_laidL hL
  refine (wireLogs_any ao0 n0 cap0 xs0 k1 W hl0 hr0 (by omega) kb1.1 kb1.2 hT hS hSI hFI).mono fun e W' ⟨he, hg⟩ => ?_
  subst he
  exact ⟨_, rfl, law_post rfl (by kernel_rfl) (by rw [Tryd.params4]; intro t ht; simp at ht; first | (subst ht; exact ⟨by kernel_rfl, of_decide_eq_true (by kernel_rfl)⟩) | (rcases ht with rfl | rfl <;> exact ⟨by kernel_rfl, of_decide_eq_true (by kernel_rfl)⟩) | (rcases ht with rfl | rfl <;> exact ⟨by kernel_rfl, of_decide_eq_true (by kernel_rfl)⟩)) hW' rfl hg⟩

theorem laid_met (os : Os) : laidMet Tryd.prog Rows.wireLogsUptoRow.laid ((laidWorldL os).forCall (fun _ _ => 0) ⟨#[], #[.slice none 0 0, .int .i64 0], []⟩).memory :=
  laidMet_of_run' 8 (by kernel_rfl) (by kernel_rfl)
theorem reads (os : Os) {H : Type} (enc : TypeId × Value → H) : ∃ places, DataW.whole enc Tryd.prog ((laidWorldL os).forCall (fun _ _ => 0) ⟨#[], #[.slice none 0 0, .int .i64 0], []⟩).memory Tryd.f4.params.toList Rows.wireLogsSpec.vars false #[Value.slice none 0 0, Value.int .i64 0].toList 8 = some ([.nil, .lit (.int .i64 0)], [], places) :=
  ⟨[], by kernel_rfl⟩

set_option maxRecDepth 100000 in
theorem liftedUpto (os : Os) (started : os.Started) (H : Type) (enc : TypeId × Value → H) (F : Stop.Interp) :
    ReturnsInHanded {} Tryd.checked os 4 .any ((Rows.OpenSpec.upto Rows.wireLogsSpec).preRow enc Tryd.prog Tryd.f4 Rows.wireLogsUptoRow.domain false Rows.wireLogsUptoRow.laid) (((Rows.OpenSpec.upto Rows.wireLogsSpec).at F).post enc Tryd.prog Tryd.f4 false true false false) := by
  obtain ⟨places, hx⟩ := reads os enc
  refine returnsInHanded_of_row (C := Tryd.checked) (s := Rows.OpenSpec.upto Rows.wireLogsSpec) own started (by kernel_rfl) Tryd.func4
    (witness_row_atRef (enc := enc) (C := Tryd.checked) false (laidWorldL os) #[.slice none 0 0, .int .i64 0] rfl (by kernel_rfl) (by kernel_rfl) (by kernel_rfl)
      (OpenSpec.preRow_of_cond 8 hx (by kernel_rfl) (fun k hk => by cases hk; kernel_rfl) (by kernel_rfl) (laid_met os))) ?_
  intro W base args ds gs before hval hW _ hcond _ hL _ _
  exact contract H enc W base args ds gs before hval hW (hcond _ rfl) hL
end Go.Proofs.YtoophonmonojcaaDoor.fnWireLogs

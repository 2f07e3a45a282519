/- Contract of jotterref06.EncodeItem. -/
import Derived.Test.YtoophonmonojcaaDoorGRef3
namespace Go.Proofs.YtoophonmonojcaaDoor
open Go.RowKit

/-- What jotterref06.EncodeItem answers. -/
def RefEncItemPost (w : World) (x : It) (e : Ending) (w' : World) : Prop := ∃ bs c a v, encIR x bs c a ∧ e = .returned (.tuple #[v, .int .i64 c, .int .i64 a]) ∧ Own w' w.heap.size v bs ∧ Below w.heap.size w w'
theorem laidB_congr {l : List Nat} {v v' : Nat → Int} (h : ∀ f ∈ l, v f = v' f) : laidB v l = laidB v' l := by
  unfold laidB
  induction l with
  | nil => rfl
  | cons f t ih =>
    rw [List.flatMap_cons, List.flatMap_cons, ih (fun g hg => h g (by simp [hg]))]
    congr 1
    unfold fieldB
    rw [h f (by simp)]

set_option maxRecDepth 100000 in
set_option maxHeartbeats 1000000 in
theorem refEncodeItem_kind (x : It) (w : World) (hk : x.k < 1 ∨ 2 < x.k) : Calls Tryd.prog 50 #[.agg x.cs] w (RefEncItemPost w x) := by
  have hM0 : ItemAt (w.alloc (.cells x.cs 39)) w.heap.size x := heap_alloc_new _ _
  have hb0 := below1 w (.cells x.cs 39)
  have e0 : shapeI x.k.toNat = [] := by
    unfold shapeI
    split
    · omega
    · omega
    · rfl
  have hcall : ∀ w, Calls Tryd.prog 88 #[.int .i64 x.k] w (ListPost w []) := fun w => by have := itemFields_any x.k w; rwa [e0] at this
  have HC := Lib.hid hcall; have HB0 := Lib.hid hb0; have HENC := Lib.hid (show encIR x [] 61 0 from .inl ⟨hk, rfl, rfl, rfl⟩)
  obtain ⟨k, ep, ta, ⟨ok, op, oc, ol, os⟩⟩ := x
  have hc0 := (item_all hM0).1
  simp only [It.cs] at hc0 HB0 ⊢
  clear hM0 e0 hcall hb0 hk
  go_enter Tryd.func50, Tryd.ntmps50
  go_wp2_with fail
  refine (HC.out _).mono ?_
  rintro e w1 ⟨ao, rfl, _, _, hb1⟩
  have HB1 := Lib.hid (HB0.out.trans (hb1.mono HB0.out.size))
  clear hb1
  go_wp2_with fail
  go_ret3
  exact ⟨_, _, _, _, HENC.out, rfl, Own.nil _ _, HB1.out⟩

abbrev MI (w : World) (g : Nat) (ep ta ok op oc ol os : Int) (gi : Nat) (k : Int) : Prop := MS w g 5 ep 0 0 0 0 0 0 ta ok op oc ol os ∧ w.cell? ⟨gi, 0, none⟩ = some (.int .i64 k)
theorem miDrew {w : World} {g : Nat} {ep ta ok op oc ol os : Int} {gi : Nat} {k : Int} (h : MI w g ep ta ok op oc ol os gi k) : MI w.drew g ep ta ok op oc ol os gi k := h
theorem miTail {w X w' : World} {g : Nat} {ep ta ok op oc ol os : Int} {gi : Nat} {k : Int} (h : MI w g ep ta ok op oc ol os gi k) (hb : Below X.heap.size X w') (e4 : X.heap = w.heap) : MI w' g ep ta ok op oc ol os gi k :=
  ⟨msTail h.1 hb e4, cell_tail h.2 hb e4⟩
theorem miKeep {w : World} {g : Nat} {ep ta ok op oc ol os : Int} {gi : Nat} {k : Int} (h : MI w g ep ta ok op oc ol os gi k) (X : Obj) : MI (w.alloc X) g ep ta ok op oc ol os gi k := ⟨msKeep h.1 X, cell_alloc h.2 X⟩

set_option maxRecDepth 100000 in
set_option maxHeartbeats 1000000 in
theorem refEncodeItem_any (x : It) (k : Nat) (w : World) (hk : x.k = k) (h1 : 1 ≤ k) (h2 : k ≤ 2) (hch : 0 ≤ x.op.ch ∧ x.op.ch ≤ 255) : Calls Tryd.prog 50 #[.agg x.cs] w (RefEncItemPost w x) := by
  have hM0 : ItemAt (w.alloc (.cells x.cs 39)) w.heap.size x := heap_alloc_new _ _
  have hb0 := below1 w (.cells x.cs 39)
  have hcall : ∀ w, Calls Tryd.prog 88 #[.int .i64 (k : Int)] w (ListPost w (shapeI k)) := fun w => itemFields_any k w
  have hasm : ∀ w, Calls Tryd.prog 89 #[.agg x.cs] w (RetV w (.agg (asM x).cs)) := fun w => asMsg_any x w
  have hget : ∀ f : Nat, 1 ≤ f → f < 14 → ∀ w, Calls Tryd.prog 92 #[.agg (asM x).cs, .int .i64 f] w (RetV w (.int .i64 ((asM x).at f))) := fun f h1 h2 w => get_any (asM x) f w h1 h2 hch
  have hhold : ∀ f : Nat, 1 ≤ f → f < 14 → ∀ w, Calls Tryd.prog 91 #[.agg (asM x).cs, .int .i64 f] w (RetV w (.bool (refHolds (asM x) f))) := fun f h1 h2 w => holds_any (asM x) f w h1 h2 hch
  have hbad : ∀ f ∈ fieldsI, refBad (shapeI k) (asM x) f = badAt (shapeI k) x.m.at 0 f := fun f hf => refBadI_eq k x f hf
  have hfull : ∀ v w', (∀ j, j < 7 → badAt (shapeI k) x.m.at 0 (fieldsI.getD j 0) = false) → Own w' w.heap.size v (encI x) → Below w.heap.size w w' → RefEncItemPost w x (.returned (.tuple #[v, .int .i64 0, .int .i64 (-1)])) w' := fun v w' hg ho hb =>
    ⟨_, _, _, _, .inr (.inl ⟨k, hk, h1, h2, fun f hf => by obtain ⟨j, hj, rfl⟩ := List.mem_iff_getElem.1 hf; have := hg j hj; rwa [List.getD_eq_getElem?_getD, List.getElem?_eq_getElem hj] at this, rfl, rfl, rfl⟩), rfl, ho, hb⟩
  have hpart : ∀ (j : Nat) w', j < 7 → (∀ q, q < j → badAt (shapeI k) x.m.at 0 (fieldsI.getD q 0) = false) → badAt (shapeI k) x.m.at 0 (fieldsI.getD j 0) = true → Below w.heap.size w w' → RefEncItemPost w x (.returned (.tuple #[.slice none 0 0, .int .i64 63, .int .i64 (j + 1 : Nat)])) w' := fun j w' f2 hg hb hbl =>
    ⟨_, _, _, _, .inr (.inr ⟨k, j, hk, h1, h2, f2, hg, hb, rfl, rfl, rfl⟩), rfl, Own.nil _ _, hbl⟩
  have hgood : (∀ j, j < 7 → badAt (shapeI k) x.m.at 0 (fieldsI.getD j 0) = false) → ∀ f ∈ shapeI k, 1 ≤ f ∧ f < 14 ∧ 0 ≤ (asM x).at f ∧ (asM x).at f ≤ 65535 := fun hg f hf => by
    have hG : GoodI k x := fun f hf => by obtain ⟨j, hj, rfl⟩ := List.mem_iff_getElem.1 hf; have := hg j hj; rwa [List.getD_eq_getElem?_getD, List.getElem?_eq_getElem hj] at this
    have := fineI_range ((goodI_fine k x hk h1 h2).1 hG) k hk f hf
    rwa [asM_at x f (shapeI_in k f hf)]
  have henc : encI x = Proofs.YtoophonmonojcaaDoor.u8 (k : Int) :: laidB (asM x).at (shapeI k) := by
    unfold encI layB
    have e1 : x.k.toNat = k := by omega
    have e2 : x.m.at 0 = (k : Int) := hk
    rw [e1, e2, laidB_congr (fun f hf => asM_at x f (shapeI_in k f hf))]
    rfl
  have hwr : ∀ (ao : Option Addr) (cap : Nat) (X : World), (∀ f ∈ shapeI k, 1 ≤ f ∧ f < 14 ∧ 0 ≤ (asM x).at f ∧ (asM x).at f ≤ 65535) → RdN X ao (shapeI k) → Calls Tryd.prog 93 #[.agg (asM x).cs, .slice ao (shapeI k).length cap] X (OwnPost X (laidB (asM x).at (shapeI k))) := fun ao cap X hr hx =>
    written_any (asM x) ao _ cap (shapeI k) X rfl hx (by have := shapeI_len k h1 h2; omega) (fun f hf => ⟨(hr f hf).1, (hr f hf).2.1⟩) (fun f hf => (hr f hf).2.2) hch
  have hsl := shapeI_len k h1 h2
  obtain ⟨L, hL⟩ : ∃ L, L = shapeI k := ⟨_, rfl⟩
  rw [← hL] at hcall hbad hfull hpart hgood henc hwr hsl
  have HC := Lib.hid hcall; have HB0 := Lib.hid hb0; have HASM := Lib.hid hasm; have HGET := Lib.hid hget; have HHOLD := Lib.hid hhold; have HBAD := Lib.hid hbad; have HFULL := Lib.hid hfull; have HPART := Lib.hid hpart; have HGOOD := Lib.hid hgood; have HENC := Lib.hid henc; have HWR := Lib.hid hwr
  clear hcall hb0 hasm hget hhold hbad hfull hpart hgood henc hwr hL hch
  have HM0 := Lib.hid hM0
  obtain ⟨V, hV⟩ : ∃ V, V = (asM x).at := ⟨_, rfl⟩
  obtain ⟨VI, hVI⟩ : ∃ VI, VI = x.m.at := ⟨_, rfl⟩
  obtain ⟨H, hH⟩ : ∃ H, H = refHolds (asM x) := ⟨_, rfl⟩
  have HVV := Lib.hid hV; have HHH := Lib.hid hH
  rw [← hV] at HGET HGOOD HENC HWR
  rw [← hVI] at HBAD HFULL HPART HGOOD
  rw [← hH] at HHOLD
  obtain ⟨RP, hRP⟩ : ∃ RP, RP = RefEncItemPost w x := ⟨_, rfl⟩
  rw [← hRP] at HFULL HPART ⊢
  obtain ⟨EB, hEB⟩ : ∃ EB, EB = encI x := ⟨_, rfl⟩
  rw [← hEB] at HFULL HENC
  obtain ⟨RB, hRB⟩ : ∃ RB, RB = refBad L (asM x) := ⟨_, rfl⟩
  have HRB := Lib.hid (show ∀ f, RB f = (if f ∈ L then !H f else V f != 0) from fun f => by rw [hRB, hH, hV]; rfl)
  rw [← hRB] at HBAD
  clear hV hVI hH hRP hEB hRB HVV HHH
  obtain ⟨mk, ep, ta, ⟨ok, op, oc, ol, os⟩⟩ := x
  dsimp only at hk
  subst hk
  have hc0 := (item_all hM0).1
  clear hM0
  simp only [It.cs, asM] at hc0 HB0 HASM HGET HHOLD HWR HM0 ⊢
  simp only [M.cs] at HWR
  have hit : Hid (ItemAt (w.alloc (.cells #[Value.int .i64 (k : Int), Value.int .i64 ep, Value.int .i64 ta, Value.int .i64 ok, Value.int .i64 op, Value.int .u8 oc, Value.int .i64 ol, Value.int .i64 os] 39)) w.heap.size ⟨(k : Int), ep, ta, ⟨ok, op, oc, ol, os⟩⟩) := HM0
  clear HM0
  go_enter Tryd.func50, Tryd.ntmps50
  go_wp2_with fail
  refine (HC.out _).mono ?_
  rintro e w1 ⟨ao, rfl, hrn, hnil, hb1⟩
  have HB1 := Lib.hid (HB0.out.trans (hb1.mono HB0.out.size)); have HI1 := Lib.hid (hit.out.keep hb1); have HRN := Lib.hid hrn
  clear hb1 hrn hnil hc0 hit
  obtain ⟨n, hn⟩ : ∃ n, n = L.length := ⟨_, rfl⟩
  rw [← hn] at hsl HWR ⊢
  have HN := Lib.hid hn
  clear hn
  have hn0 : ((n : Int) == 0) = false := by rw [beq_eq_false_iff_ne]; omega
  go_wp2_with (with_reducible refine wpList_loadItem rfl (.tmp 1) rfl w.heap.size _ rfl HI1.out ?_)
  refine (HASM.out _).mono ?_
  rintro e w2 ⟨rfl, hb2⟩
  have HB2 := Lib.hid (HB1.out.trans (hb2.mono HB1.out.size)); have HI2 := Lib.hid (HI1.out.keep hb2); have HRN2 := Lib.hid (HRN.out.keep hb2)
  clear hb2
  have HZZ := Lib.hid (show MsgAt (w2.alloc (.cells #[.int .i64 0, .int .i64 0, .int .i64 0, .int .i64 0, .int .i64 0, .int .i64 0, .int .i64 0, .int .i64 0, .int .i64 0, .int .i64 0, .int .i64 0, .int .u8 0, .int .i64 0, .int .i64 0] 25)) w2.heap.size zeroM from heap_alloc_new _ _)
  go_wp2_with ((with_reducible refine wpList_storeMsg2 rfl (.tmp 6) (.tmp 17) rfl rfl w2.heap.size zeroM ⟨5, ep, 0, 0, 0, 0, 0, 0, ta, ⟨ok, op, oc, ol, os⟩⟩ rfl rfl HZZ.out ?_); intro w3 hm3 ht3 ho3; have HM3 := Lib.hid hm3; have HT3 := Lib.hid ht3; have HO3 := Lib.hid ho3; clear hm3 ht3 ho3)
  have hbz := (Below.refl w2.heap.size w2).alloc (Nat.le_refl _) (.cells #[.int .i64 0, .int .i64 0, .int .i64 0, .int .i64 0, .int .i64 0, .int .i64 0, .int .i64 0, .int .i64 0, .int .i64 0, .int .i64 0, .int .i64 0, .int .u8 0, .int .i64 0, .int .i64 0] 25)
  have hb3 : Below w2.heap.size w2 w3 := HT3.out _ _ (Nat.le_refl _) hbz
  have HB3 := Lib.hid (HB2.out.trans (hb3.mono HB2.out.size)); have HI3 := Lib.hid (HI2.out.keep hb3); have HRN3 := Lib.hid (HRN2.out.keep hb3)
  clear hb3 hbz HT3 HO3
  have hb4 := below1 w3 (.cells #[Value.int .i64 1, Value.int .i64 8, Value.int .i64 9, Value.int .i64 10, Value.int .i64 11, Value.int .i64 12, Value.int .i64 13] 3)
  have HB4 := Lib.hid (HB3.out.trans (hb4.mono HB3.out.size)); have HI4 := Lib.hid (HI3.out.keep hb4); have HRN4 := Lib.hid (HRN3.out.keep hb4); have HM4 := Lib.hid (HM3.out.keep hb4)
  have HOR := Lib.hid (rdN_new w3 fieldsI #[Value.int .i64 1, Value.int .i64 8, Value.int .i64 9, Value.int .i64 10, Value.int .i64 11, Value.int .i64 12, Value.int .i64 13] 3 rfl)
  clear hb4
  generalize w3.alloc (.cells #[Value.int .i64 1, Value.int .i64 8, Value.int .i64 9, Value.int .i64 10, Value.int .i64 11, Value.int .i64 12, Value.int .i64 13] 3) = w4 at HB4 HI4 HRN4 HM4 HOR ⊢
  go_loopw [8] (fun i wr => ∃ j : Nat, j ≤ 7 ∧ i = .int .i64 j ∧ Below w4.heap.size w4 wr ∧ Hid (∀ q, q < j → badAt L VI 0 (fieldsI.getD q 0) = false)) (fun i _ => 7 - (intOf i).toNat)
  case atStart => exact ⟨0, by omega, rfl, Below.refl _ _, fun j h1 => by omega⟩
  case round =>
    obtain ⟨j, j7, rfl, hbel, hgd⟩ := hrel
    have HBEL := Lib.hid hbel; have HM5 := Lib.hid (HM4.out.keep hbel); have HRN5 := Lib.hid (HRN4.out.keep hbel); have HB5 := Lib.hid (HB4.out.trans (hbel.mono HB4.out.size)); have HI5 := Lib.hid (HI4.out.keep hbel); have HOR5 := Lib.hid (HOR.out.keep hbel)
    clear hbel
    by_cases hlt : j < 7
    · obtain ⟨bo, oo, e5, _, hcf⟩ := HOR5.out.some (by decide)
      cases e5
      have hcj := hcf j hlt
      rw [Nat.zero_add] at hcj
      have hfm := fieldsI_mem j hlt
      have hbd := HBAD.out _ hfm
      have hf13 := fieldsI_lt _ hfm
      have hrb := HRB.out (fieldsI.getD j 0)
      have hpt := fun w' => HPART.out j w' hlt hgd.out
      have hnx : badAt L VI 0 (fieldsI.getD j 0) = false → ∀ q, q < j + 1 → badAt L VI 0 (fieldsI.getD q 0) = false := by
        intro h q hq
        rcases Nat.lt_or_ge q j with h' | h'
        · exact hgd.out q h'
        · obtain rfl : q = j := by omega
          exact h
      obtain ⟨f, hfd⟩ : ∃ f, f = fieldsI.getD j 0 := ⟨_, rfl⟩
      rw [← hfd] at hcj hbd hf13 hrb hpt hnx
      have HPT := Lib.hid hpt; have HNX := Lib.hid hnx
      clear hcf hfm hfd hpt hnx
      go_wp2_with fail
      refine (among_ref ao n n L f _ HN.out.symm HRN5.out (by omega)).mono ?_
      rintro e w6 ⟨rfl, rfl⟩
      by_cases hm : f ∈ L
      · have hd : decide (f ∈ L) = true := by simp [hm]
        rw [if_pos hm] at hrb
        rw [hd]
        have HBD := Lib.hid (hrb.symm.trans hbd)
        clear hm hd hrb hbd
        go_wp2_with (with_reducible refine wpList_loadMsg rfl (.tmp 6) rfl w2.heap.size _ rfl HM5.out ?_)
        refine (HHOLD.out f hf13.1 hf13.2 _).mono ?_
        rintro e w7 ⟨rfl, hb7⟩
        have HB7 := Lib.hid (HB5.out.trans (hb7.mono HB5.out.size)); have HBEL7 := Lib.hid (HBEL.out.trans (hb7.mono HBEL.out.size))
        clear hb7
        cases hh : H f
        · rw [hh] at HBD
          clear hh
          go_wp2_with fail
          go_ret3
          exact HPT.out w7 HBD.out.symm HB7.out
        · rw [hh] at HBD
          clear hh
          go_wp2_with fail
          go_roundw
          case rel => exact ⟨j + 1, by omega, by go_num, HBEL7.out, HNX.out HBD.out.symm⟩
          case measure => simp [intOf]; omega
      · have hd : decide (f ∈ L) = false := by simp [hm]
        rw [if_neg hm] at hrb
        rw [hd]
        have HBD := Lib.hid (hrb.symm.trans hbd)
        clear hm hd hrb hbd
        go_wp2_with (with_reducible refine wpList_loadMsg rfl (.tmp 6) rfl w2.heap.size _ rfl HM5.out ?_)
        refine (HGET.out f hf13.1 hf13.2 _).mono ?_
        rintro e w7 ⟨rfl, hb7⟩
        have HB7 := Lib.hid (HB5.out.trans (hb7.mono HB5.out.size)); have HBEL7 := Lib.hid (HBEL.out.trans (hb7.mono HBEL.out.size))
        clear hb7
        cases hh : (V f != 0)
        · rw [hh] at HBD
          go_wp2_with fail
          go_roundw
          case rel => exact ⟨j + 1, by omega, by go_num, HBEL7.out, HNX.out HBD.out.symm⟩
          case measure => simp [intOf]; omega
        · rw [hh] at HBD
          go_wp2_with fail
          go_ret3
          exact HPT.out w7 HBD.out.symm HB7.out
    · obtain rfl : j = 7 := by omega
      have hgd2 := HGOOD.out hgd.out
      have HG2 := Lib.hid hgd2
      clear hgd2
      have hms : MI wr w2.heap.size ep ta ok op oc ol os w.heap.size (k : Int) := ⟨msg_cells14 HM5.out, (item_all HI5.out).1⟩
      have HMS := Lib.hid hms
      have hgf := Nat.le_refl wr.heap.size
      have hbel2 := Below.refl wr.heap.size wr
      have HSZ := Lib.hid HB5.out.size
      have hlb := laidB_le V L
      have hlb1 := laidB_pos V L (by have := HN.out; omega)
      have HPOS := Lib.hid hlb1; have HLEN := Lib.hid (show [Proofs.YtoophonmonojcaaDoor.u8 (k : Int)].length + (laidB V L).length ≤ 140737488355328 by have := HN.out; simp; omega)
      clear hlb hlb1
      go_wp2_with fail
      go_region_held3 (fun w' => MI w' w2.heap.size ep ta ok op oc ol os w.heap.size (k : Int)) (with_reducible first | exact hms | exact miDrew hms | exact miKeep hms _ | exact miDrew (miKeep hms _))
        (first
         | ((with_reducible refine (HWR.out ao n _ HG2.out (HRN5.out.keep (by first | exact Below.refl _ _ | exact (Below.refl _ _).drew | exact (below1 _ _).drew | exact below1 _ _))).mono ?_); rintro e w' ⟨vw, rfl, how, hb3⟩; first | (have hms := miTail hms hb3 rfl; have HBL := Lib.hid (below_tail hbel2 hb3 rfl rfl rfl rfl hgf)) | (have hms := miTail (miKeep hms (.cells #[Value.int IntKind.u8 (IntKind.u8.wrap (k : Int))] 5)) hb3 rfl; have HBL := Lib.hid (below_tail (hbel2.alloc hgf (.cells #[Value.int IntKind.u8 (IntKind.u8.wrap (k : Int))] 5)) hb3 rfl rfl rfl rfl (by simp))))
         | (refine step_appendB rfl (.tmp 47) (.tmp 50) rfl wr.heap.size (.slice (some ⟨wr.heap.size, 0, none⟩) 1 1) [Proofs.YtoophonmonojcaaDoor.u8 (k : Int)] (laidB V L) rfl (one_before (wrap_bv _) (Nat.le_refl _) hb3) vw rfl _ how HPOS.out HLEN.out HBL.out.size ?_; intro v4 w5 ho4 hg4; have HBM := Lib.hid (Own.grown (one_before (wrap_bv _) (Nat.le_refl _) hb3) HBL.out HBL.out.size hg4); have hms := miTail HMS.out HBM.out rfl)
         | (refine step_appendB rfl (.tmp 47) (.tmp 50) rfl wr.heap.size (.slice (some ⟨w'.heap.size, 0, none⟩) 1 1) [Proofs.YtoophonmonojcaaDoor.u8 (k : Int)] (laidB V L) rfl (one_behind (wrap_bv _) HBL.out.size) vw rfl _ (how.keep (below1 _ _)) HPOS.out HLEN.out (by have := HBL.out.size; simp; omega) ?_; intro v4 w5 ho4 hg4; have HBM := Lib.hid (Own.grown (one_behind (wrap_bv _) HBL.out.size) (HBL.out.alloc HBL.out.size (.cells #[Value.int IntKind.u8 (IntKind.u8.wrap (k : Int))] 5)) (by have := HBL.out.size; simp; omega) hg4); have hms := miTail HMS.out HBM.out rfl))
      all_goals
        have HB8 := Lib.hid (HB5.out.trans (HBM.out.mono HSZ.out)); have HO8 := Lib.hid (ho4.lower HSZ.out)
        clear hms ho4 hg4 how hb3
        go_wp2_with fail
        go_ret3
        have ho := HO8.out
        rw [show [Proofs.YtoophonmonojcaaDoor.u8 (k : Int)] ++ laidB V L = Proofs.YtoophonmonojcaaDoor.u8 (k : Int) :: laidB V L from rfl, ← HENC.out] at ho
        exact HFULL.out _ _ hgd.out ho HB8.out
theorem refEncodeItem_all (x : It) (w : World) (hch : 0 ≤ x.op.ch ∧ x.op.ch ≤ 255) : Calls Tryd.prog 50 #[.agg x.cs] w (RefEncItemPost w x) := by
  by_cases hk : x.k < 1 ∨ 2 < x.k
  · exact refEncodeItem_kind x w hk
  · exact refEncodeItem_any x x.k.toNat w (by omega) (by omega) (by omega) hch
end Go.Proofs.YtoophonmonojcaaDoor

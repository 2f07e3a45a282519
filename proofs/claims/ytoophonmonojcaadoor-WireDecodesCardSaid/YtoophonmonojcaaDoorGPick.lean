/- Several texts laid as one, in this order: WirePickW, WireBody, WireDecode, MsgEq. -/
import Derived.Test.YtoophonmonojcaaDoorGEnc
import Derived.Laws.IdiomCopy
import Derived.Test.YtoophonmonojcaaDoorGSpec
import Derived.Test.YtoophonmonojcaaDoorGOwn
import Derived.Deep.RegionHeld3
import Derived.Deep.CutRange
import Derived.Deep.WholeRow
import Derived.Laws.StructEq
/- The walk of wire's pick. -/
namespace Go.Proofs.YtoophonmonojcaaDoor
open Go.RowKit

attribute [local go_sem] store_nilFunc store_func
theorem ord_shape (k : Nat) (h1 : 1 ≤ k) (h6 : k ≤ 6) : Ord (shapeN k) (k == 2) := by
  have hc : k = 1 ∨ k = 2 ∨ k = 3 ∨ k = 4 ∨ k = 5 ∨ k = 6 := by omega
  rcases hc with rfl | rfl | rfl | rfl | rfl | rfl <;> exact ⟨by decide, by decide, by decide⟩
theorem ValsAt.other {w w' : World} {g r : Nat} {v : Nat → Int} (h : ValsAt w g v) (hg : w.grownBy w' (some r)) (hne : g ≠ r) : ValsAt w' g v := (hg.block g (heap_lt h) (by simp; omega)).trans h
theorem below_grown {B r : Nat} {w0 w w' : World} (hb : Below B w0 w) (hg : w.grownBy w' (some r)) (hr : B ≤ r) (hB : B ≤ w.heap.size) : Below B w0 w' :=
  ⟨hg.os.trans hb.os, hg.tape.trans hb.tape, hg.output.trans hb.output, Nat.le_trans hb.size hg.size, fun k hk => (hg.block k (Nat.lt_of_lt_of_le hk hB) (by simp; omega)).trans (hb.block k hk)⟩


theorem infoInt1 : (Tryd.prog.info? 3).map (·.size) = some 1 := by kernel_rfl
theorem infoVals : (Tryd.prog.info? 114).map (·.size) = some 14 := by kernel_rfl
theorem run_storeNum (w : World) (g f : Nat) (v : Nat → Int) (x0 : Int) (hg : ValsAt w g v) (hf : f < 14) : (storeVar 3 ⟨g, f, none⟩ (.int .i64 x0)).run Tryd.prog w = .ok () (w.setCell ⟨g, f, none⟩ (.int .i64 x0)) := by
  have := run_storeCells_cells (P := Tryd.prog) g f [Value.int .i64 x0] 0 w (fun j hj => by obtain rfl : j = 0 := (by simp at hj; exact hj); simp [hg.nums f hf]) (fun j hj => by simp [hg.frozen]) (fun u hu => by simp at hu; subst hu; rfl)
  simp only [Nat.add_zero, World.setCells] at this
  cases hq : Tryd.prog.info? 3 with
  | none => have := infoInt1; simp [hq] at this
  | some i =>
    have hs : i.size = 1 := by have := infoInt1; simpa [hq] using this
    simp [storeVar, sizeOf, typeInfo, hq, Value.cells, hs, this]
/-- One number is stored. -/
theorem wpList_storeNum {ops : Array Oper} {rest : List Oper} {o : Oper} {a : Act} {w : World} {Q : Exit → Act → World → Prop} (hgd : o.guard = none) (x y : Operand) (ho : o.op = .store 3 x y) (hd : o.dst = none) (g f : Nat) (v v' : Nat → Int) (x0 : Int)
    (hx : a.eval x = .pointer (some ⟨g, f, none⟩)) (hy : a.eval y = .int .i64 x0) (hg : ValsAt w g v) (hf : f < 14) (hv : ∀ j, j < 14 → v' j = if j = f then x0 else v j)
    (h : ∀ w', ValsAt w' g v' → w.grownBy w' (some g) → wpList Tryd.prog ops Q rest a w') : wpList Tryd.prog ops Q (o :: rest) a w :=
  wpList_plain hgd fun _ hK => by
    unfold Oper.wp execOp
    simp only [ho, hx, hy, Instr.storeAt, Instr.sureAddr, Sem.run_bind, Sem.run_pure, Result.andThen_ok, run_storeNum w g f v x0 hg hf]
    refine hK _ _ ?_
    rw [hd]
    exact h _ (hg.set f hf x0 hv) (grown_setCell w ⟨g, f, none⟩ _)
/-- All fourteen are loaded; stored. -/
theorem wpList_loadVals {w : World} {ops : Array Oper} {rest : List Oper} {o : Oper} {a : Act} {Q : Exit → Act → World → Prop} (hgd : o.guard = none) (x : Operand) (ho : o.op = .load 114 x) (g : Nat) (v : Nat → Int)
    (hx : a.eval x = .pointer (some ⟨g, 0, none⟩)) (hg : ValsAt w g v) (h : wpList Tryd.prog ops Q rest (a.put o.dst (.agg (vals v))) w) : wpList Tryd.prog ops Q (o :: rest) a w :=
  wpList_load_row hgd 114 x ho g hx 114 (vals v) (0, 0) _ hg Tryd.underlying114 rfl infoVals h
theorem wpList_storeVals {w : World} {ops : Array Oper} {rest : List Oper} {o : Oper} {a : Act} {Q : Exit → Act → World → Prop} (hgd : o.guard = none) (x y : Operand) (ho : o.op = .store 114 x y) (hd : o.dst = none) (g : Nat) (v v' : Nat → Int)
    (hx : a.eval x = .pointer (some ⟨g, 0, none⟩)) (hy : a.eval y = .agg (vals v')) (hg : ValsAt w g v) (h : ∀ w', ValsAt w' g v' → (∀ B w0, B ≤ g → Below B w0 w → Below B w0 w') → (∀ k, k ≠ g → w'.heap[k]? = w.heap[k]?) → wpList Tryd.prog ops Q rest a w') : wpList Tryd.prog ops Q (o :: rest) a w :=
  wpList_store_rowTo hgd 114 x y ho hd g (vals v') hx hy 114 (vals v) hg infoVals rfl (by simp [vals, Value.oneCell']) (h _ (setRow_heap w g _ _ _ _ hg) (fun B w0 hB hb => below_setRow hb hB _) (fun k hk => setRow_other w g k _ hk))
theorem num_first (i : List UInt8) (l : List Nat) (h : 1 ≤ i.length) : ((num ((i.drop 0).take 1) : Nat) : Int) = readB i l 0 := by
  unfold readB
  rw [if_pos rfl]
  match i, h with
  | a :: t, _ => simp [num_one]

theorem grown_cell {w w' : World} {r : Nat} (hg : w.grownBy w' (some r)) {a : Addr} {v : Value} (h : w.cell? a = some v) (hne : a.block ≠ r) : w'.cell? a = some v := by
  have e := hg.block a.block (block_lt h) (by simp; omega)
  unfold World.cell? at *
  rw [e]; exact h
theorem ReaderAt.other {w w' : World} {g gb r at_ : Nat} {l : List UInt8} {ev : Value} (h : ReaderAt w g gb l at_ ev) (hg : w.grownBy w' (some r)) (h1 : g ≠ r) (h2 : gb ≠ r) : ReaderAt w' g gb l at_ ev :=
  ⟨(hg.block g h.lt (by simp; omega)).trans h.1, (hg.block gb h.2.lt (by simp; omega)).trans h.2⟩
theorem badI_some (b : List UInt8) (l : List Nat) (own : Bool) (k : Nat) (hk : k < l.length) (hm : mayB (l.getD k 0) (readB b l) (makerB own (readB b l)) = false) (hg : ∀ j, j < k → mayB (l.getD j 0) (readB b l) (makerB own (readB b l)) = true) : badI b l own = some k := by
  unfold badI
  rw [List.find?_range_eq_some]
  exact ⟨by rw [hm]; rfl, by simpa using hk, fun j hj => by rw [hg j hj]; rfl⟩
theorem badI_all (b : List UInt8) (l : List Nat) (own : Bool) (hg : ∀ j, j < l.length → mayB (l.getD j 0) (readB b l) (makerB own (readB b l)) = true) : badI b l own = none := by
  unfold badI
  rw [List.find?_range_eq_none]
  exact fun j hj => by rw [hg j hj]; rfl
/-- Where pick's round stands. -/
structure PickInv (w wr : World) (i : List UInt8) (l : List Nat) (own : Bool) (gr gb ga k : Nat) : Prop where
  res : ValsAt wr w.heap.size fun _ => 0
  val : ValsAt wr (w.heap.size + 1) (cut i l k)
  f1 : wr.cell? ⟨ga, 1, none⟩ = some (.func (.func 119) #[.pointer (some ⟨gr, 0, none⟩)] #[])
  f2 : wr.cell? ⟨ga, 2, none⟩ = some (.func (.func 115) #[.pointer (some ⟨gr, 0, none⟩)] #[])
  rd : ReaderAt wr gr gb i (posI l k) .nilIface
  below : Below w.heap.size w wr
  good : ∀ j, j < k → mayB (l.getD j 0) (readB i l) (makerB own (readB i l)) = true

set_option maxRecDepth 100000 in
set_option maxHeartbeats 2000000 in
theorem pick_core (ao : Option Addr) (n cap : Nat) (i : List UInt8) (b off ns caps : Nat) (l : List Nat) (own : Bool) (w : World) (Q : Ending → World → Prop) (hQ : ∀ e w', PickPost w i l own e w' → Q e w') (hl : i.length = n) (hr : Rd w ao i) (hll : l.length = ns) (hrn : RdN w (some ⟨b, off, none⟩) l) (h0 : 0 < ns) (hn14 : ns ≤ 14) (hlong : i.length = longOf l) (hord : Ord l own) (hs : Sizes w) :
    Calls Tryd.prog 82 #[.slice ao n cap, .slice (some ⟨b, off, none⟩) ns caps, .bool own] w Q := by
  obtain ⟨b', off', e, hbw, hc⟩ := hrn.some (by omega)
  cases e
  rw [hll] at hc
  have hb29 := posI_bound l l.length (fun f hf => (hord.2.2 f hf).2)
  rw [posI_all, ← hlong, hl, hll] at hb29
  have HL := Lib.hid hl; have HR := Lib.hid hr; have HLL := Lib.hid hll; have HC := Lib.hid hc; have HLO := Lib.hid hlong; have HO := Lib.hid hord; have HS := Lib.hid hs; have HQ := Lib.hid hQ
  clear hl hr hll hrn hc hlong hord hs hQ
  go_enter Tryd.func82, Tryd.ntmps82
  go_wp2_with fail
  refine (newReader_any ao n cap i _ HL.out (HR.out.step (((Below.refl _ w).alloc (Nat.le_refl _) _).alloc (by simp) _)) (by omega)).mono ?_
  rintro e w1 ⟨gr, gb, rfl, hgr, hgb, hra, hb1⟩
  have hV0 : ValsAt w1 w.heap.size fun _ => 0 := (hb1.block w.heap.size (by simp; omega)).trans (heap_one w _ _)
  have hV1 : ValsAt w1 (w.heap.size + 1) fun _ => 0 := (hb1.block (w.heap.size + 1) (by simp)).trans (heap_two w _ _)
  have hgr2 : w.heap.size + 2 ≤ gr := by simpa using hgr
  have hgb2 : w.heap.size + 2 ≤ gb := by simpa using hgb
  have hB1 : Below w.heap.size w w1 := (((Below.refl _ w).alloc (Nat.le_refl _) _).alloc (by simp) _).trans (hb1.mono (by simp; omega))
  have HV0 := Lib.hid hV0; have HV1 := Lib.hid hV1; have HB1 := Lib.hid hB1; have HRA := Lib.hid hra
  clear hgr hgb hV0 hV1 hB1 hra hb1
  go_wp2_with fail
  have hgrl := HRA.out.lt
  have hgbl := HRA.out.2.lt
  refine (u8_ok gr gb i 0 _ (HRA.out.below ((Below.refl _ w1).alloc (Nat.le_refl _) _) hgrl hgbl) (by have := HLO.out; unfold longOf at this; omega) (by have := HL.out; omega)).mono ?_
  rintro e w2 ⟨rfl, hra2, hg2⟩
  have hV02 : ValsAt w2 w.heap.size fun _ => 0 := ValsAt.other ((((Below.refl _ w1).alloc (Nat.le_refl _) _).block w.heap.size (heap_lt HV0.out)).trans HV0.out) hg2 (by omega)
  have hV12 : ValsAt w2 (w.heap.size + 1) fun _ => 0 := ValsAt.other ((((Below.refl _ w1).alloc (Nat.le_refl _) _).block (w.heap.size + 1) (heap_lt HV1.out)).trans HV1.out) hg2 (by omega)
  have hfb : w2.heap[w1.heap.size]? = _ := (hg2.block w1.heap.size (by simp) (by simp; omega)).trans (heap_alloc_new _ _)
  have hF1 : w2.cell? ⟨w1.heap.size, 1, none⟩ = some (.func (.func 119) #[.pointer (some ⟨gr, 0, none⟩)] #[]) := by simp [World.cell?, hfb]
  have hF2 : w2.cell? ⟨w1.heap.size, 2, none⟩ = some (.func (.func 115) #[.pointer (some ⟨gr, 0, none⟩)] #[]) := by simp [World.cell?, hfb]
  have hB2 : Below w.heap.size w w2 := below_grown (HB1.out.alloc HB1.out.size _) hg2 (by omega) (by have := HB1.out.size; simp; omega)
  rw [num_first i l (by have := HLO.out; unfold longOf at this; omega)]
  have hgaw : w.heap.size + 2 ≤ w1.heap.size := by have := heap_lt HV1.out; omega
  have hgar : w1.heap.size ≠ gr := by omega
  have HF1 := Lib.hid hF1; have HF2 := Lib.hid hF2; have HV02 := Lib.hid hV02; have HV12 := Lib.hid hV12; have HB2 := Lib.hid hB2; have HR2 := Lib.hid hra2
  clear hF1 hF2 hV02 hV12 hB2 hra2 hfb hg2 HV0 HV1 HB1 HRA
  have hc0 : ∀ j, j < 14 → cut i l 0 j = if j = 0 then readB i l 0 else (fun _ => 0) j := by
    intro j _
    unfold cut
    by_cases h : j = 0
    · subst h; simp
    · simp [h]
  have HC0 := Lib.hid hc0
  clear hc0
  go_wp2_with ((with_reducible refine wpList_storeNum rfl (.tmp 24) (.tmp 23) rfl rfl (w.heap.size + 1) 0 (fun _ => 0) (cut i l 0) (readB i l 0) rfl rfl HV12.out (by decide) HC0.out ?_); intro w3 hv3 hg3; have HV3 := Lib.hid hv3; have HG3 := Lib.hid hg3; clear hv3 hg3)
  have hinv : PickInv w w3 i l own gr gb w1.heap.size 0 := ⟨HV02.out.other HG3.out (by omega), HV3.out, grown_cell HG3.out HF1.out (by dsimp only; omega), grown_cell HG3.out HF2.out (by dsimp only; omega), HR2.out.other HG3.out (by omega) (by omega), below_grown HB2.out HG3.out (by omega) HB2.out.size, fun j hj => by omega⟩
  have HINV := Lib.hid hinv
  clear hinv
  go_loopw [12, 13, 14, 27] (fun _ _ _ x wr => ∃ k : Nat, k ≤ ns ∧ x = .int .i64 k ∧ Hid (PickInv w wr i l own gr gb w1.heap.size k)) (fun _ _ _ x _ => ns - (intOf x).toNat)
  case atStart => exact ⟨0, Nat.zero_le _, rfl, HINV.out⟩
  case round =>
    obtain ⟨k, hk, rfl, hinv⟩ := hrel
    have HI := hinv
    clear hinv
    obtain ⟨hc1, hf1⟩ := bcell HI.out.below
    by_cases hlt : k < ns
    · have hx := HC.out k hlt
      obtain ⟨f, hf⟩ : ∃ f, f = l.getD k 0 := ⟨_, rfl⟩
      have hkl : k < l.length := by have := HLL.out; omega
      have hfm : f ∈ l := by rw [hf, List.getD_eq_getElem?_getD, List.getElem?_eq_getElem hkl]; exact List.getElem_mem hkl
      obtain ⟨p1, p2⟩ := HO.out.2.2 f hfm
      have hsz := HS.out f p2
      rw [← hf] at hx
      have h12 := size_le f p2
      have hsw := block_lt hsz
      have q1 : (0 : Int) ≤ (f : Int) := by omega
      have q2 : (f : Int) < 14 := by omega
      have hpos : posI l (k + 1) = posI l k + sizeL.getD f 0 := by rw [posI_succ l k hkl, ← hf]
      have hple : posI l (k + 1) ≤ n := by rw [← HL.out, HLO.out]; exact posI_le l (k + 1)
      have hval : readB i l f = ((num ((i.drop (posI l k)).take (sizeL.getD f 0)) : Nat) : Int) := by rw [hf]; exact readB_at i l own HO.out k hkl
      have hcut : ∀ j, j < 14 → cut i l (k + 1) j = if j = f then readB i l f else cut i l k j := fun j _ => by rw [hf]; exact cut_succ i l k hkl j
      have hmay : mayB f (cut i l (k + 1)) (makerB own (cut i l (k + 1))) = mayB f (readB i l) (makerB own (readB i l)) := by rw [hf]; exact may_at i l own HO.out k hkl
      have HF := Lib.hid hf; have HKL := Lib.hid hkl; have HVAL := Lib.hid hval; have HCUT := Lib.hid hcut; have HMAY := Lib.hid hmay; have HPOS := Lib.hid hpos; have HPLE := Lib.hid hple
      have hf1c := HI.out.f1; have hf2c := HI.out.f2
      have hgaw3 := block_lt hf1c
      clear hf hkl hfm hval hcut hmay hpos hple
      cases own
      · rcases h12 with h12 | h12
        · rw [h12] at hsz
          have HP1 := Lib.hid (show posI l k + 1 ≤ i.length by have := HPOS.out; have := HPLE.out; have := HL.out; omega)
          go_wp2_with (go_at_call 120; refine (at_any gr gb i (posI l k) .nilIface _ HI.out.rd).mono ?_; rintro e w4 ⟨rfl, rfl⟩)
          refine (u8_ok gr gb i (posI l k) _ HI.out.rd HP1.out (by have := HL.out; omega)).mono ?_
          rintro e w4 ⟨rfl, hra4, hg4⟩
          rw [show ((num ((i.drop (posI l k)).take 1) : Nat) : Int) = readB i l f by rw [HVAL.out, h12]]
          have HR4 := Lib.hid hra4; have HG4 := Lib.hid hg4
          have HV4 := Lib.hid (ValsAt.other HI.out.val hg4 (by omega))
          clear hra4 hg4
          go_wp2_with ((with_reducible refine wpList_storeNum rfl (.tmp 40) (.tmp 39) rfl rfl (w.heap.size + 1) f (cut i l k) (cut i l (k + 1)) (readB i l f) rfl rfl HV4.out p2 HCUT.out ?_); intro w5 hv5 hg5; have HV5 := Lib.hid hv5; have HG5 := Lib.hid hg5; have h5c2 := hv5.nums 2 (by omega); have h5l := heap_lt hv5; clear hv5 hg5)
          have HRES := Lib.hid ((HI.out.res.other HG4.out (by omega)).other HG5.out (by omega))
          have HB5 := Lib.hid (below_grown (below_grown HI.out.below HG4.out (by omega) HI.out.below.size) HG5.out (by omega) (Nat.le_trans HI.out.below.size HG4.out.size))
          refine (may_any f (w.heap.size + 1) (cut i l (k + 1)) (0) _ p2 p1 HV5.out.nums).mono ?_
          rintro e w6 ⟨rfl, rfl⟩
          rw [show mayB f (cut i l (k + 1)) (0) = _ from HMAY.out]
          cases hm : mayB f (readB i l) _ with
          | true =>
            have HM := Lib.hid hm
            clear hm
            go_wp2
            go_roundw
            case rel =>
              refine ⟨k + 1, by omega, by go_num, ?_⟩
              exact ⟨HRES.out, HV5.out, grown_cell HG5.out (grown_cell HG4.out HI.out.f1 (show w1.heap.size ≠ gr by omega)) (show w1.heap.size ≠ w.heap.size + 1 by omega), grown_cell HG5.out (grown_cell HG4.out HI.out.f2 (show w1.heap.size ≠ gr by omega)) (show w1.heap.size ≠ w.heap.size + 1 by omega), by
                have := HR4.out.other HG5.out (by omega) (by omega)
                rw [HPOS.out, h12]; exact this, HB5.out, fun j hj => by
                  rcases Nat.lt_or_ge j k with h | h
                  · exact HI.out.good j h
                  · obtain rfl : j = k := by omega
                    rw [← HF.out]; exact HM.out⟩
            case measure => simp [intOf]; omega
          | false =>
            have HM := Lib.hid hm
            clear hm
            have HRES2 := Lib.hid (show ValsAt (w5.alloc (faultObj (posI l k) 63)) w.heap.size fun _ => 0 from (heap_push w5 _ _ (heap_lt HRES.out)).trans HRES.out)
            go_wp2_with (first
              | (go_at_call 74; refine (wrap_any _ _ _).mono ?_; rintro e w7 ⟨rfl, rfl⟩)
              | ((with_reducible refine wpList_storeVals rfl (.tmp 6) (.tmp 48) rfl rfl w.heap.size (fun _ => 0) (fun _ => 0) rfl rfl HRES2.out ?_); intro w8 hv8 ht8 ho8; have HV8 := Lib.hid hv8; have HT8 := Lib.hid ht8; have HO8 := Lib.hid ho8; clear hv8 ht8 ho8))
            refine bodyPost_ret (results_cell_tmp_row rfl _ w8 w.heap.size 114 (vals fun _ => 0) (0, 0) _ rfl HV8.out Tryd.underlying114 rfl infoVals (faultV w5.heap.size) rfl) rfl (HQ.out _ _ ?_)
            have hbad := badI_some i l _ k HKL.out (by rw [← HF.out]; exact HM.out) HI.out.good
            unfold PickPost
            rw [hbad]
            exact ⟨w5.heap.size, rfl, HB5.out.size, (HO8.out _ (by have := heap_lt HRES.out; omega)).trans (heap_alloc_new _ _), HT8.out _ _ (Nat.le_refl _) (HB5.out.alloc HB5.out.size _)⟩
        · rw [h12] at hsz
          have HP1 := Lib.hid (show posI l k + 2 ≤ i.length by have := HPOS.out; have := HPLE.out; have := HL.out; omega)
          go_wp2_with (go_at_call 120; refine (at_any gr gb i (posI l k) .nilIface _ HI.out.rd).mono ?_; rintro e w4 ⟨rfl, rfl⟩)
          refine (u16_ok gr gb i (posI l k) _ HI.out.rd HP1.out (by have := HL.out; omega)).mono ?_
          rintro e w4 ⟨rfl, hra4, hg4⟩
          rw [show ((num ((i.drop (posI l k)).take 2) : Nat) : Int) = readB i l f by rw [HVAL.out, h12]]
          have HR4 := Lib.hid hra4; have HG4 := Lib.hid hg4
          have HV4 := Lib.hid (ValsAt.other HI.out.val hg4 (by omega))
          clear hra4 hg4
          go_wp2_with ((with_reducible refine wpList_storeNum rfl (.tmp 40) (.tmp 39) rfl rfl (w.heap.size + 1) f (cut i l k) (cut i l (k + 1)) (readB i l f) rfl rfl HV4.out p2 HCUT.out ?_); intro w5 hv5 hg5; have HV5 := Lib.hid hv5; have HG5 := Lib.hid hg5; have h5c2 := hv5.nums 2 (by omega); have h5l := heap_lt hv5; clear hv5 hg5)
          have HRES := Lib.hid ((HI.out.res.other HG4.out (by omega)).other HG5.out (by omega))
          have HB5 := Lib.hid (below_grown (below_grown HI.out.below HG4.out (by omega) HI.out.below.size) HG5.out (by omega) (Nat.le_trans HI.out.below.size HG4.out.size))
          refine (may_any f (w.heap.size + 1) (cut i l (k + 1)) (0) _ p2 p1 HV5.out.nums).mono ?_
          rintro e w6 ⟨rfl, rfl⟩
          rw [show mayB f (cut i l (k + 1)) (0) = _ from HMAY.out]
          cases hm : mayB f (readB i l) _ with
          | true =>
            have HM := Lib.hid hm
            clear hm
            go_wp2
            go_roundw
            case rel =>
              refine ⟨k + 1, by omega, by go_num, ?_⟩
              exact ⟨HRES.out, HV5.out, grown_cell HG5.out (grown_cell HG4.out HI.out.f1 (show w1.heap.size ≠ gr by omega)) (show w1.heap.size ≠ w.heap.size + 1 by omega), grown_cell HG5.out (grown_cell HG4.out HI.out.f2 (show w1.heap.size ≠ gr by omega)) (show w1.heap.size ≠ w.heap.size + 1 by omega), by
                have := HR4.out.other HG5.out (by omega) (by omega)
                rw [HPOS.out, h12]; exact this, HB5.out, fun j hj => by
                  rcases Nat.lt_or_ge j k with h | h
                  · exact HI.out.good j h
                  · obtain rfl : j = k := by omega
                    rw [← HF.out]; exact HM.out⟩
            case measure => simp [intOf]; omega
          | false =>
            have HM := Lib.hid hm
            clear hm
            have HRES2 := Lib.hid (show ValsAt (w5.alloc (faultObj (posI l k) 63)) w.heap.size fun _ => 0 from (heap_push w5 _ _ (heap_lt HRES.out)).trans HRES.out)
            go_wp2_with (first
              | (go_at_call 74; refine (wrap_any _ _ _).mono ?_; rintro e w7 ⟨rfl, rfl⟩)
              | ((with_reducible refine wpList_storeVals rfl (.tmp 6) (.tmp 48) rfl rfl w.heap.size (fun _ => 0) (fun _ => 0) rfl rfl HRES2.out ?_); intro w8 hv8 ht8 ho8; have HV8 := Lib.hid hv8; have HT8 := Lib.hid ht8; have HO8 := Lib.hid ho8; clear hv8 ht8 ho8))
            refine bodyPost_ret (results_cell_tmp_row rfl _ w8 w.heap.size 114 (vals fun _ => 0) (0, 0) _ rfl HV8.out Tryd.underlying114 rfl infoVals (faultV w5.heap.size) rfl) rfl (HQ.out _ _ ?_)
            have hbad := badI_some i l _ k HKL.out (by rw [← HF.out]; exact HM.out) HI.out.good
            unfold PickPost
            rw [hbad]
            exact ⟨w5.heap.size, rfl, HB5.out.size, (HO8.out _ (by have := heap_lt HRES.out; omega)).trans (heap_alloc_new _ _), HT8.out _ _ (Nat.le_refl _) (HB5.out.alloc HB5.out.size _)⟩
      · rcases h12 with h12 | h12
        · rw [h12] at hsz
          have HP1 := Lib.hid (show posI l k + 1 ≤ i.length by have := HPOS.out; have := HPLE.out; have := HL.out; omega)
          go_wp2_with (go_at_call 120; refine (at_any gr gb i (posI l k) .nilIface _ HI.out.rd).mono ?_; rintro e w4 ⟨rfl, rfl⟩)
          refine (u8_ok gr gb i (posI l k) _ HI.out.rd HP1.out (by have := HL.out; omega)).mono ?_
          rintro e w4 ⟨rfl, hra4, hg4⟩
          rw [show ((num ((i.drop (posI l k)).take 1) : Nat) : Int) = readB i l f by rw [HVAL.out, h12]]
          have HR4 := Lib.hid hra4; have HG4 := Lib.hid hg4
          have HV4 := Lib.hid (ValsAt.other HI.out.val hg4 (by omega))
          clear hra4 hg4
          go_wp2_with ((with_reducible refine wpList_storeNum rfl (.tmp 40) (.tmp 39) rfl rfl (w.heap.size + 1) f (cut i l k) (cut i l (k + 1)) (readB i l f) rfl rfl HV4.out p2 HCUT.out ?_); intro w5 hv5 hg5; have HV5 := Lib.hid hv5; have HG5 := Lib.hid hg5; have h5c2 := hv5.nums 2 (by omega); have h5l := heap_lt hv5; clear hv5 hg5)
          have HRES := Lib.hid ((HI.out.res.other HG4.out (by omega)).other HG5.out (by omega))
          have HB5 := Lib.hid (below_grown (below_grown HI.out.below HG4.out (by omega) HI.out.below.size) HG5.out (by omega) (Nat.le_trans HI.out.below.size HG4.out.size))
          refine (may_any f (w.heap.size + 1) (cut i l (k + 1)) (cut i l (k + 1) 2) _ p2 p1 HV5.out.nums).mono ?_
          rintro e w6 ⟨rfl, rfl⟩
          rw [show mayB f (cut i l (k + 1)) (cut i l (k + 1) 2) = _ from HMAY.out]
          cases hm : mayB f (readB i l) _ with
          | true =>
            have HM := Lib.hid hm
            clear hm
            go_wp2
            go_roundw
            case rel =>
              refine ⟨k + 1, by omega, by go_num, ?_⟩
              exact ⟨HRES.out, HV5.out, grown_cell HG5.out (grown_cell HG4.out HI.out.f1 (show w1.heap.size ≠ gr by omega)) (show w1.heap.size ≠ w.heap.size + 1 by omega), grown_cell HG5.out (grown_cell HG4.out HI.out.f2 (show w1.heap.size ≠ gr by omega)) (show w1.heap.size ≠ w.heap.size + 1 by omega), by
                have := HR4.out.other HG5.out (by omega) (by omega)
                rw [HPOS.out, h12]; exact this, HB5.out, fun j hj => by
                  rcases Nat.lt_or_ge j k with h | h
                  · exact HI.out.good j h
                  · obtain rfl : j = k := by omega
                    rw [← HF.out]; exact HM.out⟩
            case measure => simp [intOf]; omega
          | false =>
            have HM := Lib.hid hm
            clear hm
            have HRES2 := Lib.hid (show ValsAt (w5.alloc (faultObj (posI l k) 63)) w.heap.size fun _ => 0 from (heap_push w5 _ _ (heap_lt HRES.out)).trans HRES.out)
            go_wp2_with (first
              | (go_at_call 74; refine (wrap_any _ _ _).mono ?_; rintro e w7 ⟨rfl, rfl⟩)
              | ((with_reducible refine wpList_storeVals rfl (.tmp 6) (.tmp 48) rfl rfl w.heap.size (fun _ => 0) (fun _ => 0) rfl rfl HRES2.out ?_); intro w8 hv8 ht8 ho8; have HV8 := Lib.hid hv8; have HT8 := Lib.hid ht8; have HO8 := Lib.hid ho8; clear hv8 ht8 ho8))
            refine bodyPost_ret (results_cell_tmp_row rfl _ w8 w.heap.size 114 (vals fun _ => 0) (0, 0) _ rfl HV8.out Tryd.underlying114 rfl infoVals (faultV w5.heap.size) rfl) rfl (HQ.out _ _ ?_)
            have hbad := badI_some i l _ k HKL.out (by rw [← HF.out]; exact HM.out) HI.out.good
            unfold PickPost
            rw [hbad]
            exact ⟨w5.heap.size, rfl, HB5.out.size, (HO8.out _ (by have := heap_lt HRES.out; omega)).trans (heap_alloc_new _ _), HT8.out _ _ (Nat.le_refl _) (HB5.out.alloc HB5.out.size _)⟩
        · rw [h12] at hsz
          have HP1 := Lib.hid (show posI l k + 2 ≤ i.length by have := HPOS.out; have := HPLE.out; have := HL.out; omega)
          go_wp2_with (go_at_call 120; refine (at_any gr gb i (posI l k) .nilIface _ HI.out.rd).mono ?_; rintro e w4 ⟨rfl, rfl⟩)
          refine (u16_ok gr gb i (posI l k) _ HI.out.rd HP1.out (by have := HL.out; omega)).mono ?_
          rintro e w4 ⟨rfl, hra4, hg4⟩
          rw [show ((num ((i.drop (posI l k)).take 2) : Nat) : Int) = readB i l f by rw [HVAL.out, h12]]
          have HR4 := Lib.hid hra4; have HG4 := Lib.hid hg4
          have HV4 := Lib.hid (ValsAt.other HI.out.val hg4 (by omega))
          clear hra4 hg4
          go_wp2_with ((with_reducible refine wpList_storeNum rfl (.tmp 40) (.tmp 39) rfl rfl (w.heap.size + 1) f (cut i l k) (cut i l (k + 1)) (readB i l f) rfl rfl HV4.out p2 HCUT.out ?_); intro w5 hv5 hg5; have HV5 := Lib.hid hv5; have HG5 := Lib.hid hg5; have h5c2 := hv5.nums 2 (by omega); have h5l := heap_lt hv5; clear hv5 hg5)
          have HRES := Lib.hid ((HI.out.res.other HG4.out (by omega)).other HG5.out (by omega))
          have HB5 := Lib.hid (below_grown (below_grown HI.out.below HG4.out (by omega) HI.out.below.size) HG5.out (by omega) (Nat.le_trans HI.out.below.size HG4.out.size))
          refine (may_any f (w.heap.size + 1) (cut i l (k + 1)) (cut i l (k + 1) 2) _ p2 p1 HV5.out.nums).mono ?_
          rintro e w6 ⟨rfl, rfl⟩
          rw [show mayB f (cut i l (k + 1)) (cut i l (k + 1) 2) = _ from HMAY.out]
          cases hm : mayB f (readB i l) _ with
          | true =>
            have HM := Lib.hid hm
            clear hm
            go_wp2
            go_roundw
            case rel =>
              refine ⟨k + 1, by omega, by go_num, ?_⟩
              exact ⟨HRES.out, HV5.out, grown_cell HG5.out (grown_cell HG4.out HI.out.f1 (show w1.heap.size ≠ gr by omega)) (show w1.heap.size ≠ w.heap.size + 1 by omega), grown_cell HG5.out (grown_cell HG4.out HI.out.f2 (show w1.heap.size ≠ gr by omega)) (show w1.heap.size ≠ w.heap.size + 1 by omega), by
                have := HR4.out.other HG5.out (by omega) (by omega)
                rw [HPOS.out, h12]; exact this, HB5.out, fun j hj => by
                  rcases Nat.lt_or_ge j k with h | h
                  · exact HI.out.good j h
                  · obtain rfl : j = k := by omega
                    rw [← HF.out]; exact HM.out⟩
            case measure => simp [intOf]; omega
          | false =>
            have HM := Lib.hid hm
            clear hm
            have HRES2 := Lib.hid (show ValsAt (w5.alloc (faultObj (posI l k) 63)) w.heap.size fun _ => 0 from (heap_push w5 _ _ (heap_lt HRES.out)).trans HRES.out)
            go_wp2_with (first
              | (go_at_call 74; refine (wrap_any _ _ _).mono ?_; rintro e w7 ⟨rfl, rfl⟩)
              | ((with_reducible refine wpList_storeVals rfl (.tmp 6) (.tmp 48) rfl rfl w.heap.size (fun _ => 0) (fun _ => 0) rfl rfl HRES2.out ?_); intro w8 hv8 ht8 ho8; have HV8 := Lib.hid hv8; have HT8 := Lib.hid ht8; have HO8 := Lib.hid ho8; clear hv8 ht8 ho8))
            refine bodyPost_ret (results_cell_tmp_row rfl _ w8 w.heap.size 114 (vals fun _ => 0) (0, 0) _ rfl HV8.out Tryd.underlying114 rfl infoVals (faultV w5.heap.size) rfl) rfl (HQ.out _ _ ?_)
            have hbad := badI_some i l _ k HKL.out (by rw [← HF.out]; exact HM.out) HI.out.good
            unfold PickPost
            rw [hbad]
            exact ⟨w5.heap.size, rfl, HB5.out.size, (HO8.out _ (by have := heap_lt HRES.out; omega)).trans (heap_alloc_new _ _), HT8.out _ _ (Nat.le_refl _) (HB5.out.alloc HB5.out.size _)⟩
    · obtain rfl : k = ns := by omega
      go_wp2_with (first
        | (with_reducible refine wpList_loadVals rfl (.tmp 8) rfl (w.heap.size + 1) (cut i l k) rfl HI.out.val ?_)
        | ((with_reducible refine wpList_storeVals rfl (.tmp 6) (.tmp 52) rfl rfl w.heap.size (fun _ => 0) (cut i l k) rfl rfl HI.out.res ?_); intro w8 hv8 ht8 ho8; have HV8 := Lib.hid hv8; have HT8 := Lib.hid ht8; clear hv8 ht8 ho8))
      refine bodyPost_ret (results_cell_tmp_row rfl _ w8 w.heap.size 114 (vals (cut i l k)) (0, 0) _ rfl HV8.out Tryd.underlying114 rfl infoVals .nilIface rfl) rfl (HQ.out _ _ ?_)
      have hall := badI_all i l own (by rw [HLL.out]; exact HI.out.good)
      have hv : vals (cut i l k) = vals (readB i l) := by
        have e : ∀ j, cut i l k j = readB i l j := fun j => by rw [← HLL.out]; exact cut_all i l j
        unfold vals
        simp only [e]
      unfold PickPost
      rw [hall, hv]
      exact ⟨rfl, HT8.out _ _ (Nat.le_refl _) HI.out.below⟩

theorem pick_any (ao : Option Addr) (n cap : Nat) (i : List UInt8) (b off ns caps : Nat) (l : List Nat) (own : Bool) (w : World) (hl : i.length = n) (hr : Rd w ao i) (hll : l.length = ns) (hrn : RdN w (some ⟨b, off, none⟩) l) (h0 : 0 < ns) (hn14 : ns ≤ 14) (hlong : i.length = longOf l) (hord : Ord l own) (hs : Sizes w) :
    Calls Tryd.prog 82 #[.slice ao n cap, .slice (some ⟨b, off, none⟩) ns caps, .bool own] w (PickPost w i l own) :=
  pick_core ao n cap i b off ns caps l own w _ (fun _ _ h => h) hl hr hll hrn h0 hn14 hlong hord hs
end Go.Proofs.YtoophonmonojcaaDoor

/- Contract of wire's body. -/
namespace Go.Proofs.YtoophonmonojcaaDoor
open Go.RowKit

/-- A body, or the error's number and place. -/
def innerOf (b : List UInt8) : (Int × Int) ⊕ List UInt8 :=
  if 64 < b.length then .inl (60, 64) else if b.length < 4 then .inl (62, b.length) else
  if b.drop (b.length - 4) = le4 (sum (b.take (b.length - 4))) then (if b.take (b.length - 4) = [] then .inl (62, 0) else .inr (b.take (b.length - 4))) else .inl (64, (b.length - 4 : Nat))
def BodyPost (w : World) (b : List UInt8) (e : Ending) (w' : World) : Prop := match innerOf b with
  | .inl (c, a) => ∃ g, e = .returned (.tuple #[.slice none 0 0, faultV g]) ∧ NewFault w a c g w'
  | .inr l => ∃ g, e = .returned (.tuple #[.slice (some ⟨g, 0, none⟩) l.length l.length, .nilIface]) ∧ w.heap.size ≤ g ∧ Row w' g l ∧ Below w.heap.size w w'
theorem BodyPost.err {w : World} {b : List UInt8} {e : Ending} {w' : World} (c a : Int) (g : Nat) (h : innerOf b = .inl (c, a)) (he : e = .returned (.tuple #[.slice none 0 0, faultV g])) (hn : NewFault w a c g w') : BodyPost w b e w' := by
  unfold BodyPost; rw [h]; exact ⟨g, he, hn⟩

theorem body_long (ao : Option Addr) (n cap : Nat) (b : List UInt8) (w : World) (hl : b.length = n) (hn : 64 < n) (hb : n ≤ 9223372036854775807) : Calls Tryd.prog 100 #[.slice ao n cap] w (BodyPost w b) := by
  have hi : innerOf b = .inl (60, 64) := by unfold innerOf; rw [if_pos (by omega)]
  have HI := Lib.hid hi; clear hi hl
  go_enter Tryd.func100, Tryd.ntmps100
  go_wp2_with fail
  refine (wrap_any _ _ _).mono ?_
  rintro e w1 ⟨rfl, rfl⟩
  go_wp2
  go_ret2
  exact BodyPost.err _ _ _ HI.out rfl (newFault_alloc _ _ _)

theorem newFault_at (w : World) (a c : Int) (g : Nat) (hg : g = w.heap.size) : NewFault w a c g (w.alloc (faultObj a c)) := by subst hg; exact newFault_alloc w a c
theorem fault_cell {w : World} {g : Nat} {a c : Int} (h : w.heap[g]? = some (faultObj a c)) : w.cell? ⟨g, 0, none⟩ = some (.int .i64 a) := by simp [World.cell?, h, faultObj]

set_option maxHeartbeats 1000000 in
/-- Where Open refuses. -/
theorem body_fault (ao : Option Addr) (n cap : Nat) (b : List UInt8) (w : World) (c a c' : Int) (hn : n ≤ 64) (hc : (c = 10 ∧ c' = 62) ∨ (c = 11 ∧ c' = 64)) (hi : innerOf b = .inl (c', a))
    (ho : Calls Tryd.prog 118 #[.slice ao n cap] w fun e w' => ∃ g, e = .returned (.tuple #[.slice none 0 0, faultV g]) ∧ NewFault w a c g w') (hE : EType w) : Calls Tryd.prog 100 #[.slice ao n cap] w (BodyPost w b) := by
  have HI := Lib.hid hi; have HO := Lib.hid ho; have HE := Lib.hid hE; clear hi ho hE
  rcases hc with ⟨rfl, rfl⟩ | ⟨rfl, rfl⟩
  all_goals
    go_enter Tryd.func100, Tryd.ntmps100
    go_wp2_with fail
    refine HO.out.mono ?_
    rintro e w1 ⟨g, rfl, hN⟩
    have HN := Lib.hid hN; clear hN
    go_wp2_with fail
    refine (as_fault_fault g _ (.pointer none) _ (by simp) (by simp) ((HE.out.step HN.out.2.2).alloc _)).mono ?_
    intro e w2 h
    obtain ⟨rfl, hc, hb⟩ := h.fresh
    have hc' := hc.out
    have HB := Lib.hid hb
    have HG := Lib.hid ((hb.block g (heap_lt HN.out.2.1)).trans HN.out.2.1)
    have hg0 := fault_cell HG.out
    clear hc h hb
    go_wp2_with fail
    refine (Is_fault g _ _ 10 _ HG.out).mono ?_
    rintro e w3 ⟨rfl, rfl⟩
    go_wp2_with fail
    refine (wrap_any _ _ _).mono ?_
    rintro e w4 ⟨rfl, rfl⟩
    go_wp2
    go_ret2
    exact BodyPost.err _ _ _ HI.out rfl ((newFault_alloc _ _ _).after (HN.out.2.2.trans (HB.out.mono HN.out.2.2.size)))

theorem body_short (ao : Option Addr) (n cap : Nat) (b : List UInt8) (w : World) (hl : b.length = n) (hn : n < 4) (hE : EType w) : Calls Tryd.prog 100 #[.slice ao n cap] w (BodyPost w b) := by
  refine body_fault ao n cap b w 10 n 62 (by omega) (.inl ⟨rfl, rfl⟩) ?_ ?_ hE
  · unfold innerOf; rw [if_neg (by omega), if_pos (by omega), hl]
  · refine (open_short ao n cap w hn).mono ?_
    rintro e w' ⟨rfl, rfl⟩
    exact ⟨_, rfl, newFault_alloc _ _ _⟩

set_option maxHeartbeats 1000000 in
theorem body_any (ao : Option Addr) (n cap : Nat) (b : List UInt8) (w : World) (hl : b.length = n) (hr : Rd w ao b) (hcap : n ≤ cap) (hb : n ≤ 9223372036854775807) (ht : Tab w) (hE : EType w) : Calls Tryd.prog 100 #[.slice ao n cap] w (BodyPost w b) := by
  rcases Nat.lt_or_ge 64 n with h64 | h64
  · exact body_long ao n cap b w hl h64 hb
  rcases Nat.lt_or_ge n 4 with h4 | h4
  · exact body_short ao n cap b w hl h4 hE
  have hop := open_any ao n cap b w hl hr h4 hcap (by omega) ht
  by_cases hs : b.drop (b.length - 4) = le4 (sum (b.take (b.length - 4)))
  · by_cases h0 : b.take (b.length - 4) = []
    · have hi : innerOf b = .inl (62, 0) := by unfold innerOf; rw [if_neg (by omega), if_neg (by omega), if_pos hs, if_pos h0]
      have hn4 : n - 4 = 0 := by
        have := congrArg List.length h0
        simp at this
        omega
      have ho : Calls Tryd.prog 118 #[.slice ao n cap] w fun e w' => ∃ g, e = .returned (.tuple #[.slice (some ⟨g, 0, none⟩) 0 0, .nilIface]) ∧ Below w.heap.size w w' := by
        refine hop.mono ?_
        rintro e w' (⟨_, g, rfl, h1, h2, h3⟩ | ⟨hx, _⟩)
        · rw [hl, hn4]; exact ⟨g, rfl, h3⟩
        · exact absurd hs hx
      have HI := Lib.hid hi; have HO := Lib.hid ho
      clear hi ho hop hs h0 hl hr ht hE
      go_enter Tryd.func100, Tryd.ntmps100
      go_wp2_with fail
      refine HO.out.mono ?_
      rintro e w1 ⟨g, rfl, hB⟩
      have HB := Lib.hid hB; clear hB
      go_wp2_with fail
      refine (as_nil _ _).mono ?_
      rintro e w2 ⟨rfl, rfl⟩
      go_wp2_with fail
      refine (wrap_any _ _ _).mono ?_
      rintro e w4 ⟨rfl, rfl⟩
      go_wp2
      go_ret2
      exact BodyPost.err _ _ _ HI.out rfl ((newFault_at _ _ _ _ (by simp)).after (HB.out.alloc HB.out.size _))
    · have hi : innerOf b = .inr (b.take (b.length - 4)) := by unfold innerOf; rw [if_neg (by omega), if_neg (by omega), if_pos hs, if_neg h0]
      have hn4 : 0 < n - 4 := by
        have : (b.take (b.length - 4)).length ≠ 0 := fun h => h0 (List.eq_nil_of_length_eq_zero h)
        simp at this
        omega
      obtain ⟨k, hk⟩ : ∃ k, n - 4 = k := ⟨_, rfl⟩
      have hkl : (b.take (b.length - 4)).length = k := by simp; omega
      have ho : Calls Tryd.prog 118 #[.slice ao n cap] w fun e w' => ∃ g, e = .returned (.tuple #[.slice (some ⟨g, 0, none⟩) k k, .nilIface]) ∧ w.heap.size ≤ g ∧ Row w' g (b.take (b.length - 4)) ∧ Below w.heap.size w w' := by
        refine hop.mono ?_
        rintro e w' (⟨_, g, rfl, h1, h2, h3⟩ | ⟨hx, _⟩)
        · rw [show b.length - 4 = k by omega]
          rw [show b.length - 4 = k by omega] at h2
          exact ⟨g, rfl, h1, h2, h3⟩
        · exact absurd hs hx
      have HI := Lib.hid hi; have HO := Lib.hid ho; have HKL := Lib.hid hkl
      rw [hk] at hn4
      have hk64 : k ≤ 64 := by omega
      clear hi ho hop hs h0 hl hr ht hE hk hkl
      go_enter Tryd.func100, Tryd.ntmps100
      go_wp2_with fail
      refine HO.out.mono ?_
      rintro e w1 ⟨g, rfl, hg, hR, hB⟩
      have HB := Lib.hid hB; have HG := Lib.hid hg; have HR := Lib.hid hR; clear hB hg hR
      go_wp2_with fail
      refine (as_nil _ _).mono ?_
      rintro e w2 ⟨rfl, rfl⟩
      go_wp2
      go_ret2
      unfold BodyPost
      rw [HI.out]
      exact ⟨g, by rw [HKL.out]; rfl, HG.out, HR.out.below ((Below.refl _ _).alloc (Nat.le_refl _) _) HR.out.lt, HB.out.alloc HB.out.size _⟩
  · have hi : innerOf b = .inl (64, (b.length - 4 : Nat)) := by unfold innerOf; rw [if_neg (by omega), if_neg (by omega), if_neg hs]
    refine body_fault ao n cap b w 11 _ 64 h64 (.inr ⟨rfl, rfl⟩) hi ?_ hE
    refine hop.mono ?_
    rintro e w' (⟨hx, _⟩ | ⟨_, g, rfl, hN⟩)
    · exact absurd hx hs
    · exact ⟨g, rfl, hN⟩

theorem decode_inner (b : List UInt8) : decode b = match innerOf b with
    | .inl x => .inl x
    | .inr l => bodyOf l := by
  unfold decode innerOf
  split
  · rfl
  split
  · rfl
  split
  · by_cases h : b.take (b.length - 4) = []
    · rw [if_pos h]
      show bodyOf _ = .inl (62, 0)
      rw [h]; rfl
    · rw [if_neg h]
  · rfl
end Go.Proofs.YtoophonmonojcaaDoor

/- Contract of wire's Decode. -/
namespace Go.Proofs.YtoophonmonojcaaDoor
open Go.RowKit

def zeroM : M := ⟨0, 0, 0, 0, 0, 0, 0, 0, 0, zeroO⟩
/-- What Decode hands back. -/
def DecPost (w : World) (b : List UInt8) (e : Ending) (w' : World) : Prop := match decode b with
  | .inl (c, a) => ∃ g, e = .returned (.tuple #[.agg zeroM.cs, faultV g]) ∧ NewFault w a c g w'
  | .inr m => e = .returned (.tuple #[.agg m.cs, .nilIface]) ∧ Below w.heap.size w w'

set_option maxRecDepth 100000 in
set_option maxHeartbeats 1000000 in
/-- The operation of fourteen numbers. -/
theorem op_any (g : Nat) (v : Nat → Int) (w : World) (hv : Nums w g v) (h11 : 0 ≤ v 11 ∧ v 11 ≤ 255) :
    Calls Tryd.prog 83 #[.pointer (some ⟨g, 0, none⟩)] w fun e w' => e = .returned (.agg #[.int .i64 (v 9), .int .i64 (v 10), .int .u8 (v 11), .int .i64 (v 12), .int .i64 (v 13)]) ∧ ∃ X : Obj, w' = (w.alloc X).drew := by
  have c9 := hv 9 (by omega)
  have c10 := hv 10 (by omega)
  have c11 := hv 11 (by omega)
  have c12 := hv 12 (by omega)
  have c13 := hv 13 (by omega)
  have hgw := block_lt c9
  obtain ⟨v9, e9⟩ : ∃ x, x = v 9 := ⟨_, rfl⟩
  obtain ⟨v10, e10⟩ : ∃ x, x = v 10 := ⟨_, rfl⟩
  obtain ⟨v11, e11⟩ : ∃ x, x = v 11 := ⟨_, rfl⟩
  obtain ⟨v12, e12⟩ : ∃ x, x = v 12 := ⟨_, rfl⟩
  obtain ⟨v13, e13⟩ : ∃ x, x = v 13 := ⟨_, rfl⟩
  rw [← e9] at c9 ⊢; rw [← e10] at c10 ⊢; rw [← e11] at c11 h11 ⊢; rw [← e12] at c12 ⊢; rw [← e13] at c13 ⊢
  clear e9 e10 e11 e12 e13 hv
  obtain ⟨h1, h2⟩ := h11
  go_enter Tryd.func83, Tryd.ntmps83
  go_wp2_with fail
  have hW : ∀ X : Obj, ∃ W1, W1 = w.alloc X := fun X => ⟨_, rfl⟩
  have d9 := cell_alloc c9 (.cells #[.int .i64 0, .int .i64 0, .int .u8 0, .int .i64 0, .int .i64 0] 23); have d10 := cell_alloc c10 (.cells #[.int .i64 0, .int .i64 0, .int .u8 0, .int .i64 0, .int .i64 0] 23); have d11 := cell_alloc c11 (.cells #[.int .i64 0, .int .i64 0, .int .u8 0, .int .i64 0, .int .i64 0] 23); have d12 := cell_alloc c12 (.cells #[.int .i64 0, .int .i64 0, .int .u8 0, .int .i64 0, .int .i64 0] 23); have d13 := cell_alloc c13 (.cells #[.int .i64 0, .int .i64 0, .int .u8 0, .int .i64 0, .int .i64 0] 23)
  have hh : (w.alloc (.cells #[.int .i64 0, .int .i64 0, .int .u8 0, .int .i64 0, .int .i64 0] 23)).heap[w.heap.size]? = some (.cells #[.int .i64 0, .int .i64 0, .int .u8 0, .int .i64 0, .int .i64 0] 23) := heap_alloc_new _ _
  have HREV := Lib.hid (fun (w' : World) (cs : Array Value) (h : w' = ((w.alloc (.cells #[.int .i64 0, .int .i64 0, .int .u8 0, .int .i64 0, .int .i64 0] 23)).drew).setRow w.heap.size cs) => h)
  clear c9 c10 c11 c12 c13
  generalize hW1 : w.alloc (.cells #[.int .i64 0, .int .i64 0, .int .u8 0, .int .i64 0, .int .i64 0] 23) = W1 at d9 d10 d11 d12 d13 hh ⊢
  have HW1 := Lib.hid hW1; have HH := Lib.hid hh
  clear hW1 hh hW HREV
  go_still_tail 22, (by kernel_rfl)
  change wpList _ _ _ _ _ W1.drew
  rw [show IntKind.u8.wrap v11 = v11 by unfold IntKind.wrap; simp [IntKind.bits, IntKind.signed]; omega]
  have HH2 := Lib.hid (show W1.drew.heap[w.heap.size]? = _ from HH.out)
  go_wp2_with (with_reducible refine wpList_store_rowTo rfl 23 (.tmp 2) (.tmp 24) rfl rfl w.heap.size #[.int .i64 v9, .int .i64 v10, .int .u8 v11, .int .i64 v12, .int .i64 v13] rfl rfl 23 _ HH2.out (by kernel_rfl) rfl (by simp [Value.oneCell']) ?_)
  have hw : W1.drew.setRow w.heap.size #[.int .i64 v9, .int .i64 v10, .int .u8 v11, .int .i64 v12, .int .i64 v13] = (w.alloc (.cells #[.int .i64 v9, .int .i64 v10, .int .u8 v11, .int .i64 v12, .int .i64 v13] 23)).drew := by
    rw [← HW1.out]
    show ((w.alloc _).setRow w.heap.size _).drew = _
    rw [World.setRow_alloc_new]
  rw [hw]
  try simp only [Exit.inBlock, Exit.then]
  exact bodyPost_ret (results_cell_row rfl _ _ w.heap.size 23 _ (0, 0) _ rfl (heap_alloc_new _ _) Tryd.underlying23 rfl (by kernel_rfl)) rfl ⟨rfl, _, rfl⟩

theorem DecPost.err {w : World} {b : List UInt8} {e : Ending} {w' : World} (c a : Int) (g : Nat) (h : decode b = .inl (c, a)) (he : e = .returned (.tuple #[.agg zeroM.cs, faultV g])) (hn : NewFault w a c g w') : DecPost w b e w' := by
  unfold DecPost; rw [h]; exact ⟨g, he, hn⟩
theorem ret_msg {fn : Func} {p u : Tmp} (h : fn.results = #[.cell p 25, .tmp u]) {R : Ending → World → Prop} {a : Act} {w : World} (hd : a.defers = []) (g : Nat) (m : M) (x : Value) (hp : a.tmps.getD p undef = .pointer (some ⟨g, 0, none⟩)) (hg : MsgAt w g m) (hx : a.tmps.getD u undef = x)
    (hR : R (.returned (.tuple #[.agg m.cs, x])) w) : bodyPost Tryd.prog fn R .ret a w :=
  bodyPost_ret (results_cell_tmp_row h _ w g 25 m.cs (0, 0) _ hp hg Tryd.underlying25 rfl infoMsg x hx) hd hR

theorem wpList_storeMsg2 {w : World} {ops : Array Oper} {rest : List Oper} {o : Oper} {a : Act} {Q : Exit → Act → World → Prop} (hgd : o.guard = none) (x y : Operand) (ho : o.op = .store 25 x y) (hd : o.dst = none) (g : Nat) (m m' : M)
    (hx : a.eval x = .pointer (some ⟨g, 0, none⟩)) (hy : a.eval y = .agg m'.cs) (hg : MsgAt w g m) (h : ∀ w', MsgAt w' g m' → Turned w w' g → (∀ k, k ≠ g → w'.heap[k]? = w.heap[k]?) → wpList Tryd.prog ops Q rest a w') : wpList Tryd.prog ops Q (o :: rest) a w :=
  wpList_store_rowTo hgd 25 x y ho hd g m'.cs hx hy 25 m.cs hg infoMsg rfl m'.one (h _ (MsgAt.store hg m') (fun _ _ hB hb => below_setRow hb hB _) (fun k hk => setRow_other w g k _ hk))
theorem innerOf_inr {b i : List UInt8} (h : innerOf b = .inr i) : 1 ≤ i.length ∧ i.length ≤ 60 := by
  unfold innerOf at h
  split at h
  · cases h
  split at h
  · cases h
  split at h
  · split at h
    · cases h
    · rename_i h0
      cases h
      have : (b.take (b.length - 4)).length ≠ 0 := fun e => h0 (List.eq_nil_of_length_eq_zero e)
      simp at this ⊢
      omega
  · cases h
theorem readB_byte (i : List UInt8) (k : Nat) : 0 ≤ readB i (shapeN k) 11 ∧ readB i (shapeN k) 11 ≤ 255 := by
  unfold readB
  rw [if_neg (by decide)]
  split
  · have e : sizeL.getD 11 0 = 1 := rfl
    rw [e]
    obtain ⟨l, hl⟩ : ∃ l, l = i.drop (posI (shapeN k) ((shapeN k).idxOf 11)) := ⟨_, rfl⟩
    rw [← hl]
    match l with
    | [] => simp [num]
    | a :: t =>
      have := a.toNat_lt
      simp [num_one]
      omega
  · omega
theorem own_eq (k : Nat) : ((k : Int) == 2) = (k == 2) := by
  by_cases h : k = 2
  · subst h; rfl
  · rw [show (k == 2) = false by simpa using h, show ((k : Int) == 2) = false by simp; omega]
theorem ValsAt.keep {w w' : World} {g : Nat} {v : Nat → Int} (h : ValsAt w g v) (hb : Below w.heap.size w w') : ValsAt w' g v := (hb.block g (heap_lt h)).trans h
theorem NewFault.turn {w w1 w2 : World} {a c : Int} {g B : Nat} (h : NewFault w a c g w1) (ht : Turned w1 w2 B) (ho : ∀ k, k ≠ B → w2.heap[k]? = w1.heap[k]?) (hB : w.heap.size ≤ B) (hne : g ≠ B) : NewFault w a c g w2 :=
  ⟨h.1, (ho g hne).trans h.2.1, ht _ _ hB h.2.2⟩

theorem MsgAt.drew {w : World} {g : Nat} {m : M} (h : MsgAt w g m) : MsgAt w.drew g m := h
theorem storeMsgCells {W w1 : World} {B g : Nat} {m m' : M} (h : MsgAt W g m) (vs : List Value) (hv : vs.toArray = m'.cs) (h1 : ∀ v ∈ vs, v.oneCell' = true) (hb : B ≤ g) (hB : Below B w1 W) : MsgAt (W.setCells g 0 vs) g m' ∧ Below B w1 (W.setCells g 0 vs) := by
  have hs : vs.length = m.cs.size := by
    have := congrArg Array.size hv
    exact (by simpa using this : vs.length = m'.cs.size)
  rw [setCells_row W g 25 m.cs vs h hs h1]
  refine ⟨?_, below_setRow hB hb _⟩
  unfold MsgAt
  rw [← hv]
  exact setRow_heap W g _ _ _ _ h
theorem storeMsgChain {W w1 : World} {g : Nat} {m m' : M} (h : MsgAt W g m) (a0 a1 a2 a3 a4 a5 a6 a7 a8 a9 a10 a11 a12 a13 : Value) (X : Obj) (hv : #[a0, a1, a2, a3, a4, a5, a6, a7, a8, a9, a10, a11, a12, a13] = m'.cs) (h1 : ∀ v ∈ [a0, a1, a2, a3, a4, a5, a6, a7, a8, a9, a10, a11, a12, a13], v.oneCell' = true) (hb : w1.heap.size ≤ g) (hB : Below w1.heap.size w1 W) :
    MsgAt (((((((((((((((W.setCell ⟨g, 0, none⟩ a0).setCell ⟨g, 1, none⟩ a1).setCell ⟨g, 2, none⟩ a2).setCell ⟨g, 3, none⟩ a3).setCell ⟨g, 4, none⟩ a4).setCell ⟨g, 5, none⟩ a5).setCell ⟨g, 6, none⟩ a6).setCell ⟨g, 7, none⟩ a7).setCell ⟨g, 8, none⟩ a8).setCell ⟨g, 9, none⟩ a9).setCell ⟨g, 10, none⟩ a10).setCell ⟨g, 11, none⟩ a11).setCell ⟨g, 12, none⟩ a12).setCell ⟨g, 13, none⟩ a13).alloc X).drew.drew g m' ∧ Below w1.heap.size w1 (((((((((((((((W.setCell ⟨g, 0, none⟩ a0).setCell ⟨g, 1, none⟩ a1).setCell ⟨g, 2, none⟩ a2).setCell ⟨g, 3, none⟩ a3).setCell ⟨g, 4, none⟩ a4).setCell ⟨g, 5, none⟩ a5).setCell ⟨g, 6, none⟩ a6).setCell ⟨g, 7, none⟩ a7).setCell ⟨g, 8, none⟩ a8).setCell ⟨g, 9, none⟩ a9).setCell ⟨g, 10, none⟩ a10).setCell ⟨g, 11, none⟩ a11).setCell ⟨g, 12, none⟩ a12).setCell ⟨g, 13, none⟩ a13).alloc X).drew.drew := by
  have hfin := storeMsgCells (m' := m') h [a0, a1, a2, a3, a4, a5, a6, a7, a8, a9, a10, a11, a12, a13] hv h1 hb hB
  have e : W.setCells g 0 [a0, a1, a2, a3, a4, a5, a6, a7, a8, a9, a10, a11, a12, a13] = ((((((((((((((W.setCell ⟨g, 0, none⟩ a0).setCell ⟨g, 1, none⟩ a1).setCell ⟨g, 2, none⟩ a2).setCell ⟨g, 3, none⟩ a3).setCell ⟨g, 4, none⟩ a4).setCell ⟨g, 5, none⟩ a5).setCell ⟨g, 6, none⟩ a6).setCell ⟨g, 7, none⟩ a7).setCell ⟨g, 8, none⟩ a8).setCell ⟨g, 9, none⟩ a9).setCell ⟨g, 10, none⟩ a10).setCell ⟨g, 11, none⟩ a11).setCell ⟨g, 12, none⟩ a12).setCell ⟨g, 13, none⟩ a13) := by simp only [World.setCells, Nat.zero_add, Nat.reduceAdd]
  rw [e] at hfin
  have h2 := hfin.1.keep ((Below.refl _ _).alloc (Nat.le_refl _) X)
  exact ⟨h2.drew.drew, (hfin.2.alloc hfin.2.size X).drew.drew⟩
/-- What region 12 reads and writes. -/
abbrev DecS (w : World) (gv : Nat) (V : Nat → Int) : Prop := (w.cell? ⟨gv, 1, none⟩ = some (.int .i64 (V 1)) ∧ w.cell? ⟨gv, 2, none⟩ = some (.int .i64 (V 2)) ∧ w.cell? ⟨gv, 3, none⟩ = some (.int .i64 (V 3)) ∧ w.cell? ⟨gv, 4, none⟩ = some (.int .i64 (V 4)) ∧ w.cell? ⟨gv, 5, none⟩ = some (.int .i64 (V 5)) ∧ w.cell? ⟨gv, 6, none⟩ = some (.int .i64 (V 6)) ∧ w.cell? ⟨gv, 7, none⟩ = some (.int .i64 (V 7)) ∧ w.cell? ⟨gv, 8, none⟩ = some (.int .i64 (V 8)))
theorem decKeep {w : World} {gv : Nat} {V : Nat → Int} (h : DecS w gv V) (X : Obj) : DecS (w.alloc X) gv V := by
  obtain ⟨h1, h2, h3, h4, h5, h6, h7, h8⟩ := h
  exact ⟨cell_alloc h1 X, cell_alloc h2 X, cell_alloc h3 X, cell_alloc h4 X, cell_alloc h5 X, cell_alloc h6 X, cell_alloc h7 X, cell_alloc h8 X⟩
theorem decDrew {w : World} {gv : Nat} {V : Nat → Int} (h : DecS w gv V) : DecS w.drew gv V := h
theorem decSet {w : World} {gv gm : Nat} {V : Nat → Int} (h : DecS w gv V) (vs : List Value) (hne : gv ≠ gm) : DecS (w.setCells gm 0 vs) gv V := by
  have e : ∀ (i : Nat) (v : Value), w.cell? ⟨gv, i, none⟩ = some v → (w.setCells gm 0 vs).cell? ⟨gv, i, none⟩ = some v := fun i v hv => (World.cell?_setCells_out gm vs 0 w ⟨gv, i, none⟩ (fun hb _ => absurd hb hne)).trans hv
  obtain ⟨h1, h2, h3, h4, h5, h6, h7, h8⟩ := h
  exact ⟨e _ _ h1, e _ _ h2, e _ _ h3, e _ _ h4, e _ _ h5, e _ _ h6, e _ _ h7, e _ _ h8⟩
theorem decChain {w : World} {gv gm : Nat} {V : Nat → Int} (h : DecS w gv V) (hne : gv ≠ gm) (a0 a1 a2 a3 a4 a5 a6 a7 a8 a9 a10 a11 a12 a13 : Value) : DecS ((((((((((((((w.setCell ⟨gm, 0, none⟩ a0).setCell ⟨gm, 1, none⟩ a1).setCell ⟨gm, 2, none⟩ a2).setCell ⟨gm, 3, none⟩ a3).setCell ⟨gm, 4, none⟩ a4).setCell ⟨gm, 5, none⟩ a5).setCell ⟨gm, 6, none⟩ a6).setCell ⟨gm, 7, none⟩ a7).setCell ⟨gm, 8, none⟩ a8).setCell ⟨gm, 9, none⟩ a9).setCell ⟨gm, 10, none⟩ a10).setCell ⟨gm, 11, none⟩ a11).setCell ⟨gm, 12, none⟩ a12).setCell ⟨gm, 13, none⟩ a13) gv V :=
  decSet h [a0, a1, a2, a3, a4, a5, a6, a7, a8, a9, a10, a11, a12, a13] hne
theorem msg_ops {w : World} {g : Nat} {m : M} (h : MsgAt w g m) : w.cell? ⟨g, 9, none⟩ = some (.int .i64 m.op.k) ∧ w.cell? ⟨g, 10, none⟩ = some (.int .i64 m.op.p) ∧ w.cell? ⟨g, 11, none⟩ = some (.int .u8 m.op.ch) ∧ w.cell? ⟨g, 12, none⟩ = some (.int .i64 m.op.cl) ∧ w.cell? ⟨g, 13, none⟩ = some (.int .i64 m.op.s) := by
  unfold MsgAt at h
  refine ⟨?_, ?_, ?_, ?_, ?_⟩ <;> simp [World.cell?, h, M.cs]
set_option maxRecDepth 100000 in
set_option maxHeartbeats 2000000 in
theorem decode_core (ao : Option Addr) (n cap : Nat) (b : List UInt8) (w : World) (Q : Ending → World → Prop) (hQ : ∀ e w', DecPost w b e w' → Q e w') (hl : b.length = n) (hr : Rd w ao b) (hcap : n ≤ cap) (hb : n ≤ 9223372036854775807) (hT : Tab w) (hE : EType w) (hS : Sizes w) (hSh : Shapes w) :
    Calls Tryd.prog 63 #[.slice ao n cap] w Q := by
  have HL := Lib.hid hl; have HR := Lib.hid hr; have HT := Lib.hid hT; have HE := Lib.hid hE; have HS := Lib.hid hS; have HSH := Lib.hid hSh; have HQ := Lib.hid hQ
  clear hl hr hT hE hS hSh hQ
  go_enter Tryd.func63, Tryd.ntmps63
  go_wp2_with fail
  have hB0 : Below w.heap.size w (w.alloc (.cells zeroM.cs 25)) := (Below.refl _ w).alloc (Nat.le_refl _) _
  refine (body_any ao n cap b _ HL.out (HR.out.step hB0) hcap hb (HT.out.step hB0) (HE.out.step hB0)).mono ?_
  intro e w1 hbp
  unfold BodyPost at hbp
  have hdi := decode_inner b
  rcases hin : innerOf b with ⟨c, a⟩ | i
  · rw [hin] at hbp hdi
    dsimp only at hdi
    obtain ⟨g, rfl, hN⟩ := hbp
    have hM : MsgAt w1 w.heap.size zeroM := (hN.2.2.block w.heap.size (by simp)).trans (heap_alloc_new _ _)
    have HM := Lib.hid hM; have HN := Lib.hid (hN.after hB0); have HDI := Lib.hid hdi
    have hge : w.heap.size + 1 ≤ g := by simpa using hN.1
    clear hM hN hdi hin hB0
    go_wp2_with ((with_reducible refine wpList_storeMsg2 rfl (.tmp 2) (.tmp 15) rfl rfl w.heap.size zeroM zeroM rfl rfl HM.out ?_); intro w2 hm2 ht2 ho2; have HM2 := Lib.hid hm2; have HT2 := Lib.hid ht2; have HO2 := Lib.hid ho2; clear hm2 ht2 ho2)
    exact ret_msg rfl rfl w.heap.size zeroM (faultV g) rfl HM2.out rfl (HQ.out _ _ (DecPost.err c a g HDI.out rfl (HN.out.turn HT2.out HO2.out (Nat.le_refl _) (by omega))))
  · rw [hin] at hbp hdi
    dsimp only at hdi
    obtain ⟨g1, rfl, hg1, hrow, hb1⟩ := hbp
    have hge : w.heap.size + 1 ≤ g1 := by simpa using hg1
    have hM : MsgAt w1 w.heap.size zeroM := (hb1.block w.heap.size (by simp)).trans (heap_alloc_new _ _)
    have hB1 := hB0.trans (hb1.mono hB0.size)
    obtain ⟨hL1, hL60⟩ := innerOf_inr hin
    obtain ⟨L, hLe⟩ : ∃ L, L = i.length := ⟨_, rfl⟩
    obtain ⟨k, hk⟩ : ∃ k, k = (i.getD 0 0).toNat := ⟨_, rfl⟩
    have hc0 := hrow.cell 0 hL1
    rw [← hk] at hc0
    rw [← hLe] at hL1 hL60 ⊢
    have hk256 : k < 256 := by rw [hk]; exact UInt8.toNat_lt _
    have HM := Lib.hid hM; have HB1 := Lib.hid hB1; have HROW := Lib.hid hrow; have HDI := Lib.hid hdi; have HLE := Lib.hid hLe; have HK := Lib.hid hk
    have hg1l := block_lt hc0
    have hmsgl := hM.lt
    clear hM hB1 hrow hdi hin hB0 hb1 hg1 hLe hk
    have p0 : (0 : Int) ≤ (k : Int) := by omega
    by_cases hbad : k < 1 ∨ 6 < k
    · have HBO := Lib.hid (show decode b = .inl (61, 0) by
        rw [HDI.out]; unfold bodyOf
        rw [if_neg (by intro h; have := HLE.out; rw [h] at this; simp at this; omega)]
        dsimp only
        rw [← HK.out, if_pos hbad])
      have HMA := Lib.hid (show MsgAt (w1.alloc (faultObj 0 61)) w.heap.size zeroM from HM.out.keep ((Below.refl _ _).alloc (Nat.le_refl _) _))
      rcases hbad with hbad | hbad
      all_goals
        go_wp2_with (first
          | (go_at_call 74; refine (wrap_any _ _ _).mono ?_; rintro e w7 ⟨rfl, rfl⟩)
          | ((with_reducible refine wpList_storeMsg2 rfl (.tmp 2) (.tmp 27) rfl rfl w.heap.size zeroM zeroM rfl rfl HMA.out ?_); intro w2 hm2 ht2 ho2; have HM2 := Lib.hid hm2; have HT2 := Lib.hid ht2; have HO2 := Lib.hid ho2; clear hm2 ht2 ho2))
        exact ret_msg rfl rfl w.heap.size zeroM (faultV w1.heap.size) rfl HM2.out rfl (HQ.out _ _ (DecPost.err 61 0 _ HBO.out rfl (((newFault_alloc _ _ _).after HB1.out).turn HT2.out HO2.out (Nat.le_refl _) (by omega))))
    · have hk1 : 1 ≤ k := by omega
      have hk6 : k ≤ 6 := by omega
      clear hbad
      obtain ⟨ao2, ns, caps, hcell, hlen, hrd⟩ := (HSH.out.step HB1.out) k (by omega)
      have hsl := shape_len k hk1 hk6
      rw [hlen] at hsl
      obtain ⟨b2, off2, rfl, -, -⟩ := hrd.some (by omega)
      have hn0 : 0 < ns := by omega
      have hn14 : ns ≤ 14 := by omega
      have HLN := Lib.hid hlen; have HRD := Lib.hid hrd
      have hshl := block_lt hcell
      have r1 : (1 : Int) ≤ (k : Int) := by omega
      have r6 : (k : Int) ≤ 6 := by omega
      have r7 : (k : Int) < 7 := by omega
      clear hsl hlen hrd
      go_wp2_with fail
      refine (long_any (some ⟨b2, off2, none⟩) ns caps (shapeN k) _ HLN.out HRD.out hn0 hn14 (HS.out.step HB1.out) (fun f hf => (shape_lt k f hf).2)).mono ?_
      rintro e w2 ⟨rfl, rfl⟩
      obtain ⟨lg, hlg⟩ : ∃ lg, lg = longOf (shapeN k) := ⟨_, rfl⟩
      rw [← hlg]
      have HLG := Lib.hid hlg; clear hlg
      by_cases hll : L = lg
      · have hdt : ((L : Int) != (lg : Int)) = false := by simp [hll]
        have hlong : i.length = longOf (shapeN k) := by rw [← HLE.out, hll, HLG.out]
        have HLO := Lib.hid hlong
        clear hll hlong
        go_wp2_with fail
        rw [own_eq k]
        refine (pick_any (some ⟨g1, 0, none⟩) L L i b2 off2 ns caps (shapeN k) (k == 2) _ HLE.out.symm HROW.out.rd HLN.out HRD.out hn0 hn14 HLO.out (ord_shape k hk1 hk6) (HS.out.step HB1.out)).mono ?_
        intro e w3 hp
        unfold PickPost at hp
        have hbody : ∀ x, badI i (shapeN k) (k == 2) = x → decode b = (match x with | some j => .inl (63, (posI (shapeN k) j : Nat)) | none => .inr (M.of (readB i (shapeN k)))) := by
          intro x hx
          rw [HDI.out]; unfold bodyOf
          rw [if_neg (by intro h; have := HLE.out; rw [h] at this; simp at this; omega)]
          dsimp only
          rw [← HK.out, if_neg (by omega), if_neg (by rw [HLO.out]; simp), hx]
          cases x <;> rfl
        rcases hbi : badI i (shapeN k) (k == 2) with _ | j
        · rw [hbi] at hp
          dsimp only at hp
          obtain ⟨rfl, hb3⟩ := hp
          have HBO := Lib.hid (hbody _ hbi)
          have HM3 := Lib.hid (HM.out.keep hb3)
          have HB3 := Lib.hid (HB1.out.trans (hb3.mono HB1.out.size))
          clear hbody hbi hb3
          have HVZ := Lib.hid (show ValsAt (w3.alloc (.cells #[.int .i64 0, .int .i64 0, .int .i64 0, .int .i64 0, .int .i64 0, .int .i64 0, .int .i64 0, .int .i64 0, .int .i64 0, .int .i64 0, .int .i64 0, .int .i64 0, .int .i64 0, .int .i64 0] 114)) w3.heap.size fun _ => 0 from heap_alloc_new _ _)
          obtain ⟨V, hV⟩ : ∃ V, V = readB i (shapeN k) := ⟨_, rfl⟩
          have HVE := Lib.hid hV
          rw [← hV]
          clear hV
          go_wp2_with ((with_reducible refine wpList_storeVals rfl (.tmp 7) (.tmp 48) rfl rfl w3.heap.size (fun _ => 0) V rfl rfl HVZ.out ?_); intro w4 hv4 ht4 ho4; have HV4 := Lib.hid hv4; have HT4 := Lib.hid ht4; have HO4 := Lib.hid ho4; clear hv4 ht4 ho4)
          have HM4 := Lib.hid (show MsgAt w4 w.heap.size zeroM from (HO4.out w.heap.size (by have := HM3.out.lt; omega)).trans ((heap_push w3 _ _ HM3.out.lt).trans HM3.out))
          have HB4 := Lib.hid (HT4.out _ _ HB3.out.size (HB3.out.alloc HB3.out.size _))
          have hn := HV4.out.nums
          have hV11 : 0 ≤ V 11 ∧ V 11 ≤ 255 := by rw [HVE.out]; exact readB_byte i k
          have hds : DecS w4 w3.heap.size V := ⟨hn 1 (by omega), hn 2 (by omega), hn 3 (by omega), hn 4 (by omega), hn 5 (by omega), hn 6 (by omega), hn 7 (by omega), hn 8 (by omega)⟩
          have hdd := decDrew hds
          have hne : w3.heap.size ≠ w.heap.size := by have := HM3.out.lt; omega
          have hone : ∀ v ∈ [Value.int .i64 (k : Int), Value.int .i64 (V 1), Value.int .i64 (V 2), Value.int .i64 (V 3), Value.int .i64 (V 4), Value.int .i64 (V 5), Value.int .i64 (V 6), Value.int .i64 (V 7), Value.int .i64 (V 8), Value.int .i64 (V 9), Value.int .i64 (V 10), Value.int .u8 (V 11), Value.int .i64 (V 12), Value.int .i64 (V 13)], v.oneCell' = true := by simp [Value.oneCell']
          have HN4 := Lib.hid hn
          have HND := Lib.hid (show Nums w4.drew w3.heap.size V from hn)
          clear hn
          have hmn : ∀ j, j < 9 → w4.cell? ⟨w.heap.size, j, none⟩ = some (.int .i64 (zeroM.at j)) := fun j hj => HM4.out.num j hj
          have z0 := hmn 0 (by omega); have z1 := hmn 1 (by omega); have z2 := hmn 2 (by omega); have z3 := hmn 3 (by omega); have z4 := hmn 4 (by omega); have z5 := hmn 5 (by omega); have z6 := hmn 6 (by omega); have z7 := hmn 7 (by omega); have z8 := hmn 8 (by omega)
          obtain ⟨z9, z10, z11, z12, z13⟩ := msg_ops HM4.out
          have hzf := HM4.out.frozen
          have hgl4 := HM4.out.lt
          clear hmn
          go_region_held3 (fun w' => DecS w' w3.heap.size V) (with_reducible first | exact hds | exact hdd | exact decKeep hds _ | exact decDrew (decKeep hds _) | exact decKeep hdd _ | exact decDrew (decDrew (decKeep hds _)) | exact decDrew (decDrew (decKeep (decChain hds hne _ _ _ _ _ _ _ _ _ _ _ _ _ _) _)) | exact decDrew (decKeep (decChain hds hne _ _ _ _ _ _ _ _ _ _ _ _ _ _) _))
            (first
             | ((with_reducible refine (op_any w3.heap.size V _ HN4.out hV11).mono ?_); rintro e w' ⟨rfl, X, rfl⟩)
             | ((with_reducible refine (op_any w3.heap.size V _ HND.out hV11).mono ?_); rintro e w' ⟨rfl, X, rfl⟩))
          have hV0 : V 0 = (k : Int) := by rw [HVE.out]; unfold readB; rw [if_pos rfl, HK.out]
          have hfin := fun X => storeMsgChain (m' := M.of V) HM4.out (Value.int .i64 (k : Int)) (Value.int .i64 (V 1)) (Value.int .i64 (V 2)) (Value.int .i64 (V 3)) (Value.int .i64 (V 4)) (Value.int .i64 (V 5)) (Value.int .i64 (V 6)) (Value.int .i64 (V 7)) (Value.int .i64 (V 8)) (Value.int .i64 (V 9)) (Value.int .i64 (V 10)) (Value.int .u8 (V 11)) (Value.int .i64 (V 12)) (Value.int .i64 (V 13)) X (by simp [M.cs, M.of, hV0]) hone (Nat.le_refl _) HB4.out
          have HFIN := Lib.hid hfin
          have HB5 := Lib.hid (show decode b = .inr (M.of V) by rw [HBO.out, HVE.out])
          clear hfin hds hdd hone hV0 z0 z1 z2 z3 z4 z5 z6 z7 z8 z9 z10 z11 z12 z13 hzf
          go_wp2_with fail
          refine ret_msg rfl rfl w.heap.size (M.of V) .nilIface rfl (HFIN.out X).1 rfl (HQ.out _ _ ?_)
          unfold DecPost
          rw [HB5.out]
          exact ⟨rfl, (HFIN.out X).2⟩
        · rw [hbi] at hp
          dsimp only at hp
          obtain ⟨g3, rfl, hN3⟩ := hp
          have HBO := Lib.hid (hbody _ hbi)
          have HM3 := Lib.hid (HM.out.keep hN3.2.2)
          have HN3 := Lib.hid (hN3.after HB1.out)
          have hg3 : w1.heap.size ≤ g3 := hN3.1
          have hg3l := heap_lt hN3.2.1
          clear hbody hbi hN3
          have HVZ := Lib.hid (show ValsAt (w3.alloc (.cells #[.int .i64 0, .int .i64 0, .int .i64 0, .int .i64 0, .int .i64 0, .int .i64 0, .int .i64 0, .int .i64 0, .int .i64 0, .int .i64 0, .int .i64 0, .int .i64 0, .int .i64 0, .int .i64 0] 114)) w3.heap.size fun _ => 0 from heap_alloc_new _ _)
          go_wp2_with (first
            | ((with_reducible refine wpList_storeVals rfl (.tmp 7) (.tmp 48) rfl rfl w3.heap.size (fun _ => 0) (fun _ => 0) rfl rfl HVZ.out ?_); intro w4 hv4 ht4 ho4; have HT4 := Lib.hid ht4; have HO4 := Lib.hid ho4; have HM4 := Lib.hid (show MsgAt w4 w.heap.size zeroM from (ho4 w.heap.size (by have := HM3.out.lt; omega)).trans ((heap_push w3 _ _ HM3.out.lt).trans HM3.out)); clear hv4 ht4 ho4)
            | ((with_reducible refine wpList_storeMsg2 rfl (.tmp 2) (.tmp 52) rfl rfl w.heap.size zeroM zeroM rfl rfl HM4.out ?_); intro w5 hm2 ht2 ho2; have HM2 := Lib.hid hm2; have HT2 := Lib.hid ht2; have HO2 := Lib.hid ho2; clear hm2 ht2 ho2))
          refine ret_msg rfl rfl w.heap.size zeroM (faultV g3) rfl HM2.out rfl (HQ.out _ _ (DecPost.err 63 _ g3 HBO.out rfl (NewFault.turn ?_ HT2.out HO2.out (Nat.le_refl _) (by omega))))
          exact ⟨HN3.out.1, (HO4.out g3 (by omega)).trans ((heap_push w3 _ _ hg3l).trans HN3.out.2.1), HT4.out _ _ HN3.out.2.2.size (HN3.out.2.2.alloc HN3.out.2.2.size _)⟩
      · have hdt : ((L : Int) != (lg : Int)) = true := by simp; omega
        have HLL := Lib.hid hll
        have HBO := Lib.hid (show decode b = .inl (62, (L : Int)) by
          rw [HDI.out]; unfold bodyOf
          rw [if_neg (by intro h; have := HLE.out; rw [h] at this; simp at this; omega)]
          dsimp only
          rw [← HK.out, if_neg (by omega), if_pos (by rw [← HLE.out, ← HLG.out]; exact HLL.out), HLE.out])
        have HMA := Lib.hid (show MsgAt (w1.alloc (faultObj L 62)) w.heap.size zeroM from HM.out.keep ((Below.refl _ _).alloc (Nat.le_refl _) _))
        clear hll
        go_wp2_with (first
          | (go_at_call 74; refine (wrap_any _ _ _).mono ?_; rintro e w7 ⟨rfl, rfl⟩)
          | ((with_reducible refine wpList_storeMsg2 rfl (.tmp 2) (.tmp 36) rfl rfl w.heap.size zeroM zeroM rfl rfl HMA.out ?_); intro w2 hm2 ht2 ho2; have HM2 := Lib.hid hm2; have HT2 := Lib.hid ht2; have HO2 := Lib.hid ho2; clear hm2 ht2 ho2))
        exact ret_msg rfl rfl w.heap.size zeroM (faultV w1.heap.size) rfl HM2.out rfl (HQ.out _ _ (DecPost.err 62 L _ HBO.out rfl (((newFault_alloc _ _ _).after HB1.out).turn HT2.out HO2.out (Nat.le_refl _) (by omega))))

theorem decode_any (ao : Option Addr) (n cap : Nat) (b : List UInt8) (w : World) (hl : b.length = n) (hr : Rd w ao b) (hcap : n ≤ cap) (hb : n ≤ 9223372036854775807) (hT : Tab w) (hE : EType w) (hS : Sizes w) (hSh : Shapes w) :
    Calls Tryd.prog 63 #[.slice ao n cap] w (DecPost w b) := decode_core ao n cap b w _ (fun _ _ h => h) hl hr hcap hb hT hE hS hSh
end Go.Proofs.YtoophonmonojcaaDoor

/- Two messages compared; two items. -/
namespace Go.Proofs.YtoophonmonojcaaDoor
open Go.RowKit
set_option maxRecDepth 100000

theorem fieldsMsg : Tryd.prog.underlying 25 = some (.struct (Tryd.prog.fieldsOf 25)) := by kernel_rfl
theorem fieldsOp : Tryd.prog.underlying 23 = some (.struct (Tryd.prog.fieldsOf 23)) := by kernel_rfl
theorem stoodMsg : Tryd.prog.stoodInHeld 25 = false := by kernel_rfl
theorem stoodOp : Tryd.prog.stoodInHeld 23 = false := by kernel_rfl
def O.eqB (a b : O) : Bool := (a.k == b.k) && (a.p == b.p) && (a.ch == b.ch) && (a.cl == b.cl) && (a.s == b.s)
def M.eqB (a b : M) : Bool := (a.k == b.k) && (a.e == b.e) && (a.c == b.c) && (a.ha == b.ha) && (a.fi == b.fi) && (a.nu == b.nu) && (a.ac == b.ac) && (a.re == b.re) && (a.ta == b.ta) && a.op.eqB b.op
theorem O.eqB_iff (a b : O) : a.eqB b = true ↔ a = b := by
  obtain ⟨a1, a2, a3, a4, a5⟩ := a
  obtain ⟨b1, b2, b3, b4, b5⟩ := b
  simp [O.eqB, and_assoc]
theorem M.eqB_iff (a b : M) : a.eqB b = true ↔ a = b := by
  obtain ⟨a1, a2, a3, a4, a5, a6, a7, a8, a9, a10⟩ := a
  obtain ⟨b1, b2, b3, b4, b5, b6, b7, b8, b9, b10⟩ := b
  simp [M.eqB, and_assoc, O.eqB_iff]
theorem part_int (xs : Array Value) (off : Nat) (v : Value) (w : World) (h : xs[off]? = some v) : (part 3 xs off).run Tryd.prog w = .ok v w := by
  simp [part, isAgg, run_underlying Tryd.underlying3, h]
theorem part_u8 (xs : Array Value) (off : Nat) (v : Value) (w : World) (h : xs[off]? = some v) : (part 5 xs off).run Tryd.prog w = .ok v w := by
  simp [part, isAgg, run_underlying Tryd.underlying5, h]
/-- One step of the comparison. -/
theorem eq_step (d : Nat) (xs ys : Array Value) (f : Field) (fs : List Field) (w : World) (k : IntKind) (a b : Int) (h0 : f.name ≠ "_") (hx : (part f.type xs f.offset).run Tryd.prog w = .ok (.int k a) w) (hy : (part f.type ys f.offset).run Tryd.prog w = .ok (.int k b) w) (hu : Tryd.prog.underlying f.type = some (.int k))
    (r : Bool) (hr : (Op.eqFields (d + 1) xs ys fs).run Tryd.prog w = .ok r w) : (Op.eqFields (d + 1) xs ys (f :: fs)).run Tryd.prog w = .ok ((a == b) && r) w := by
  rw [Op.eqFields, if_pos h0]
  simp only [Sem.run_bind, hx, hy, Result.andThen_ok, run_equalIn_int w d f.type k k a b hu]
  cases hab : (a == b)
  · simp
  · simp [hr]
def O.cs (o : O) : Array Value := #[.int .i64 o.k, .int .i64 o.p, .int .u8 o.ch, .int .i64 o.cl, .int .i64 o.s]
def fo0 : Field := { name := "Kind", type := 3, offset := 0, embedded := false, tag := "", pkgPath := "", byteOffset := 0 }
def fo1 : Field := { name := "Pos", type := 3, offset := 1, embedded := false, tag := "", pkgPath := "", byteOffset := 8 }
def fo2 : Field := { name := "Ch", type := 5, offset := 2, embedded := false, tag := "", pkgPath := "", byteOffset := 16 }
def fo3 : Field := { name := "Client", type := 3, offset := 3, embedded := false, tag := "", pkgPath := "", byteOffset := 24 }
def fo4 : Field := { name := "Seq", type := 3, offset := 4, embedded := false, tag := "", pkgPath := "", byteOffset := 32 }
def fm0 : Field := { name := "Kind", type := 3, offset := 0, embedded := false, tag := "", pkgPath := "", byteOffset := 0 }
def fm1 : Field := { name := "Epoch", type := 3, offset := 1, embedded := false, tag := "", pkgPath := "", byteOffset := 8 }
def fm2 : Field := { name := "Client", type := 3, offset := 2, embedded := false, tag := "", pkgPath := "", byteOffset := 16 }
def fm3 : Field := { name := "Have", type := 3, offset := 3, embedded := false, tag := "", pkgPath := "", byteOffset := 24 }
def fm4 : Field := { name := "First", type := 3, offset := 4, embedded := false, tag := "", pkgPath := "", byteOffset := 32 }
def fm5 : Field := { name := "Num", type := 3, offset := 5, embedded := false, tag := "", pkgPath := "", byteOffset := 40 }
def fm6 : Field := { name := "Ack", type := 3, offset := 6, embedded := false, tag := "", pkgPath := "", byteOffset := 48 }
def fm7 : Field := { name := "Rev", type := 3, offset := 7, embedded := false, tag := "", pkgPath := "", byteOffset := 56 }
def fm8 : Field := { name := "Tag", type := 3, offset := 8, embedded := false, tag := "", pkgPath := "", byteOffset := 64 }
def fm9 : Field := { name := "Op", type := 23, offset := 9, embedded := false, tag := "", pkgPath := "", byteOffset := 72 }
theorem fieldsOpL : (Tryd.prog.fieldsOf 23).toList = [fo0, fo1, fo2, fo3, fo4] := by
  simp only [Program.fieldsOf, Tryd.underlying23]
  rfl
theorem fieldsMsgL : (Tryd.prog.fieldsOf 25).toList = [fm0, fm1, fm2, fm3, fm4, fm5, fm6, fm7, fm8, fm9] := by
  simp only [Program.fieldsOf, Tryd.underlying25]
  rfl
theorem op_equal (d : Nat) (a b : O) (w : World) : (Op.equalIn (d + 1 + 1) 23 (.agg a.cs) (.agg b.cs)).run Tryd.prog w = .ok (a.eqB b) w := by
  rw [run_equalIn_agg w (d + 1) 23 _ _ fieldsOp stoodOp, fieldsOpL]
  have e : a.eqB b = ((a.k == b.k) && ((a.p == b.p) && ((a.ch == b.ch) && ((a.cl == b.cl) && ((a.s == b.s) && true))))) := by simp [O.eqB, Bool.and_assoc]
  rw [e]
  have h5 : (Op.eqFields (d + 1) a.cs b.cs []).run Tryd.prog w = .ok true w := rfl
  have h4 := eq_step d a.cs b.cs fo4 _ w .i64 a.s b.s (by simp [fo4]) (part_int a.cs 4 (.int .i64 a.s) w rfl) (part_int b.cs 4 (.int .i64 b.s) w rfl) Tryd.underlying3 _ h5
  have h3 := eq_step d a.cs b.cs fo3 _ w .i64 a.cl b.cl (by simp [fo3]) (part_int a.cs 3 (.int .i64 a.cl) w rfl) (part_int b.cs 3 (.int .i64 b.cl) w rfl) Tryd.underlying3 _ h4
  have h2 := eq_step d a.cs b.cs fo2 _ w .u8 a.ch b.ch (by simp [fo2]) (part_u8 a.cs 2 (.int .u8 a.ch) w rfl) (part_u8 b.cs 2 (.int .u8 b.ch) w rfl) Tryd.underlying5 _ h3
  have h1 := eq_step d a.cs b.cs fo1 _ w .i64 a.p b.p (by simp [fo1]) (part_int a.cs 1 (.int .i64 a.p) w rfl) (part_int b.cs 1 (.int .i64 b.p) w rfl) Tryd.underlying3 _ h2
  have h0 := eq_step d a.cs b.cs fo0 _ w .i64 a.k b.k (by simp [fo0]) (part_int a.cs 0 (.int .i64 a.k) w rfl) (part_int b.cs 0 (.int .i64 b.k) w rfl) Tryd.underlying3 _ h1
  exact h0
theorem infoOp : (Tryd.prog.info? 23).map (·.size) = some 5 := by kernel_rfl
theorem part_op (xs : Array Value) (off : Nat) (w : World) : (part 23 xs off).run Tryd.prog w = .ok (.agg (xs.extract off (off + 5))) w := by
  cases hq : Tryd.prog.info? 23 with
  | none => have := infoOp; simp [hq] at this
  | some i =>
    have hs : i.size = 5 := by have := infoOp; simpa [hq] using this
    simp [part, isAgg, run_underlying Tryd.underlying23, sizeOf, typeInfo, hq, hs]
theorem eql_msg (a b : M) (w : World) : (binOp .eql 25 (.agg a.cs) (.agg b.cs)).run Tryd.prog w = .ok (.bool (a.eqB b)) w := by
  rw [run_eql_struct, run_equalIn_agg w 9999 25 _ _ fieldsMsg stoodMsg, fieldsMsgL]
  have e : a.eqB b = ((a.k == b.k) && ((a.e == b.e) && ((a.c == b.c) && ((a.ha == b.ha) && ((a.fi == b.fi) && ((a.nu == b.nu) && ((a.ac == b.ac) && ((a.re == b.re) && ((a.ta == b.ta) && (a.op.eqB b.op)))))))))) := by simp [M.eqB, Bool.and_assoc]
  have h9 : (Op.eqFields (9998 + 1) a.cs b.cs [fm9]).run Tryd.prog w = .ok (a.op.eqB b.op) w := by
    rw [Op.eqFields, if_pos (by simp [fm9])]
    have e1 := part_op a.cs 9 w
    have e2 := part_op b.cs 9 w
    rw [show a.cs.extract 9 (9 + 5) = a.op.cs from rfl] at e1
    rw [show b.cs.extract 9 (9 + 5) = b.op.cs from rfl] at e2
    have e3 := op_equal 9997 a.op b.op w
    simp only [Sem.run_bind, fm9, e1, e2, Result.andThen_ok, e3]
    cases a.op.eqB b.op <;> rfl
  have h8 := eq_step 9998 a.cs b.cs fm8 _ w .i64 a.ta b.ta (by simp [fm8]) (part_int a.cs 8 (.int .i64 a.ta) w rfl) (part_int b.cs 8 (.int .i64 b.ta) w rfl) Tryd.underlying3 _ h9
  have h7 := eq_step 9998 a.cs b.cs fm7 _ w .i64 a.re b.re (by simp [fm7]) (part_int a.cs 7 (.int .i64 a.re) w rfl) (part_int b.cs 7 (.int .i64 b.re) w rfl) Tryd.underlying3 _ h8
  have h6 := eq_step 9998 a.cs b.cs fm6 _ w .i64 a.ac b.ac (by simp [fm6]) (part_int a.cs 6 (.int .i64 a.ac) w rfl) (part_int b.cs 6 (.int .i64 b.ac) w rfl) Tryd.underlying3 _ h7
  have h5 := eq_step 9998 a.cs b.cs fm5 _ w .i64 a.nu b.nu (by simp [fm5]) (part_int a.cs 5 (.int .i64 a.nu) w rfl) (part_int b.cs 5 (.int .i64 b.nu) w rfl) Tryd.underlying3 _ h6
  have h4 := eq_step 9998 a.cs b.cs fm4 _ w .i64 a.fi b.fi (by simp [fm4]) (part_int a.cs 4 (.int .i64 a.fi) w rfl) (part_int b.cs 4 (.int .i64 b.fi) w rfl) Tryd.underlying3 _ h5
  have h3 := eq_step 9998 a.cs b.cs fm3 _ w .i64 a.ha b.ha (by simp [fm3]) (part_int a.cs 3 (.int .i64 a.ha) w rfl) (part_int b.cs 3 (.int .i64 b.ha) w rfl) Tryd.underlying3 _ h4
  have h2 := eq_step 9998 a.cs b.cs fm2 _ w .i64 a.c b.c (by simp [fm2]) (part_int a.cs 2 (.int .i64 a.c) w rfl) (part_int b.cs 2 (.int .i64 b.c) w rfl) Tryd.underlying3 _ h3
  have h1 := eq_step 9998 a.cs b.cs fm1 _ w .i64 a.e b.e (by simp [fm1]) (part_int a.cs 1 (.int .i64 a.e) w rfl) (part_int b.cs 1 (.int .i64 b.e) w rfl) Tryd.underlying3 _ h2
  have h0 := eq_step 9998 a.cs b.cs fm0 _ w .i64 a.k b.k (by simp [fm0]) (part_int a.cs 0 (.int .i64 a.k) w rfl) (part_int b.cs 0 (.int .i64 b.k) w rfl) Tryd.underlying3 _ h1
  rw [e]
  have h0' : (Op.eqFields 9999 a.cs b.cs [fm0, fm1, fm2, fm3, fm4, fm5, fm6, fm7, fm8, fm9]).run Tryd.prog w = _ := h0
  rw [h0']
  rfl
end Go.Proofs.YtoophonmonojcaaDoor

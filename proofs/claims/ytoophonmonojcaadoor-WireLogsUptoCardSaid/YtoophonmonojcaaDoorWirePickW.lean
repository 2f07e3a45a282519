/- The walk of wire's pick. -/
import Derived.Test.YtoophonmonojcaaDoorWirePick
import Derived.Laws.IdiomCopy
namespace Go.Proofs.YtoophonmonojcaaDoor
open Go.RowKit

attribute [local go_sem] store_nilFunc store_func
theorem ord_shape (k : Nat) (h1 : 1 ≤ k) (h6 : k ≤ 6) : Ord (shapeN k) (k == 2) := by
  have hc : k = 1 ∨ k = 2 ∨ k = 3 ∨ k = 4 ∨ k = 5 ∨ k = 6 := by omega
  rcases hc with rfl | rfl | rfl | rfl | rfl | rfl <;> exact ⟨by decide, by decide, by decide⟩
theorem ValsAt.other {w w' : World} {g r : Nat} {v : Nat → Int} (h : ValsAt w g v) (hg : w.grownBy w' (some r)) (hne : g ≠ r) : ValsAt w' g v := (hg.block g (heap_lt h) (by simp; omega)).trans h
theorem below_grown {B r : Nat} {w0 w w' : World} (hb : Below B w0 w) (hg : w.grownBy w' (some r)) (hr : B ≤ r) (hB : B ≤ w.heap.size) : Below B w0 w' :=
  ⟨hg.os.trans hb.os, hg.tape.trans hb.tape, hg.output.trans hb.output, Nat.le_trans hb.size hg.size, fun k hk => (hg.block k (Nat.lt_of_lt_of_le hk hB) (by simp; omega)).trans (hb.block k hk)⟩


theorem infoInt1 : (Tryd.prog.info? 3).map (·.size) = some 1 := by kernel_rfl
theorem infoVals : (Tryd.prog.info? 114).map (·.size) = some 14 := by kernel_rfl
theorem run_storeNum (w : World) (g f : Nat) (v : Nat → Int) (x0 : Int) (hg : ValsAt w g v) (hf : f < 14) : (storeVar 3 ⟨g, f, none⟩ (.int .i64 x0)).run Tryd.prog w = .ok () (w.setCell ⟨g, f, none⟩ (.int .i64 x0)) := by
  have := run_storeCells_cells (P := Tryd.prog) g f [Value.int .i64 x0] 0 w (fun j hj => by obtain rfl : j = 0 := (by simp at hj; exact hj); simp [hg.nums f hf]) (fun j hj => by simp [hg.frozen]) (fun u hu => by simp at hu; subst hu; rfl)
  simp only [Nat.add_zero, World.setCells] at this
  cases hq : Tryd.prog.info? 3 with
  | none => have := infoInt1; simp [hq] at this
  | some i =>
    have hs : i.size = 1 := by have := infoInt1; simpa [hq] using this
    simp [storeVar, sizeOf, typeInfo, hq, Value.cells, hs, this]
/-- One number is stored. -/
theorem wpList_storeNum {ops : Array Oper} {rest : List Oper} {o : Oper} {a : Act} {w : World} {Q : Exit → Act → World → Prop} (hgd : o.guard = none) (x y : Operand) (ho : o.op = .store 3 x y) (hd : o.dst = none) (g f : Nat) (v v' : Nat → Int) (x0 : Int)
    (hx : a.eval x = .pointer (some ⟨g, f, none⟩)) (hy : a.eval y = .int .i64 x0) (hg : ValsAt w g v) (hf : f < 14) (hv : ∀ j, j < 14 → v' j = if j = f then x0 else v j)
    (h : ∀ w', ValsAt w' g v' → w.grownBy w' (some g) → wpList Tryd.prog ops Q rest a w') : wpList Tryd.prog ops Q (o :: rest) a w :=
  wpList_plain hgd fun _ hK => by
    unfold Oper.wp execOp
    simp only [ho, hx, hy, Instr.storeAt, Instr.sureAddr, Sem.run_bind, Sem.run_pure, Result.andThen_ok, run_storeNum w g f v x0 hg hf]
    refine hK _ _ ?_
    rw [hd]
    exact h _ (hg.set f hf x0 hv) (grown_setCell w ⟨g, f, none⟩ _)
/-- All fourteen are loaded; stored. -/
theorem wpList_loadVals {w : World} {ops : Array Oper} {rest : List Oper} {o : Oper} {a : Act} {Q : Exit → Act → World → Prop} (hgd : o.guard = none) (x : Operand) (ho : o.op = .load 114 x) (g : Nat) (v : Nat → Int)
    (hx : a.eval x = .pointer (some ⟨g, 0, none⟩)) (hg : ValsAt w g v) (h : wpList Tryd.prog ops Q rest (a.put o.dst (.agg (vals v))) w) : wpList Tryd.prog ops Q (o :: rest) a w :=
  wpList_load_row hgd 114 x ho g hx 114 (vals v) (0, 0) _ hg Tryd.underlying114 rfl infoVals h
theorem wpList_storeVals {w : World} {ops : Array Oper} {rest : List Oper} {o : Oper} {a : Act} {Q : Exit → Act → World → Prop} (hgd : o.guard = none) (x y : Operand) (ho : o.op = .store 114 x y) (hd : o.dst = none) (g : Nat) (v v' : Nat → Int)
    (hx : a.eval x = .pointer (some ⟨g, 0, none⟩)) (hy : a.eval y = .agg (vals v')) (hg : ValsAt w g v) (h : ∀ w', ValsAt w' g v' → (∀ B w0, B ≤ g → Below B w0 w → Below B w0 w') → (∀ k, k ≠ g → w'.heap[k]? = w.heap[k]?) → wpList Tryd.prog ops Q rest a w') : wpList Tryd.prog ops Q (o :: rest) a w :=
  wpList_store_rowTo hgd 114 x y ho hd g (vals v') hx hy 114 (vals v) hg infoVals rfl (by simp [vals, Value.oneCell']) (h _ (setRow_heap w g _ _ _ _ hg) (fun B w0 hB hb => below_setRow hb hB _) (fun k hk => setRow_other w g k _ hk))
theorem num_first (i : List UInt8) (l : List Nat) (h : 1 ≤ i.length) : ((num ((i.drop 0).take 1) : Nat) : Int) = readB i l 0 := by
  unfold readB
  rw [if_pos rfl]
  match i, h with
  | a :: t, _ => simp [num_one]

theorem grown_cell {w w' : World} {r : Nat} (hg : w.grownBy w' (some r)) {a : Addr} {v : Value} (h : w.cell? a = some v) (hne : a.block ≠ r) : w'.cell? a = some v := by
  have e := hg.block a.block (block_lt h) (by simp; omega)
  unfold World.cell? at *
  rw [e]; exact h
theorem ReaderAt.other {w w' : World} {g gb r at_ : Nat} {l : List UInt8} {ev : Value} (h : ReaderAt w g gb l at_ ev) (hg : w.grownBy w' (some r)) (h1 : g ≠ r) (h2 : gb ≠ r) : ReaderAt w' g gb l at_ ev :=
  ⟨(hg.block g h.lt (by simp; omega)).trans h.1, (hg.block gb h.2.lt (by simp; omega)).trans h.2⟩
theorem badI_some (b : List UInt8) (l : List Nat) (own : Bool) (k : Nat) (hk : k < l.length) (hm : mayB (l.getD k 0) (readB b l) (makerB own (readB b l)) = false) (hg : ∀ j, j < k → mayB (l.getD j 0) (readB b l) (makerB own (readB b l)) = true) : badI b l own = some k := by
  unfold badI
  rw [List.find?_range_eq_some]
  exact ⟨by rw [hm]; rfl, by simpa using hk, fun j hj => by rw [hg j hj]; rfl⟩
theorem badI_all (b : List UInt8) (l : List Nat) (own : Bool) (hg : ∀ j, j < l.length → mayB (l.getD j 0) (readB b l) (makerB own (readB b l)) = true) : badI b l own = none := by
  unfold badI
  rw [List.find?_range_eq_none]
  exact fun j hj => by rw [hg j hj]; rfl
/-- Where pick's round stands. -/
structure PickInv (w wr : World) (i : List UInt8) (l : List Nat) (own : Bool) (gr gb ga k : Nat) : Prop where
  res : ValsAt wr w.heap.size fun _ => 0
  val : ValsAt wr (w.heap.size + 1) (cut i l k)
  f1 : wr.cell? ⟨ga, 1, none⟩ = some (.func (.func 119) #[.pointer (some ⟨gr, 0, none⟩)] #[])
  f2 : wr.cell? ⟨ga, 2, none⟩ = some (.func (.func 115) #[.pointer (some ⟨gr, 0, none⟩)] #[])
  rd : ReaderAt wr gr gb i (posI l k) .nilIface
  below : Below w.heap.size w wr
  good : ∀ j, j < k → mayB (l.getD j 0) (readB i l) (makerB own (readB i l)) = true

set_option maxRecDepth 100000 in
set_option maxHeartbeats 2000000 in
theorem pick_core (ao : Option Addr) (n cap : Nat) (i : List UInt8) (b off ns caps : Nat) (l : List Nat) (own : Bool) (w : World) (Q : Ending → World → Prop) (hQ : ∀ e w', PickPost w i l own e w' → Q e w') (hl : i.length = n) (hr : Rd w ao i) (hll : l.length = ns) (hrn : RdN w (some ⟨b, off, none⟩) l) (h0 : 0 < ns) (hn14 : ns ≤ 14) (hlong : i.length = longOf l) (hord : Ord l own) (hs : Sizes w) :
    Calls Tryd.prog 82 #[.slice ao n cap, .slice (some ⟨b, off, none⟩) ns caps, .bool own] w Q := by
  obtain ⟨b', off', e, hbw, hc⟩ := hrn.some (by omega)
  cases e
  rw [hll] at hc
  have hb29 := posI_bound l l.length (fun f hf => (hord.2.2 f hf).2)
  rw [posI_all, ← hlong, hl, hll] at hb29
  have HL := Lib.hid hl; have HR := Lib.hid hr; have HLL := Lib.hid hll; have HC := Lib.hid hc; have HLO := Lib.hid hlong; have HO := Lib.hid hord; have HS := Lib.hid hs; have HQ := Lib.hid hQ
  clear hl hr hll hrn hc hlong hord hs hQ
  go_enter Tryd.func82, Tryd.ntmps82
  go_wp2_with fail
  refine (newReader_any ao n cap i _ HL.out (HR.out.step (((Below.refl _ w).alloc (Nat.le_refl _) _).alloc (by simp) _)) (by omega)).mono ?_
  rintro e w1 ⟨gr, gb, rfl, hgr, hgb, hra, hb1⟩
  have hV0 : ValsAt w1 w.heap.size fun _ => 0 := (hb1.block w.heap.size (by simp; omega)).trans (heap_one w _ _)
  have hV1 : ValsAt w1 (w.heap.size + 1) fun _ => 0 := (hb1.block (w.heap.size + 1) (by simp)).trans (heap_two w _ _)
  have hgr2 : w.heap.size + 2 ≤ gr := by simpa using hgr
  have hgb2 : w.heap.size + 2 ≤ gb := by simpa using hgb
  have hB1 : Below w.heap.size w w1 := (((Below.refl _ w).alloc (Nat.le_refl _) _).alloc (by simp) _).trans (hb1.mono (by simp; omega))
  have HV0 := Lib.hid hV0; have HV1 := Lib.hid hV1; have HB1 := Lib.hid hB1; have HRA := Lib.hid hra
  clear hgr hgb hV0 hV1 hB1 hra hb1
  go_wp2_with fail
  have hgrl := HRA.out.lt
  have hgbl := HRA.out.2.lt
  refine (u8_ok gr gb i 0 _ (HRA.out.below ((Below.refl _ w1).alloc (Nat.le_refl _) _) hgrl hgbl) (by have := HLO.out; unfold longOf at this; omega) (by have := HL.out; omega)).mono ?_
  rintro e w2 ⟨rfl, hra2, hg2⟩
  have hV02 : ValsAt w2 w.heap.size fun _ => 0 := ValsAt.other ((((Below.refl _ w1).alloc (Nat.le_refl _) _).block w.heap.size (heap_lt HV0.out)).trans HV0.out) hg2 (by omega)
  have hV12 : ValsAt w2 (w.heap.size + 1) fun _ => 0 := ValsAt.other ((((Below.refl _ w1).alloc (Nat.le_refl _) _).block (w.heap.size + 1) (heap_lt HV1.out)).trans HV1.out) hg2 (by omega)
  have hfb : w2.heap[w1.heap.size]? = _ := (hg2.block w1.heap.size (by simp) (by simp; omega)).trans (heap_alloc_new _ _)
  have hF1 : w2.cell? ⟨w1.heap.size, 1, none⟩ = some (.func (.func 119) #[.pointer (some ⟨gr, 0, none⟩)] #[]) := by simp [World.cell?, hfb]
  have hF2 : w2.cell? ⟨w1.heap.size, 2, none⟩ = some (.func (.func 115) #[.pointer (some ⟨gr, 0, none⟩)] #[]) := by simp [World.cell?, hfb]
  have hB2 : Below w.heap.size w w2 := below_grown (HB1.out.alloc HB1.out.size _) hg2 (by omega) (by have := HB1.out.size; simp; omega)
  rw [num_first i l (by have := HLO.out; unfold longOf at this; omega)]
  have hgaw : w.heap.size + 2 ≤ w1.heap.size := by have := heap_lt HV1.out; omega
  have hgar : w1.heap.size ≠ gr := by omega
  have HF1 := Lib.hid hF1; have HF2 := Lib.hid hF2; have HV02 := Lib.hid hV02; have HV12 := Lib.hid hV12; have HB2 := Lib.hid hB2; have HR2 := Lib.hid hra2
  clear hF1 hF2 hV02 hV12 hB2 hra2 hfb hg2 HV0 HV1 HB1 HRA
  have hc0 : ∀ j, j < 14 → cut i l 0 j = if j = 0 then readB i l 0 else (fun _ => 0) j := by
    intro j _
    unfold cut
    by_cases h : j = 0
    · subst h; simp
    · simp [h]
  have HC0 := Lib.hid hc0
  clear hc0
  go_wp2_with ((with_reducible refine wpList_storeNum rfl (.tmp 24) (.tmp 23) rfl rfl (w.heap.size + 1) 0 (fun _ => 0) (cut i l 0) (readB i l 0) rfl rfl HV12.out (by decide) HC0.out ?_); intro w3 hv3 hg3; have HV3 := Lib.hid hv3; have HG3 := Lib.hid hg3; clear hv3 hg3)
  have hinv : PickInv w w3 i l own gr gb w1.heap.size 0 := ⟨HV02.out.other HG3.out (by omega), HV3.out, grown_cell HG3.out HF1.out (by dsimp only; omega), grown_cell HG3.out HF2.out (by dsimp only; omega), HR2.out.other HG3.out (by omega) (by omega), below_grown HB2.out HG3.out (by omega) HB2.out.size, fun j hj => by omega⟩
  have HINV := Lib.hid hinv
  clear hinv
  go_loopw [12, 13, 14, 27] (fun _ _ _ x wr => ∃ k : Nat, k ≤ ns ∧ x = .int .i64 k ∧ Hid (PickInv w wr i l own gr gb w1.heap.size k)) (fun _ _ _ x _ => ns - (intOf x).toNat)
  case atStart => exact ⟨0, Nat.zero_le _, rfl, HINV.out⟩
  case round =>
    obtain ⟨k, hk, rfl, hinv⟩ := hrel
    have HI := hinv
    clear hinv
    obtain ⟨hc1, hf1⟩ := bcell HI.out.below
    by_cases hlt : k < ns
    · have hx := HC.out k hlt
      obtain ⟨f, hf⟩ : ∃ f, f = l.getD k 0 := ⟨_, rfl⟩
      have hkl : k < l.length := by have := HLL.out; omega
      have hfm : f ∈ l := by rw [hf, List.getD_eq_getElem?_getD, List.getElem?_eq_getElem hkl]; exact List.getElem_mem hkl
      obtain ⟨p1, p2⟩ := HO.out.2.2 f hfm
      have hsz := HS.out f p2
      rw [← hf] at hx
      have h12 := size_le f p2
      have hsw := block_lt hsz
      have q1 : (0 : Int) ≤ (f : Int) := by omega
      have q2 : (f : Int) < 14 := by omega
      have hpos : posI l (k + 1) = posI l k + sizeL.getD f 0 := by rw [posI_succ l k hkl, ← hf]
      have hple : posI l (k + 1) ≤ n := by rw [← HL.out, HLO.out]; exact posI_le l (k + 1)
      have hval : readB i l f = ((num ((i.drop (posI l k)).take (sizeL.getD f 0)) : Nat) : Int) := by rw [hf]; exact readB_at i l own HO.out k hkl
      have hcut : ∀ j, j < 14 → cut i l (k + 1) j = if j = f then readB i l f else cut i l k j := fun j _ => by rw [hf]; exact cut_succ i l k hkl j
      have hmay : mayB f (cut i l (k + 1)) (makerB own (cut i l (k + 1))) = mayB f (readB i l) (makerB own (readB i l)) := by rw [hf]; exact may_at i l own HO.out k hkl
      have HF := Lib.hid hf; have HKL := Lib.hid hkl; have HVAL := Lib.hid hval; have HCUT := Lib.hid hcut; have HMAY := Lib.hid hmay; have HPOS := Lib.hid hpos; have HPLE := Lib.hid hple
      have hf1c := HI.out.f1; have hf2c := HI.out.f2
      have hgaw3 := block_lt hf1c
      clear hf hkl hfm hval hcut hmay hpos hple
      cases own
      · rcases h12 with h12 | h12
        · rw [h12] at hsz
          have HP1 := Lib.hid (show posI l k + 1 ≤ i.length by have := HPOS.out; have := HPLE.out; have := HL.out; omega)
          go_wp2_with (go_at_call 120; refine (at_any gr gb i (posI l k) .nilIface _ HI.out.rd).mono ?_; rintro e w4 ⟨rfl, rfl⟩)
          refine (u8_ok gr gb i (posI l k) _ HI.out.rd HP1.out (by have := HL.out; omega)).mono ?_
          rintro e w4 ⟨rfl, hra4, hg4⟩
          rw [show ((num ((i.drop (posI l k)).take 1) : Nat) : Int) = readB i l f by rw [HVAL.out, h12]]
          have HR4 := Lib.hid hra4; have HG4 := Lib.hid hg4
          have HV4 := Lib.hid (ValsAt.other HI.out.val hg4 (by omega))
          clear hra4 hg4
          go_wp2_with ((with_reducible refine wpList_storeNum rfl (.tmp 40) (.tmp 39) rfl rfl (w.heap.size + 1) f (cut i l k) (cut i l (k + 1)) (readB i l f) rfl rfl HV4.out p2 HCUT.out ?_); intro w5 hv5 hg5; have HV5 := Lib.hid hv5; have HG5 := Lib.hid hg5; have h5c2 := hv5.nums 2 (by omega); have h5l := heap_lt hv5; clear hv5 hg5)
          have HRES := Lib.hid ((HI.out.res.other HG4.out (by omega)).other HG5.out (by omega))
          have HB5 := Lib.hid (below_grown (below_grown HI.out.below HG4.out (by omega) HI.out.below.size) HG5.out (by omega) (Nat.le_trans HI.out.below.size HG4.out.size))
          refine (may_any f (w.heap.size + 1) (cut i l (k + 1)) (0) _ p2 p1 HV5.out.nums).mono ?_
          rintro e w6 ⟨rfl, rfl⟩
          rw [show mayB f (cut i l (k + 1)) (0) = _ from HMAY.out]
          cases hm : mayB f (readB i l) _ with
          | true =>
            have HM := Lib.hid hm
            clear hm
            go_wp2
            go_roundw
            case rel =>
              refine ⟨k + 1, by omega, by go_num, ?_⟩
              exact ⟨HRES.out, HV5.out, grown_cell HG5.out (grown_cell HG4.out HI.out.f1 (show w1.heap.size ≠ gr by omega)) (show w1.heap.size ≠ w.heap.size + 1 by omega), grown_cell HG5.out (grown_cell HG4.out HI.out.f2 (show w1.heap.size ≠ gr by omega)) (show w1.heap.size ≠ w.heap.size + 1 by omega), by
                have := HR4.out.other HG5.out (by omega) (by omega)
                rw [HPOS.out, h12]; exact this, HB5.out, fun j hj => by
                  rcases Nat.lt_or_ge j k with h | h
                  · exact HI.out.good j h
                  · obtain rfl : j = k := by omega
                    rw [← HF.out]; exact HM.out⟩
            case measure => simp [intOf]; omega
          | false =>
            have HM := Lib.hid hm
            clear hm
            have HRES2 := Lib.hid (show ValsAt (w5.alloc (faultObj (posI l k) 63)) w.heap.size fun _ => 0 from (heap_push w5 _ _ (heap_lt HRES.out)).trans HRES.out)
            go_wp2_with (first
              | (go_at_call 74; refine (wrap_any _ _ _).mono ?_; rintro e w7 ⟨rfl, rfl⟩)
              | ((with_reducible refine wpList_storeVals rfl (.tmp 6) (.tmp 48) rfl rfl w.heap.size (fun _ => 0) (fun _ => 0) rfl rfl HRES2.out ?_); intro w8 hv8 ht8 ho8; have HV8 := Lib.hid hv8; have HT8 := Lib.hid ht8; have HO8 := Lib.hid ho8; clear hv8 ht8 ho8))
            refine bodyPost_ret (results_cell_tmp_row rfl _ w8 w.heap.size 114 (vals fun _ => 0) (0, 0) _ rfl HV8.out Tryd.underlying114 rfl infoVals (faultV w5.heap.size) rfl) rfl (HQ.out _ _ ?_)
            have hbad := badI_some i l _ k HKL.out (by rw [← HF.out]; exact HM.out) HI.out.good
            unfold PickPost
            rw [hbad]
            exact ⟨w5.heap.size, rfl, HB5.out.size, (HO8.out _ (by have := heap_lt HRES.out; omega)).trans (heap_alloc_new _ _), HT8.out _ _ (Nat.le_refl _) (HB5.out.alloc HB5.out.size _)⟩
        · rw [h12] at hsz
          have HP1 := Lib.hid (show posI l k + 2 ≤ i.length by have := HPOS.out; have := HPLE.out; have := HL.out; omega)
          go_wp2_with (go_at_call 120; refine (at_any gr gb i (posI l k) .nilIface _ HI.out.rd).mono ?_; rintro e w4 ⟨rfl, rfl⟩)
          refine (u16_ok gr gb i (posI l k) _ HI.out.rd HP1.out (by have := HL.out; omega)).mono ?_
          rintro e w4 ⟨rfl, hra4, hg4⟩
          rw [show ((num ((i.drop (posI l k)).take 2) : Nat) : Int) = readB i l f by rw [HVAL.out, h12]]
          have HR4 := Lib.hid hra4; have HG4 := Lib.hid hg4
          have HV4 := Lib.hid (ValsAt.other HI.out.val hg4 (by omega))
          clear hra4 hg4
          go_wp2_with ((with_reducible refine wpList_storeNum rfl (.tmp 40) (.tmp 39) rfl rfl (w.heap.size + 1) f (cut i l k) (cut i l (k + 1)) (readB i l f) rfl rfl HV4.out p2 HCUT.out ?_); intro w5 hv5 hg5; have HV5 := Lib.hid hv5; have HG5 := Lib.hid hg5; have h5c2 := hv5.nums 2 (by omega); have h5l := heap_lt hv5; clear hv5 hg5)
          have HRES := Lib.hid ((HI.out.res.other HG4.out (by omega)).other HG5.out (by omega))
          have HB5 := Lib.hid (below_grown (below_grown HI.out.below HG4.out (by omega) HI.out.below.size) HG5.out (by omega) (Nat.le_trans HI.out.below.size HG4.out.size))
          refine (may_any f (w.heap.size + 1) (cut i l (k + 1)) (0) _ p2 p1 HV5.out.nums).mono ?_
          rintro e w6 ⟨rfl, rfl⟩
          rw [show mayB f (cut i l (k + 1)) (0) = _ from HMAY.out]
          cases hm : mayB f (readB i l) _ with
          | true =>
            have HM := Lib.hid hm
            clear hm
            go_wp2
            go_roundw
            case rel =>
              refine ⟨k + 1, by omega, by go_num, ?_⟩
              exact ⟨HRES.out, HV5.out, grown_cell HG5.out (grown_cell HG4.out HI.out.f1 (show w1.heap.size ≠ gr by omega)) (show w1.heap.size ≠ w.heap.size + 1 by omega), grown_cell HG5.out (grown_cell HG4.out HI.out.f2 (show w1.heap.size ≠ gr by omega)) (show w1.heap.size ≠ w.heap.size + 1 by omega), by
                have := HR4.out.other HG5.out (by omega) (by omega)
                rw [HPOS.out, h12]; exact this, HB5.out, fun j hj => by
                  rcases Nat.lt_or_ge j k with h | h
                  · exact HI.out.good j h
                  · obtain rfl : j = k := by omega
                    rw [← HF.out]; exact HM.out⟩
            case measure => simp [intOf]; omega
          | false =>
            have HM := Lib.hid hm
            clear hm
            have HRES2 := Lib.hid (show ValsAt (w5.alloc (faultObj (posI l k) 63)) w.heap.size fun _ => 0 from (heap_push w5 _ _ (heap_lt HRES.out)).trans HRES.out)
            go_wp2_with (first
              | (go_at_call 74; refine (wrap_any _ _ _).mono ?_; rintro e w7 ⟨rfl, rfl⟩)
              | ((with_reducible refine wpList_storeVals rfl (.tmp 6) (.tmp 48) rfl rfl w.heap.size (fun _ => 0) (fun _ => 0) rfl rfl HRES2.out ?_); intro w8 hv8 ht8 ho8; have HV8 := Lib.hid hv8; have HT8 := Lib.hid ht8; have HO8 := Lib.hid ho8; clear hv8 ht8 ho8))
            refine bodyPost_ret (results_cell_tmp_row rfl _ w8 w.heap.size 114 (vals fun _ => 0) (0, 0) _ rfl HV8.out Tryd.underlying114 rfl infoVals (faultV w5.heap.size) rfl) rfl (HQ.out _ _ ?_)
            have hbad := badI_some i l _ k HKL.out (by rw [← HF.out]; exact HM.out) HI.out.good
            unfold PickPost
            rw [hbad]
            exact ⟨w5.heap.size, rfl, HB5.out.size, (HO8.out _ (by have := heap_lt HRES.out; omega)).trans (heap_alloc_new _ _), HT8.out _ _ (Nat.le_refl _) (HB5.out.alloc HB5.out.size _)⟩
      · rcases h12 with h12 | h12
        · rw [h12] at hsz
          have HP1 := Lib.hid (show posI l k + 1 ≤ i.length by have := HPOS.out; have := HPLE.out; have := HL.out; omega)
          go_wp2_with (go_at_call 120; refine (at_any gr gb i (posI l k) .nilIface _ HI.out.rd).mono ?_; rintro e w4 ⟨rfl, rfl⟩)
          refine (u8_ok gr gb i (posI l k) _ HI.out.rd HP1.out (by have := HL.out; omega)).mono ?_
          rintro e w4 ⟨rfl, hra4, hg4⟩
          rw [show ((num ((i.drop (posI l k)).take 1) : Nat) : Int) = readB i l f by rw [HVAL.out, h12]]
          have HR4 := Lib.hid hra4; have HG4 := Lib.hid hg4
          have HV4 := Lib.hid (ValsAt.other HI.out.val hg4 (by omega))
          clear hra4 hg4
          go_wp2_with ((with_reducible refine wpList_storeNum rfl (.tmp 40) (.tmp 39) rfl rfl (w.heap.size + 1) f (cut i l k) (cut i l (k + 1)) (readB i l f) rfl rfl HV4.out p2 HCUT.out ?_); intro w5 hv5 hg5; have HV5 := Lib.hid hv5; have HG5 := Lib.hid hg5; have h5c2 := hv5.nums 2 (by omega); have h5l := heap_lt hv5; clear hv5 hg5)
          have HRES := Lib.hid ((HI.out.res.other HG4.out (by omega)).other HG5.out (by omega))
          have HB5 := Lib.hid (below_grown (below_grown HI.out.below HG4.out (by omega) HI.out.below.size) HG5.out (by omega) (Nat.le_trans HI.out.below.size HG4.out.size))
          refine (may_any f (w.heap.size + 1) (cut i l (k + 1)) (cut i l (k + 1) 2) _ p2 p1 HV5.out.nums).mono ?_
          rintro e w6 ⟨rfl, rfl⟩
          rw [show mayB f (cut i l (k + 1)) (cut i l (k + 1) 2) = _ from HMAY.out]
          cases hm : mayB f (readB i l) _ with
          | true =>
            have HM := Lib.hid hm
            clear hm
            go_wp2
            go_roundw
            case rel =>
              refine ⟨k + 1, by omega, by go_num, ?_⟩
              exact ⟨HRES.out, HV5.out, grown_cell HG5.out (grown_cell HG4.out HI.out.f1 (show w1.heap.size ≠ gr by omega)) (show w1.heap.size ≠ w.heap.size + 1 by omega), grown_cell HG5.out (grown_cell HG4.out HI.out.f2 (show w1.heap.size ≠ gr by omega)) (show w1.heap.size ≠ w.heap.size + 1 by omega), by
                have := HR4.out.other HG5.out (by omega) (by omega)
                rw [HPOS.out, h12]; exact this, HB5.out, fun j hj => by
                  rcases Nat.lt_or_ge j k with h | h
                  · exact HI.out.good j h
                  · obtain rfl : j = k := by omega
                    rw [← HF.out]; exact HM.out⟩
            case measure => simp [intOf]; omega
          | false =>
            have HM := Lib.hid hm
            clear hm
            have HRES2 := Lib.hid (show ValsAt (w5.alloc (faultObj (posI l k) 63)) w.heap.size fun _ => 0 from (heap_push w5 _ _ (heap_lt HRES.out)).trans HRES.out)
            go_wp2_with (first
              | (go_at_call 74; refine (wrap_any _ _ _).mono ?_; rintro e w7 ⟨rfl, rfl⟩)
              | ((with_reducible refine wpList_storeVals rfl (.tmp 6) (.tmp 48) rfl rfl w.heap.size (fun _ => 0) (fun _ => 0) rfl rfl HRES2.out ?_); intro w8 hv8 ht8 ho8; have HV8 := Lib.hid hv8; have HT8 := Lib.hid ht8; have HO8 := Lib.hid ho8; clear hv8 ht8 ho8))
            refine bodyPost_ret (results_cell_tmp_row rfl _ w8 w.heap.size 114 (vals fun _ => 0) (0, 0) _ rfl HV8.out Tryd.underlying114 rfl infoVals (faultV w5.heap.size) rfl) rfl (HQ.out _ _ ?_)
            have hbad := badI_some i l _ k HKL.out (by rw [← HF.out]; exact HM.out) HI.out.good
            unfold PickPost
            rw [hbad]
            exact ⟨w5.heap.size, rfl, HB5.out.size, (HO8.out _ (by have := heap_lt HRES.out; omega)).trans (heap_alloc_new _ _), HT8.out _ _ (Nat.le_refl _) (HB5.out.alloc HB5.out.size _)⟩
        · rw [h12] at hsz
          have HP1 := Lib.hid (show posI l k + 2 ≤ i.length by have := HPOS.out; have := HPLE.out; have := HL.out; omega)
          go_wp2_with (go_at_call 120; refine (at_any gr gb i (posI l k) .nilIface _ HI.out.rd).mono ?_; rintro e w4 ⟨rfl, rfl⟩)
          refine (u16_ok gr gb i (posI l k) _ HI.out.rd HP1.out (by have := HL.out; omega)).mono ?_
          rintro e w4 ⟨rfl, hra4, hg4⟩
          rw [show ((num ((i.drop (posI l k)).take 2) : Nat) : Int) = readB i l f by rw [HVAL.out, h12]]
          have HR4 := Lib.hid hra4; have HG4 := Lib.hid hg4
          have HV4 := Lib.hid (ValsAt.other HI.out.val hg4 (by omega))
          clear hra4 hg4
          go_wp2_with ((with_reducible refine wpList_storeNum rfl (.tmp 40) (.tmp 39) rfl rfl (w.heap.size + 1) f (cut i l k) (cut i l (k + 1)) (readB i l f) rfl rfl HV4.out p2 HCUT.out ?_); intro w5 hv5 hg5; have HV5 := Lib.hid hv5; have HG5 := Lib.hid hg5; have h5c2 := hv5.nums 2 (by omega); have h5l := heap_lt hv5; clear hv5 hg5)
          have HRES := Lib.hid ((HI.out.res.other HG4.out (by omega)).other HG5.out (by omega))
          have HB5 := Lib.hid (below_grown (below_grown HI.out.below HG4.out (by omega) HI.out.below.size) HG5.out (by omega) (Nat.le_trans HI.out.below.size HG4.out.size))
          refine (may_any f (w.heap.size + 1) (cut i l (k + 1)) (cut i l (k + 1) 2) _ p2 p1 HV5.out.nums).mono ?_
          rintro e w6 ⟨rfl, rfl⟩
          rw [show mayB f (cut i l (k + 1)) (cut i l (k + 1) 2) = _ from HMAY.out]
          cases hm : mayB f (readB i l) _ with
          | true =>
            have HM := Lib.hid hm
            clear hm
            go_wp2
            go_roundw
            case rel =>
              refine ⟨k + 1, by omega, by go_num, ?_⟩
              exact ⟨HRES.out, HV5.out, grown_cell HG5.out (grown_cell HG4.out HI.out.f1 (show w1.heap.size ≠ gr by omega)) (show w1.heap.size ≠ w.heap.size + 1 by omega), grown_cell HG5.out (grown_cell HG4.out HI.out.f2 (show w1.heap.size ≠ gr by omega)) (show w1.heap.size ≠ w.heap.size + 1 by omega), by
                have := HR4.out.other HG5.out (by omega) (by omega)
                rw [HPOS.out, h12]; exact this, HB5.out, fun j hj => by
                  rcases Nat.lt_or_ge j k with h | h
                  · exact HI.out.good j h
                  · obtain rfl : j = k := by omega
                    rw [← HF.out]; exact HM.out⟩
            case measure => simp [intOf]; omega
          | false =>
            have HM := Lib.hid hm
            clear hm
            have HRES2 := Lib.hid (show ValsAt (w5.alloc (faultObj (posI l k) 63)) w.heap.size fun _ => 0 from (heap_push w5 _ _ (heap_lt HRES.out)).trans HRES.out)
            go_wp2_with (first
              | (go_at_call 74; refine (wrap_any _ _ _).mono ?_; rintro e w7 ⟨rfl, rfl⟩)
              | ((with_reducible refine wpList_storeVals rfl (.tmp 6) (.tmp 48) rfl rfl w.heap.size (fun _ => 0) (fun _ => 0) rfl rfl HRES2.out ?_); intro w8 hv8 ht8 ho8; have HV8 := Lib.hid hv8; have HT8 := Lib.hid ht8; have HO8 := Lib.hid ho8; clear hv8 ht8 ho8))
            refine bodyPost_ret (results_cell_tmp_row rfl _ w8 w.heap.size 114 (vals fun _ => 0) (0, 0) _ rfl HV8.out Tryd.underlying114 rfl infoVals (faultV w5.heap.size) rfl) rfl (HQ.out _ _ ?_)
            have hbad := badI_some i l _ k HKL.out (by rw [← HF.out]; exact HM.out) HI.out.good
            unfold PickPost
            rw [hbad]
            exact ⟨w5.heap.size, rfl, HB5.out.size, (HO8.out _ (by have := heap_lt HRES.out; omega)).trans (heap_alloc_new _ _), HT8.out _ _ (Nat.le_refl _) (HB5.out.alloc HB5.out.size _)⟩
    · obtain rfl : k = ns := by omega
      go_wp2_with (first
        | (with_reducible refine wpList_loadVals rfl (.tmp 8) rfl (w.heap.size + 1) (cut i l k) rfl HI.out.val ?_)
        | ((with_reducible refine wpList_storeVals rfl (.tmp 6) (.tmp 52) rfl rfl w.heap.size (fun _ => 0) (cut i l k) rfl rfl HI.out.res ?_); intro w8 hv8 ht8 ho8; have HV8 := Lib.hid hv8; have HT8 := Lib.hid ht8; clear hv8 ht8 ho8))
      refine bodyPost_ret (results_cell_tmp_row rfl _ w8 w.heap.size 114 (vals (cut i l k)) (0, 0) _ rfl HV8.out Tryd.underlying114 rfl infoVals .nilIface rfl) rfl (HQ.out _ _ ?_)
      have hall := badI_all i l own (by rw [HLL.out]; exact HI.out.good)
      have hv : vals (cut i l k) = vals (readB i l) := by
        have e : ∀ j, cut i l k j = readB i l j := fun j => by rw [← HLL.out]; exact cut_all i l j
        unfold vals
        simp only [e]
      unfold PickPost
      rw [hall, hv]
      exact ⟨rfl, HT8.out _ _ (Nat.le_refl _) HI.out.below⟩

theorem pick_any (ao : Option Addr) (n cap : Nat) (i : List UInt8) (b off ns caps : Nat) (l : List Nat) (own : Bool) (w : World) (hl : i.length = n) (hr : Rd w ao i) (hll : l.length = ns) (hrn : RdN w (some ⟨b, off, none⟩) l) (h0 : 0 < ns) (hn14 : ns ≤ 14) (hlong : i.length = longOf l) (hord : Ord l own) (hs : Sizes w) :
    Calls Tryd.prog 82 #[.slice ao n cap, .slice (some ⟨b, off, none⟩) ns caps, .bool own] w (PickPost w i l own) :=
  pick_core ao n cap i b off ns caps l own w _ (fun _ _ h => h) hl hr hll hrn h0 hn14 hlong hord hs
end Go.Proofs.YtoophonmonojcaaDoor

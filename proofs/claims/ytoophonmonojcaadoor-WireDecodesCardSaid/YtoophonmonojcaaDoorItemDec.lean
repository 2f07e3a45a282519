/- Contract of wire's DecodeItem; two items compared. -/
import Derived.Test.YtoophonmonojcaaDoorGItem
import Derived.Test.YtoophonmonojcaaDoorGPick
namespace Go.Proofs.YtoophonmonojcaaDoor
open Go.RowKit
attribute [-go_sem] run_eql_struct

def zeroI : It := ⟨0, 0, 0, zeroO⟩
def It.cs (x : It) : Array Value := #[.int .i64 x.k, .int .i64 x.e, .int .i64 x.t, .int .i64 x.op.k, .int .i64 x.op.p, .int .u8 x.op.ch, .int .i64 x.op.cl, .int .i64 x.op.s]
theorem It.v_cs (x : It) : x.v = .agg x.cs := rfl
def ItemAt (w : World) (g : Nat) (x : It) : Prop := w.heap[g]? = some (.cells x.cs 39 (0, 0))
theorem ItemAt.lt {w : World} {g : Nat} {x : It} (h : ItemAt w g x) : g < w.heap.size := heap_lt h
theorem ItemAt.keep {w w' : World} {g : Nat} {x : It} (h : ItemAt w g x) (hb : Below w.heap.size w w') : ItemAt w' g x := (hb.block g h.lt).trans h
theorem ItemAt.drew {w : World} {g : Nat} {x : It} (h : ItemAt w g x) : ItemAt w.drew g x := h
theorem ItemAt.frozen {w : World} {g : Nat} {x : It} (h : ItemAt w g x) (i : Nat) : w.frozen? ⟨g, i, none⟩ = false := by
  unfold ItemAt at h
  simp [World.frozen?, h]
theorem item_all {w : World} {g : Nat} {x : It} (h : ItemAt w g x) : w.cell? ⟨g, 0, none⟩ = some (.int .i64 x.k) ∧ w.cell? ⟨g, 1, none⟩ = some (.int .i64 x.e) ∧ w.cell? ⟨g, 2, none⟩ = some (.int .i64 x.t) ∧ w.cell? ⟨g, 3, none⟩ = some (.int .i64 x.op.k) ∧ w.cell? ⟨g, 4, none⟩ = some (.int .i64 x.op.p) ∧ w.cell? ⟨g, 5, none⟩ = some (.int .u8 x.op.ch) ∧ w.cell? ⟨g, 6, none⟩ = some (.int .i64 x.op.cl) ∧ w.cell? ⟨g, 7, none⟩ = some (.int .i64 x.op.s) := by
  unfold ItemAt at h
  refine ⟨?_, ?_, ?_, ?_, ?_, ?_, ?_, ?_⟩ <;> simp [World.cell?, h, It.cs]
theorem It.one (x : It) : x.cs.all (·.oneCell') = true := by simp [It.cs, Value.oneCell']
theorem infoItem : (Tryd.prog.info? 39).map (·.size) = some 8 := by kernel_rfl
theorem wpList_storeItem2 {w : World} {ops : Array Oper} {rest : List Oper} {o : Oper} {a : Act} {Q : Exit → Act → World → Prop} (hgd : o.guard = none) (x y : Operand) (ho : o.op = .store 39 x y) (hd : o.dst = none) (g : Nat) (m m' : It)
    (hx : a.eval x = .pointer (some ⟨g, 0, none⟩)) (hy : a.eval y = .agg m'.cs) (hg : ItemAt w g m) (h : ∀ w', ItemAt w' g m' → Turned w w' g → (∀ k, k ≠ g → w'.heap[k]? = w.heap[k]?) → wpList Tryd.prog ops Q rest a w') : wpList Tryd.prog ops Q (o :: rest) a w :=
  wpList_store_rowTo hgd 39 x y ho hd g m'.cs hx hy 39 m.cs hg infoItem rfl m'.one (h _ (setRow_heap w g _ _ _ _ hg) (fun _ _ hB hb => below_setRow hb hB _) (fun k hk => setRow_other w g k _ hk))
theorem wpList_loadItem {w : World} {ops : Array Oper} {rest : List Oper} {o : Oper} {a : Act} {Q : Exit → Act → World → Prop} (hgd : o.guard = none) (x : Operand) (ho : o.op = .load 39 x) (g : Nat) (m : It)
    (hx : a.eval x = .pointer (some ⟨g, 0, none⟩)) (hg : ItemAt w g m) (h : wpList Tryd.prog ops Q rest (a.put o.dst (.agg m.cs)) w) : wpList Tryd.prog ops Q (o :: rest) a w :=
  wpList_load_row hgd 39 x ho g hx 39 m.cs (0, 0) _ hg Tryd.underlying39 rfl infoItem h
theorem wpList_wantedI {ops : Array Oper} {Q : Exit → Act → World → Prop} {a : Act} {w : World} {rest : List Oper} {o : Oper} (hw : Region.wanted o (yielded ops a.tmps) = true)
    (h : ∀ K : Act → World → Prop, (∀ a w, wpList Tryd.prog ops Q rest a w → K a w) → o.wp Tryd.prog a w K Q) : wpList Tryd.prog ops Q (o :: rest) a w :=
  wpList_step fun K hK => by rw [if_pos hw]; exact h K hK
theorem wpList_loadItemG {w : World} {ops : Array Oper} {rest : List Oper} {o : Oper} {a : Act} {Q : Exit → Act → World → Prop} (x : Operand) (ho : o.op = .load 39 x) (g : Nat) (m : It) (hx : a.eval x = .pointer (some ⟨g, 0, none⟩)) (hg : ItemAt w g m)
    (hw : Region.wanted o (yielded ops a.tmps) = true) (h : wpList Tryd.prog ops Q rest (a.put o.dst (.agg m.cs)) w) : wpList Tryd.prog ops Q (o :: rest) a w :=
  wpList_wantedI hw fun _ hK => wp_load_row 39 x ho g hx 39 m.cs (0, 0) _ hg Tryd.underlying39 rfl infoItem (hK _ _ h)
theorem ret_item {fn : Func} {p u : Tmp} (h : fn.results = #[.cell p 39, .tmp u]) {R : Ending → World → Prop} {a : Act} {w : World} (hd : a.defers = []) (g : Nat) (m : It) (x : Value) (hp : a.tmps.getD p undef = .pointer (some ⟨g, 0, none⟩)) (hg : ItemAt w g m) (hx : a.tmps.getD u undef = x)
    (hR : R (.returned (.tuple #[.agg m.cs, x])) w) : bodyPost Tryd.prog fn R .ret a w :=
  bodyPost_ret (results_cell_tmp_row h _ w g 39 m.cs (0, 0) _ hp hg Tryd.underlying39 rfl infoItem x hx) hd hR
theorem storeItemChain {W w1 : World} {g : Nat} {m m' : It} (h : ItemAt W g m) (a0 a1 a2 a3 a4 a5 a6 a7 : Value) (X : Obj) (hv : #[a0, a1, a2, a3, a4, a5, a6, a7] = m'.cs) (h1 : ∀ v ∈ [a0, a1, a2, a3, a4, a5, a6, a7], v.oneCell' = true) (hb : w1.heap.size ≤ g) (hB : Below w1.heap.size w1 W) :
    ItemAt (((((((((W.setCell ⟨g, 0, none⟩ a0).setCell ⟨g, 1, none⟩ a1).setCell ⟨g, 2, none⟩ a2).setCell ⟨g, 3, none⟩ a3).setCell ⟨g, 4, none⟩ a4).setCell ⟨g, 5, none⟩ a5).setCell ⟨g, 6, none⟩ a6).setCell ⟨g, 7, none⟩ a7).alloc X).drew.drew g m' ∧ Below w1.heap.size w1 (((((((((W.setCell ⟨g, 0, none⟩ a0).setCell ⟨g, 1, none⟩ a1).setCell ⟨g, 2, none⟩ a2).setCell ⟨g, 3, none⟩ a3).setCell ⟨g, 4, none⟩ a4).setCell ⟨g, 5, none⟩ a5).setCell ⟨g, 6, none⟩ a6).setCell ⟨g, 7, none⟩ a7).alloc X).drew.drew := by
  have hs : ([a0, a1, a2, a3, a4, a5, a6, a7] : List Value).length = m.cs.size := rfl
  have hr := setCells_row W g 39 m.cs [a0, a1, a2, a3, a4, a5, a6, a7] h hs h1
  have e : W.setCells g 0 [a0, a1, a2, a3, a4, a5, a6, a7] = ((((((((W.setCell ⟨g, 0, none⟩ a0).setCell ⟨g, 1, none⟩ a1).setCell ⟨g, 2, none⟩ a2).setCell ⟨g, 3, none⟩ a3).setCell ⟨g, 4, none⟩ a4).setCell ⟨g, 5, none⟩ a5).setCell ⟨g, 6, none⟩ a6).setCell ⟨g, 7, none⟩ a7) := by simp only [World.setCells, Nat.zero_add, Nat.reduceAdd]
  rw [e] at hr
  rw [hr]
  have h2 : ItemAt (W.setRow g [a0, a1, a2, a3, a4, a5, a6, a7].toArray) g m' := by
    unfold ItemAt
    rw [← hv]
    exact setRow_heap W g _ _ _ _ h
  have h3 : Below w1.heap.size w1 (W.setRow g [a0, a1, a2, a3, a4, a5, a6, a7].toArray) := below_setRow hB hb _
  exact ⟨(h2.keep ((Below.refl _ _).alloc (Nat.le_refl _) X)).drew.drew, (h3.alloc h3.size X).drew.drew⟩
def It.eqB (a b : It) : Bool := (a.k == b.k) && (a.e == b.e) && (a.t == b.t) && a.op.eqB b.op
theorem It.eqB_iff (a b : It) : a.eqB b = true ↔ a = b := by
  obtain ⟨a1, a2, a3, a4⟩ := a
  obtain ⟨b1, b2, b3, b4⟩ := b
  simp [It.eqB, and_assoc, O.eqB_iff]
theorem fieldsItem : Tryd.prog.underlying 39 = some (.struct (Tryd.prog.fieldsOf 39)) := by kernel_rfl
theorem stoodItem : Tryd.prog.stoodInHeld 39 = false := by kernel_rfl
def fi0 : Field := { name := "Kind", type := 3, offset := 0, embedded := false, tag := "", pkgPath := "", byteOffset := 0 }
def fi1 : Field := { name := "Epoch", type := 3, offset := 1, embedded := false, tag := "", pkgPath := "", byteOffset := 8 }
def fi2 : Field := { name := "Tag", type := 3, offset := 2, embedded := false, tag := "", pkgPath := "", byteOffset := 16 }
def fi3 : Field := { name := "Op", type := 23, offset := 3, embedded := false, tag := "", pkgPath := "", byteOffset := 24 }
theorem fieldsItemL : (Tryd.prog.fieldsOf 39).toList = [fi0, fi1, fi2, fi3] := by
  simp only [Program.fieldsOf, Tryd.underlying39]
  rfl
theorem eql_item (a b : It) (w : World) : (binOp .eql 39 (.agg a.cs) (.agg b.cs)).run Tryd.prog w = .ok (.bool (a.eqB b)) w := by
  rw [run_eql_struct, run_equalIn_agg w 9999 39 _ _ fieldsItem stoodItem, fieldsItemL]
  have e : a.eqB b = ((a.k == b.k) && ((a.e == b.e) && ((a.t == b.t) && (a.op.eqB b.op)))) := by simp [It.eqB, Bool.and_assoc]
  have h3 : (Op.eqFields (9998 + 1) a.cs b.cs [fi3]).run Tryd.prog w = .ok (a.op.eqB b.op) w := by
    rw [Op.eqFields, if_pos (by simp [fi3])]
    have e1 := part_op a.cs 3 w
    have e2 := part_op b.cs 3 w
    rw [show a.cs.extract 3 (3 + 5) = a.op.cs from rfl] at e1
    rw [show b.cs.extract 3 (3 + 5) = b.op.cs from rfl] at e2
    have e3 := op_equal 9997 a.op b.op w
    simp only [Sem.run_bind, fi3, e1, e2, Result.andThen_ok, e3]
    cases a.op.eqB b.op <;> rfl
  have h2 := eq_step 9998 a.cs b.cs fi2 _ w .i64 a.t b.t (by simp [fi2]) (part_int a.cs 2 (.int .i64 a.t) w rfl) (part_int b.cs 2 (.int .i64 b.t) w rfl) Tryd.underlying3 _ h3
  have h1 := eq_step 9998 a.cs b.cs fi1 _ w .i64 a.e b.e (by simp [fi1]) (part_int a.cs 1 (.int .i64 a.e) w rfl) (part_int b.cs 1 (.int .i64 b.e) w rfl) Tryd.underlying3 _ h2
  have h0 := eq_step 9998 a.cs b.cs fi0 _ w .i64 a.k b.k (by simp [fi0]) (part_int a.cs 0 (.int .i64 a.k) w rfl) (part_int b.cs 0 (.int .i64 b.k) w rfl) Tryd.underlying3 _ h1
  rw [e]
  have h0' : (Op.eqFields 9999 a.cs b.cs [fi0, fi1, fi2, fi3]).run Tryd.prog w = _ := h0
  rw [h0']
  rfl
theorem eql_item_same (x : It) (w : World) : (binOp .eql 39 (.agg x.cs) (.agg x.cs)).run Tryd.prog w = .ok (.bool true) w := by rw [eql_item, (It.eqB_iff x x).2 rfl]

/-- What DecodeItem hands back. -/
def DecItemPost (w : World) (b : List UInt8) (e : Ending) (w' : World) : Prop := match itemDec b with
  | .inl (c, a) => ∃ g, e = .returned (.tuple #[.agg zeroI.cs, faultV g]) ∧ NewFault w a c g w'
  | .inr x => e = .returned (.tuple #[.agg x.cs, .nilIface]) ∧ Below w.heap.size w w'
theorem DecItemPost.err {w : World} {b : List UInt8} {e : Ending} {w' : World} (c a : Int) (g : Nat) (h : itemDec b = .inl (c, a)) (he : e = .returned (.tuple #[.agg zeroI.cs, faultV g])) (hn : NewFault w a c g w') : DecItemPost w b e w' := by
  unfold DecItemPost; rw [h]; exact ⟨g, he, hn⟩
abbrev DecI (w : World) (gv : Nat) (V : Nat → Int) : Prop := w.cell? ⟨gv, 1, none⟩ = some (.int .i64 (V 1)) ∧ w.cell? ⟨gv, 8, none⟩ = some (.int .i64 (V 8))
theorem decIKeep {w : World} {gv : Nat} {V : Nat → Int} (h : DecI w gv V) (X : Obj) : DecI (w.alloc X) gv V := ⟨cell_alloc h.1 X, cell_alloc h.2 X⟩
theorem decIDrew {w : World} {gv : Nat} {V : Nat → Int} (h : DecI w gv V) : DecI w.drew gv V := h
theorem decIChain {w : World} {gv gm : Nat} {V : Nat → Int} (h : DecI w gv V) (hne : gv ≠ gm) (a0 a1 a2 a3 a4 a5 a6 a7 : Value) : DecI ((((((((w.setCell ⟨gm, 0, none⟩ a0).setCell ⟨gm, 1, none⟩ a1).setCell ⟨gm, 2, none⟩ a2).setCell ⟨gm, 3, none⟩ a3).setCell ⟨gm, 4, none⟩ a4).setCell ⟨gm, 5, none⟩ a5).setCell ⟨gm, 6, none⟩ a6).setCell ⟨gm, 7, none⟩ a7) gv V := by
  have e : ∀ (i : Nat) (v : Value), w.cell? ⟨gv, i, none⟩ = some v → (w.setCells gm 0 [a0, a1, a2, a3, a4, a5, a6, a7]).cell? ⟨gv, i, none⟩ = some v := fun i v hv => (World.cell?_setCells_out gm [a0, a1, a2, a3, a4, a5, a6, a7] 0 w ⟨gv, i, none⟩ (fun hb _ => absurd hb hne)).trans hv
  exact ⟨e _ _ h.1, e _ _ h.2⟩
theorem ord_shapeI (k : Nat) (h1 : 1 ≤ k) (h2 : k ≤ 2) : Ord (shapeI k) false := by
  have hc : k = 1 ∨ k = 2 := by omega
  rcases hc with rfl | rfl <;> exact ⟨by decide, by decide, by decide⟩
theorem readB_byteI (i : List UInt8) (k : Nat) : 0 ≤ readB i (shapeI k) 11 ∧ readB i (shapeI k) 11 ≤ 255 := by
  unfold readB
  rw [if_neg (by decide)]
  split
  · have e : sizeL.getD 11 0 = 1 := rfl
    rw [e]
    obtain ⟨l, hl⟩ : ∃ l, l = i.drop (posI (shapeI k) ((shapeI k).idxOf 11)) := ⟨_, rfl⟩
    rw [← hl]
    match l with
    | [] => simp [num]
    | a :: t =>
      have := a.toNat_lt
      simp [num_one]
      omega
  · omega

set_option maxRecDepth 100000 in
set_option maxHeartbeats 2000000 in
theorem decodeItem_core (ao : Option Addr) (n cap : Nat) (i : List UInt8) (w : World) (Q : Ending → World → Prop) (hQ : ∀ e w', DecItemPost w i e w' → Q e w') (hl : i.length = n) (hr : Rd w ao i) (hb : n ≤ 9223372036854775807) (hS : Sizes w) (hSh : ShapesI w) :
    Calls Tryd.prog 31 #[.slice ao n cap] w Q := by
  have HLE := Lib.hid hl; have HR := Lib.hid hr; have HS := Lib.hid hS; have HSH := Lib.hid hSh; have HQ := Lib.hid hQ
  have hB1 : Below w.heap.size w (w.alloc (.cells #[.int .i64 0, .int .i64 0, .int .i64 0, .int .i64 0, .int .i64 0, .int .u8 0, .int .i64 0, .int .i64 0] 39)) := (Below.refl _ w).alloc (Nat.le_refl _) _
  have hM1 : ItemAt (w.alloc (.cells #[.int .i64 0, .int .i64 0, .int .i64 0, .int .i64 0, .int .i64 0, .int .u8 0, .int .i64 0, .int .i64 0] 39)) w.heap.size zeroI := heap_alloc_new _ _
  rcases Nat.eq_zero_or_pos n with h0 | hpos
  · subst h0
    have HBO := Lib.hid (show itemDec i = .inl (62, 0) by
      obtain rfl : i = [] := List.eq_nil_of_length_eq_zero hl
      rfl)
    have HB1 := Lib.hid hB1
    have HMA := Lib.hid (show ItemAt ((w.alloc (.cells #[.int .i64 0, .int .i64 0, .int .i64 0, .int .i64 0, .int .i64 0, .int .u8 0, .int .i64 0, .int .i64 0] 39)).alloc (faultObj 0 62)) w.heap.size zeroI from hM1.keep ((Below.refl _ _).alloc (Nat.le_refl _) _))
    clear hl hr hS hSh hQ hB1 hM1
    go_enter Tryd.func31, Tryd.ntmps31
    go_wp2_with (first
      | (go_at_call 74; refine (wrap_any _ _ _).mono ?_; rintro e w7 ⟨rfl, rfl⟩)
      | ((with_reducible refine wpList_storeItem2 rfl (.tmp 2) (.tmp 10) rfl rfl w.heap.size zeroI zeroI rfl rfl HMA.out ?_); intro w2 hm2 ht2 ho2; have HM2 := Lib.hid hm2; have HT2 := Lib.hid ht2; have HO2 := Lib.hid ho2; clear hm2 ht2 ho2))
    exact ret_item rfl rfl w.heap.size zeroI _ rfl HM2.out rfl (HQ.out _ _ (DecItemPost.err 62 0 (w.heap.size + 1) HBO.out rfl (((newFault_at _ _ _ _ (by simp)).after HB1.out).turn HT2.out HO2.out (Nat.le_refl _) (by omega))))
  obtain ⟨b0, off, rfl, hbw, hc⟩ := hr.some (by omega)
  obtain ⟨k, hk⟩ : ∃ k, k = (i.getD 0 0).toNat := ⟨_, rfl⟩
  have hc0 := cell_alloc (hc 0 (by omega)) (.cells #[.int .i64 0, .int .i64 0, .int .i64 0, .int .i64 0, .int .i64 0, .int .u8 0, .int .i64 0, .int .i64 0] 39)
  rw [← hk] at hc0
  simp only [Nat.add_zero] at hc0
  have hk256 : k < 256 := by rw [hk]; exact UInt8.toNat_lt _
  have HK := Lib.hid hk
  have HR1 := Lib.hid (hr.step hB1)
  have HM := Lib.hid hM1; have HB1 := Lib.hid hB1
  have hg1l := block_lt hc0
  have p0 : (0 : Int) ≤ (k : Int) := by omega
  have hne : i ≠ [] := by rintro rfl; simp at hl; omega
  have HNE := Lib.hid hne
  by_cases hbad : k < 1 ∨ 2 < k
  · have HBO := Lib.hid (show itemDec i = .inl (61, 0) by
      unfold itemDec
      rw [if_neg hne]
      dsimp only
      rw [← hk, if_pos hbad])
    have HMA := Lib.hid (show ItemAt ((w.alloc (.cells #[.int .i64 0, .int .i64 0, .int .i64 0, .int .i64 0, .int .i64 0, .int .u8 0, .int .i64 0, .int .i64 0] 39)).alloc (faultObj 0 61)) w.heap.size zeroI from hM1.keep ((Below.refl _ _).alloc (Nat.le_refl _) _))
    clear hl hr hS hSh hQ hk hc hB1 hM1 hne
    rcases hbad with hbad | hbad
    all_goals
      go_enter Tryd.func31, Tryd.ntmps31
      go_wp2_with (first
        | (go_at_call 74; refine (wrap_any _ _ _).mono ?_; rintro e w7 ⟨rfl, rfl⟩)
        | ((with_reducible refine wpList_storeItem2 rfl (.tmp 2) (.tmp 22) rfl rfl w.heap.size zeroI zeroI rfl rfl HMA.out ?_); intro w2 hm2 ht2 ho2; have HM2 := Lib.hid hm2; have HT2 := Lib.hid ht2; have HO2 := Lib.hid ho2; clear hm2 ht2 ho2))
      exact ret_item rfl rfl w.heap.size zeroI _ rfl HM2.out rfl (HQ.out _ _ (DecItemPost.err 61 0 (w.heap.size + 1) HBO.out rfl (((newFault_at _ _ _ _ (by simp)).after HB1.out).turn HT2.out HO2.out (Nat.le_refl _) (by omega))))
  have hk1 : 1 ≤ k := by omega
  have hk2 : k ≤ 2 := by omega
  obtain ⟨ao2, ns, caps, hcell, hlen, hrd⟩ := (hSh.step hB1) k (by omega)
  have hsl := shapeI_len k hk1 hk2
  rw [hlen] at hsl
  obtain ⟨b2, off2, rfl, -, -⟩ := hrd.some (by omega)
  have hn0 : 0 < ns := by omega
  have hn14 : ns ≤ 14 := by omega
  have HLN := Lib.hid hlen; have HRD := Lib.hid hrd
  have hshl := block_lt hcell
  have r1 : (1 : Int) ≤ (k : Int) := by omega
  have r6 : (k : Int) ≤ 2 := by omega
  have r7 : (k : Int) < 3 := by omega
  clear hsl hlen hrd hbad
  obtain ⟨lg, hlg⟩ : ∃ lg, lg = longOf (shapeI k) := ⟨_, rfl⟩
  have HLG := Lib.hid hlg
  by_cases hll : n = lg
  · have hdt : ((n : Int) != (lg : Int)) = false := by simp [hll]
    have hlong : i.length = longOf (shapeI k) := by rw [hl, hll, hlg]
    have HLO := Lib.hid hlong
    have hbody : ∀ x, badI i (shapeI k) false = x → itemDec i = (match x with | some j => .inl (63, (posI (shapeI k) j : Nat)) | none => .inr (It.of (readB i (shapeI k)))) := by
      intro x hx
      unfold itemDec
      rw [if_neg hne]
      dsimp only
      rw [← hk, if_neg (by omega), if_neg (by rw [hlong]; simp), hx]
      cases x <;> rfl
    have HBODY := Lib.hid hbody
    clear hl hr hS hSh hQ hk hc hB1 hM1 hne hlg hll hlong hbody
    go_enter Tryd.func31, Tryd.ntmps31
    go_wp2_with (go_at_call 81; refine (long_any (some ⟨b2, off2, none⟩) ns caps (shapeI k) _ HLN.out HRD.out hn0 hn14 (HS.out.step HB1.out) (fun f hf => (fieldsI_lt f (shapeI_in k f hf)).2)).mono ?_; rintro e w2 ⟨rfl, rfl⟩; rw [← HLG.out])
    refine (pick_any (some ⟨b0, off, none⟩) n cap i b2 off2 ns caps (shapeI k) false _ HLE.out HR1.out HLN.out HRD.out hn0 hn14 HLO.out (ord_shapeI k hk1 hk2) (HS.out.step HB1.out)).mono ?_
    intro e w3 hp
    unfold PickPost at hp
    rcases hbi : badI i (shapeI k) false with _ | j
    · rw [hbi] at hp
      dsimp only at hp
      obtain ⟨rfl, hb3⟩ := hp
      have HBO := Lib.hid (HBODY.out _ hbi)
      have HM3 := Lib.hid (HM.out.keep hb3)
      have HB3 := Lib.hid (HB1.out.trans (hb3.mono HB1.out.size))
      clear hbi hb3
      have HVZ := Lib.hid (show ValsAt (w3.alloc (.cells #[.int .i64 0, .int .i64 0, .int .i64 0, .int .i64 0, .int .i64 0, .int .i64 0, .int .i64 0, .int .i64 0, .int .i64 0, .int .i64 0, .int .i64 0, .int .i64 0, .int .i64 0, .int .i64 0] 114)) w3.heap.size fun _ => 0 from heap_alloc_new _ _)
      obtain ⟨V, hV⟩ : ∃ V, V = readB i (shapeI k) := ⟨_, rfl⟩
      have HVE := Lib.hid hV
      rw [← hV]
      clear hV
      go_wp2_with ((with_reducible refine wpList_storeVals rfl (.tmp 5) (.tmp 41) rfl rfl w3.heap.size (fun _ => 0) V rfl rfl HVZ.out ?_); intro w4 hv4 ht4 ho4; have HV4 := Lib.hid hv4; have HT4 := Lib.hid ht4; have HO4 := Lib.hid ho4; clear hv4 ht4 ho4)
      have HM4 := Lib.hid (show ItemAt w4 w.heap.size zeroI from (HO4.out w.heap.size (by have := HM3.out.lt; omega)).trans ((heap_push w3 _ _ HM3.out.lt).trans HM3.out))
      have HB4 := Lib.hid (HT4.out _ _ HB3.out.size (HB3.out.alloc HB3.out.size _))
      have hn := HV4.out.nums
      have hV11 : 0 ≤ V 11 ∧ V 11 ≤ 255 := by rw [HVE.out]; exact readB_byteI i k
      have hds : DecI w4 w3.heap.size V := ⟨hn 1 (by omega), hn 8 (by omega)⟩
      have hdd := decIDrew hds
      have hne : w3.heap.size ≠ w.heap.size := by have := HM3.out.lt; omega
      have hone : ∀ v ∈ [Value.int .i64 (k : Int), Value.int .i64 (V 1), Value.int .i64 (V 8), Value.int .i64 (V 9), Value.int .i64 (V 10), Value.int .u8 (V 11), Value.int .i64 (V 12), Value.int .i64 (V 13)], v.oneCell' = true := by simp [Value.oneCell']
      have HN4 := Lib.hid hn
      have HND := Lib.hid (show Nums w4.drew w3.heap.size V from hn)
      clear hn
      obtain ⟨z0, z1, z2, z3, z4, z5, z6, z7⟩ := item_all HM4.out
      have hzf := HM4.out.frozen
      have hgl4 := HM4.out.lt
      go_region_held3 (fun w' => DecI w' w3.heap.size V) (with_reducible first | exact hds | exact hdd | exact decIKeep hds _ | exact decIDrew (decIKeep hds _) | exact decIKeep hdd _ | exact decIDrew (decIDrew (decIKeep hds _)) | exact decIDrew (decIDrew (decIKeep (decIChain hds hne _ _ _ _ _ _ _ _) _)) | exact decIDrew (decIKeep (decIChain hds hne _ _ _ _ _ _ _ _) _))
        (first
         | ((with_reducible refine (op_any w3.heap.size V _ HN4.out hV11).mono ?_); rintro e w' ⟨rfl, X, rfl⟩)
         | ((with_reducible refine (op_any w3.heap.size V _ HND.out hV11).mono ?_); rintro e w' ⟨rfl, X, rfl⟩))
      have hV0 : V 0 = (k : Int) := by rw [HVE.out]; unfold readB; rw [if_pos rfl, HK.out]
      have hfin := fun X => storeItemChain (m' := It.of V) HM4.out (Value.int .i64 (k : Int)) (Value.int .i64 (V 1)) (Value.int .i64 (V 8)) (Value.int .i64 (V 9)) (Value.int .i64 (V 10)) (Value.int .u8 (V 11)) (Value.int .i64 (V 12)) (Value.int .i64 (V 13)) X (by simp [It.cs, It.of, hV0]) hone (Nat.le_refl _) HB4.out
      have HFIN := Lib.hid hfin
      have HB5 := Lib.hid (show itemDec i = .inr (It.of V) by rw [HBO.out, HVE.out])
      clear hfin hds hdd hone hV0 z0 z1 z2 z3 z4 z5 z6 z7 hzf
      go_wp2_with fail
      refine ret_item rfl rfl w.heap.size (It.of V) .nilIface rfl (HFIN.out X).1 rfl (HQ.out _ _ ?_)
      unfold DecItemPost
      rw [HB5.out]
      exact ⟨rfl, (HFIN.out X).2⟩
    · rw [hbi] at hp
      dsimp only at hp
      obtain ⟨g3, rfl, hN3⟩ := hp
      have HBO := Lib.hid (HBODY.out _ hbi)
      have HM3 := Lib.hid (HM.out.keep hN3.2.2)
      have HN3 := Lib.hid (hN3.after HB1.out)
      have hg3 : (w.alloc (.cells #[.int .i64 0, .int .i64 0, .int .i64 0, .int .i64 0, .int .i64 0, .int .u8 0, .int .i64 0, .int .i64 0] 39)).heap.size ≤ g3 := hN3.1
      simp only [World.size_alloc] at hg3
      have hg3l := heap_lt hN3.2.1
      clear hbi hN3
      have HVZ := Lib.hid (show ValsAt (w3.alloc (.cells #[.int .i64 0, .int .i64 0, .int .i64 0, .int .i64 0, .int .i64 0, .int .i64 0, .int .i64 0, .int .i64 0, .int .i64 0, .int .i64 0, .int .i64 0, .int .i64 0, .int .i64 0, .int .i64 0] 114)) w3.heap.size fun _ => 0 from heap_alloc_new _ _)
      go_wp2_with (first
        | ((with_reducible refine wpList_storeVals rfl (.tmp 5) (.tmp 41) rfl rfl w3.heap.size (fun _ => 0) (fun _ => 0) rfl rfl HVZ.out ?_); intro w4 hv4 ht4 ho4; have HT4 := Lib.hid ht4; have HO4 := Lib.hid ho4; have HM4 := Lib.hid (show ItemAt w4 w.heap.size zeroI from (ho4 w.heap.size (by have := HM3.out.lt; omega)).trans ((heap_push w3 _ _ HM3.out.lt).trans HM3.out)); clear hv4 ht4 ho4)
        | ((with_reducible refine wpList_storeItem2 rfl (.tmp 2) (.tmp 45) rfl rfl w.heap.size zeroI zeroI rfl rfl HM4.out ?_); intro w5 hm2 ht2 ho2; have HM2 := Lib.hid hm2; have HT2 := Lib.hid ht2; have HO2 := Lib.hid ho2; clear hm2 ht2 ho2))
      refine ret_item rfl rfl w.heap.size zeroI (faultV g3) rfl HM2.out rfl (HQ.out _ _ (DecItemPost.err 63 _ g3 HBO.out rfl (NewFault.turn ?_ HT2.out HO2.out (Nat.le_refl _) (by omega))))
      exact ⟨HN3.out.1, (HO4.out g3 (by omega)).trans ((heap_push w3 _ _ hg3l).trans HN3.out.2.1), HT4.out _ _ HN3.out.2.2.size (HN3.out.2.2.alloc HN3.out.2.2.size _)⟩
  · have hdt : ((n : Int) != (lg : Int)) = true := by simp; omega
    have HBO := Lib.hid (show itemDec i = .inl (62, (n : Int)) by
      unfold itemDec
      rw [if_neg hne]
      dsimp only
      rw [← hk, if_neg (by omega), if_pos (by rw [hl, ← hlg]; exact hll), hl])
    have HMA := Lib.hid (show ItemAt ((w.alloc (.cells #[.int .i64 0, .int .i64 0, .int .i64 0, .int .i64 0, .int .i64 0, .int .u8 0, .int .i64 0, .int .i64 0] 39)).alloc (faultObj n 62)) w.heap.size zeroI from hM1.keep ((Below.refl _ _).alloc (Nat.le_refl _) _))
    clear hl hr hS hSh hQ hk hc hB1 hM1 hne hlg hll
    go_enter Tryd.func31, Tryd.ntmps31
    go_wp2_with (first
      | (go_at_call 81; refine (long_any (some ⟨b2, off2, none⟩) ns caps (shapeI k) _ HLN.out HRD.out hn0 hn14 (HS.out.step HB1.out) (fun f hf => (fieldsI_lt f (shapeI_in k f hf)).2)).mono ?_; rintro e w2 ⟨rfl, rfl⟩; rw [← HLG.out])
      | (go_at_call 74; refine (wrap_any _ _ _).mono ?_; rintro e w7 ⟨rfl, rfl⟩)
      | ((with_reducible refine wpList_storeItem2 rfl (.tmp 2) (.tmp 31) rfl rfl w.heap.size zeroI zeroI rfl rfl HMA.out ?_); intro w2 hm2 ht2 ho2; have HM2 := Lib.hid hm2; have HT2 := Lib.hid ht2; have HO2 := Lib.hid ho2; clear hm2 ht2 ho2))
    exact ret_item rfl rfl w.heap.size zeroI _ rfl HM2.out rfl (HQ.out _ _ (DecItemPost.err 62 n (w.heap.size + 1) HBO.out rfl (((newFault_at _ _ _ _ (by simp)).after HB1.out).turn HT2.out HO2.out (Nat.le_refl _) (by omega))))

theorem decodeItem_any (ao : Option Addr) (n cap : Nat) (i : List UInt8) (w : World) (hl : i.length = n) (hr : Rd w ao i) (hb : n ≤ 9223372036854775807) (hS : Sizes w) (hSh : ShapesI w) :
    Calls Tryd.prog 31 #[.slice ao n cap] w (DecItemPost w i) := decodeItem_core ao n cap i w _ (fun _ _ h => h) hl hr hb hS hSh
end Go.Proofs.YtoophonmonojcaaDoor

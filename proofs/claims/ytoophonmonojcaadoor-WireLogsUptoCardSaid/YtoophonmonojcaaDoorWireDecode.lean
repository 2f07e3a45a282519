/- Contract of wire's Decode. -/
import Derived.Test.YtoophonmonojcaaDoorWirePickW
import Derived.Test.YtoophonmonojcaaDoorWireBody
import Derived.Test.YtoophonmonojcaaDoorWireMsg
import Derived.Deep.RegionHeld3
import Derived.Deep.CutRange
import Derived.Deep.WholeRow
namespace Go.Proofs.YtoophonmonojcaaDoor
open Go.RowKit

def zeroM : M := ⟨0, 0, 0, 0, 0, 0, 0, 0, 0, zeroO⟩
/-- What Decode hands back. -/
def DecPost (w : World) (b : List UInt8) (e : Ending) (w' : World) : Prop := match decode b with
  | .inl (c, a) => ∃ g, e = .returned (.tuple #[.agg zeroM.cs, faultV g]) ∧ NewFault w a c g w'
  | .inr m => e = .returned (.tuple #[.agg m.cs, .nilIface]) ∧ Below w.heap.size w w'

set_option maxRecDepth 100000 in
set_option maxHeartbeats 1000000 in
/-- The operation of fourteen numbers. -/
theorem op_any (g : Nat) (v : Nat → Int) (w : World) (hv : Nums w g v) (h11 : 0 ≤ v 11 ∧ v 11 ≤ 255) :
    Calls Tryd.prog 83 #[.pointer (some ⟨g, 0, none⟩)] w fun e w' => e = .returned (.agg #[.int .i64 (v 9), .int .i64 (v 10), .int .u8 (v 11), .int .i64 (v 12), .int .i64 (v 13)]) ∧ ∃ X : Obj, w' = (w.alloc X).drew := by
  have c9 := hv 9 (by omega)
  have c10 := hv 10 (by omega)
  have c11 := hv 11 (by omega)
  have c12 := hv 12 (by omega)
  have c13 := hv 13 (by omega)
  have hgw := block_lt c9
  obtain ⟨v9, e9⟩ : ∃ x, x = v 9 := ⟨_, rfl⟩
  obtain ⟨v10, e10⟩ : ∃ x, x = v 10 := ⟨_, rfl⟩
  obtain ⟨v11, e11⟩ : ∃ x, x = v 11 := ⟨_, rfl⟩
  obtain ⟨v12, e12⟩ : ∃ x, x = v 12 := ⟨_, rfl⟩
  obtain ⟨v13, e13⟩ : ∃ x, x = v 13 := ⟨_, rfl⟩
  rw [← e9] at c9 ⊢; rw [← e10] at c10 ⊢; rw [← e11] at c11 h11 ⊢; rw [← e12] at c12 ⊢; rw [← e13] at c13 ⊢
  clear e9 e10 e11 e12 e13 hv
  obtain ⟨h1, h2⟩ := h11
  go_enter Tryd.func83, Tryd.ntmps83
  go_wp2_with fail
  have hW : ∀ X : Obj, ∃ W1, W1 = w.alloc X := fun X => ⟨_, rfl⟩
  have d9 := cell_alloc c9 (.cells #[.int .i64 0, .int .i64 0, .int .u8 0, .int .i64 0, .int .i64 0] 23); have d10 := cell_alloc c10 (.cells #[.int .i64 0, .int .i64 0, .int .u8 0, .int .i64 0, .int .i64 0] 23); have d11 := cell_alloc c11 (.cells #[.int .i64 0, .int .i64 0, .int .u8 0, .int .i64 0, .int .i64 0] 23); have d12 := cell_alloc c12 (.cells #[.int .i64 0, .int .i64 0, .int .u8 0, .int .i64 0, .int .i64 0] 23); have d13 := cell_alloc c13 (.cells #[.int .i64 0, .int .i64 0, .int .u8 0, .int .i64 0, .int .i64 0] 23)
  have hh : (w.alloc (.cells #[.int .i64 0, .int .i64 0, .int .u8 0, .int .i64 0, .int .i64 0] 23)).heap[w.heap.size]? = some (.cells #[.int .i64 0, .int .i64 0, .int .u8 0, .int .i64 0, .int .i64 0] 23) := heap_alloc_new _ _
  have HREV := Lib.hid (fun (w' : World) (cs : Array Value) (h : w' = ((w.alloc (.cells #[.int .i64 0, .int .i64 0, .int .u8 0, .int .i64 0, .int .i64 0] 23)).drew).setRow w.heap.size cs) => h)
  clear c9 c10 c11 c12 c13
  generalize hW1 : w.alloc (.cells #[.int .i64 0, .int .i64 0, .int .u8 0, .int .i64 0, .int .i64 0] 23) = W1 at d9 d10 d11 d12 d13 hh ⊢
  have HW1 := Lib.hid hW1; have HH := Lib.hid hh
  clear hW1 hh hW HREV
  go_still_tail 22, (by kernel_rfl)
  change wpList _ _ _ _ _ W1.drew
  rw [show IntKind.u8.wrap v11 = v11 by unfold IntKind.wrap; simp [IntKind.bits, IntKind.signed]; omega]
  have HH2 := Lib.hid (show W1.drew.heap[w.heap.size]? = _ from HH.out)
  go_wp2_with (with_reducible refine wpList_store_rowTo rfl 23 (.tmp 2) (.tmp 24) rfl rfl w.heap.size #[.int .i64 v9, .int .i64 v10, .int .u8 v11, .int .i64 v12, .int .i64 v13] rfl rfl 23 _ HH2.out (by kernel_rfl) rfl (by simp [Value.oneCell']) ?_)
  have hw : W1.drew.setRow w.heap.size #[.int .i64 v9, .int .i64 v10, .int .u8 v11, .int .i64 v12, .int .i64 v13] = (w.alloc (.cells #[.int .i64 v9, .int .i64 v10, .int .u8 v11, .int .i64 v12, .int .i64 v13] 23)).drew := by
    rw [← HW1.out]
    show ((w.alloc _).setRow w.heap.size _).drew = _
    rw [World.setRow_alloc_new]
  rw [hw]
  try simp only [Exit.inBlock, Exit.then]
  exact bodyPost_ret (results_cell_row rfl _ _ w.heap.size 23 _ (0, 0) _ rfl (heap_alloc_new _ _) Tryd.underlying23 rfl (by kernel_rfl)) rfl ⟨rfl, _, rfl⟩

theorem DecPost.err {w : World} {b : List UInt8} {e : Ending} {w' : World} (c a : Int) (g : Nat) (h : decode b = .inl (c, a)) (he : e = .returned (.tuple #[.agg zeroM.cs, faultV g])) (hn : NewFault w a c g w') : DecPost w b e w' := by
  unfold DecPost; rw [h]; exact ⟨g, he, hn⟩
theorem ret_msg {fn : Func} {p u : Tmp} (h : fn.results = #[.cell p 25, .tmp u]) {R : Ending → World → Prop} {a : Act} {w : World} (hd : a.defers = []) (g : Nat) (m : M) (x : Value) (hp : a.tmps.getD p undef = .pointer (some ⟨g, 0, none⟩)) (hg : MsgAt w g m) (hx : a.tmps.getD u undef = x)
    (hR : R (.returned (.tuple #[.agg m.cs, x])) w) : bodyPost Tryd.prog fn R .ret a w :=
  bodyPost_ret (results_cell_tmp_row h _ w g 25 m.cs (0, 0) _ hp hg Tryd.underlying25 rfl infoMsg x hx) hd hR

theorem wpList_storeMsg2 {w : World} {ops : Array Oper} {rest : List Oper} {o : Oper} {a : Act} {Q : Exit → Act → World → Prop} (hgd : o.guard = none) (x y : Operand) (ho : o.op = .store 25 x y) (hd : o.dst = none) (g : Nat) (m m' : M)
    (hx : a.eval x = .pointer (some ⟨g, 0, none⟩)) (hy : a.eval y = .agg m'.cs) (hg : MsgAt w g m) (h : ∀ w', MsgAt w' g m' → Turned w w' g → (∀ k, k ≠ g → w'.heap[k]? = w.heap[k]?) → wpList Tryd.prog ops Q rest a w') : wpList Tryd.prog ops Q (o :: rest) a w :=
  wpList_store_rowTo hgd 25 x y ho hd g m'.cs hx hy 25 m.cs hg infoMsg rfl m'.one (h _ (MsgAt.store hg m') (fun _ _ hB hb => below_setRow hb hB _) (fun k hk => setRow_other w g k _ hk))
theorem innerOf_inr {b i : List UInt8} (h : innerOf b = .inr i) : 1 ≤ i.length ∧ i.length ≤ 60 := by
  unfold innerOf at h
  split at h
  · cases h
  split at h
  · cases h
  split at h
  · split at h
    · cases h
    · rename_i h0
      cases h
      have : (b.take (b.length - 4)).length ≠ 0 := fun e => h0 (List.eq_nil_of_length_eq_zero e)
      simp at this ⊢
      omega
  · cases h
theorem readB_byte (i : List UInt8) (k : Nat) : 0 ≤ readB i (shapeN k) 11 ∧ readB i (shapeN k) 11 ≤ 255 := by
  unfold readB
  rw [if_neg (by decide)]
  split
  · have e : sizeL.getD 11 0 = 1 := rfl
    rw [e]
    obtain ⟨l, hl⟩ : ∃ l, l = i.drop (posI (shapeN k) ((shapeN k).idxOf 11)) := ⟨_, rfl⟩
    rw [← hl]
    match l with
    | [] => simp [num]
    | a :: t =>
      have := a.toNat_lt
      simp [num_one]
      omega
  · omega
theorem own_eq (k : Nat) : ((k : Int) == 2) = (k == 2) := by
  by_cases h : k = 2
  · subst h; rfl
  · rw [show (k == 2) = false by simpa using h, show ((k : Int) == 2) = false by simp; omega]
theorem ValsAt.keep {w w' : World} {g : Nat} {v : Nat → Int} (h : ValsAt w g v) (hb : Below w.heap.size w w') : ValsAt w' g v := (hb.block g (heap_lt h)).trans h
theorem NewFault.turn {w w1 w2 : World} {a c : Int} {g B : Nat} (h : NewFault w a c g w1) (ht : Turned w1 w2 B) (ho : ∀ k, k ≠ B → w2.heap[k]? = w1.heap[k]?) (hB : w.heap.size ≤ B) (hne : g ≠ B) : NewFault w a c g w2 :=
  ⟨h.1, (ho g hne).trans h.2.1, ht _ _ hB h.2.2⟩

theorem MsgAt.drew {w : World} {g : Nat} {m : M} (h : MsgAt w g m) : MsgAt w.drew g m := h
theorem storeMsgCells {W w1 : World} {B g : Nat} {m m' : M} (h : MsgAt W g m) (vs : List Value) (hv : vs.toArray = m'.cs) (h1 : ∀ v ∈ vs, v.oneCell' = true) (hb : B ≤ g) (hB : Below B w1 W) : MsgAt (W.setCells g 0 vs) g m' ∧ Below B w1 (W.setCells g 0 vs) := by
  have hs : vs.length = m.cs.size := by
    have := congrArg Array.size hv
    exact (by simpa using this : vs.length = m'.cs.size)
  rw [setCells_row W g 25 m.cs vs h hs h1]
  refine ⟨?_, below_setRow hB hb _⟩
  unfold MsgAt
  rw [← hv]
  exact setRow_heap W g _ _ _ _ h
theorem storeMsgChain {W w1 : World} {g : Nat} {m m' : M} (h : MsgAt W g m) (a0 a1 a2 a3 a4 a5 a6 a7 a8 a9 a10 a11 a12 a13 : Value) (X : Obj) (hv : #[a0, a1, a2, a3, a4, a5, a6, a7, a8, a9, a10, a11, a12, a13] = m'.cs) (h1 : ∀ v ∈ [a0, a1, a2, a3, a4, a5, a6, a7, a8, a9, a10, a11, a12, a13], v.oneCell' = true) (hb : w1.heap.size ≤ g) (hB : Below w1.heap.size w1 W) :
    MsgAt (((((((((((((((W.setCell ⟨g, 0, none⟩ a0).setCell ⟨g, 1, none⟩ a1).setCell ⟨g, 2, none⟩ a2).setCell ⟨g, 3, none⟩ a3).setCell ⟨g, 4, none⟩ a4).setCell ⟨g, 5, none⟩ a5).setCell ⟨g, 6, none⟩ a6).setCell ⟨g, 7, none⟩ a7).setCell ⟨g, 8, none⟩ a8).setCell ⟨g, 9, none⟩ a9).setCell ⟨g, 10, none⟩ a10).setCell ⟨g, 11, none⟩ a11).setCell ⟨g, 12, none⟩ a12).setCell ⟨g, 13, none⟩ a13).alloc X).drew.drew g m' ∧ Below w1.heap.size w1 (((((((((((((((W.setCell ⟨g, 0, none⟩ a0).setCell ⟨g, 1, none⟩ a1).setCell ⟨g, 2, none⟩ a2).setCell ⟨g, 3, none⟩ a3).setCell ⟨g, 4, none⟩ a4).setCell ⟨g, 5, none⟩ a5).setCell ⟨g, 6, none⟩ a6).setCell ⟨g, 7, none⟩ a7).setCell ⟨g, 8, none⟩ a8).setCell ⟨g, 9, none⟩ a9).setCell ⟨g, 10, none⟩ a10).setCell ⟨g, 11, none⟩ a11).setCell ⟨g, 12, none⟩ a12).setCell ⟨g, 13, none⟩ a13).alloc X).drew.drew := by
  have hfin := storeMsgCells (m' := m') h [a0, a1, a2, a3, a4, a5, a6, a7, a8, a9, a10, a11, a12, a13] hv h1 hb hB
  have e : W.setCells g 0 [a0, a1, a2, a3, a4, a5, a6, a7, a8, a9, a10, a11, a12, a13] = ((((((((((((((W.setCell ⟨g, 0, none⟩ a0).setCell ⟨g, 1, none⟩ a1).setCell ⟨g, 2, none⟩ a2).setCell ⟨g, 3, none⟩ a3).setCell ⟨g, 4, none⟩ a4).setCell ⟨g, 5, none⟩ a5).setCell ⟨g, 6, none⟩ a6).setCell ⟨g, 7, none⟩ a7).setCell ⟨g, 8, none⟩ a8).setCell ⟨g, 9, none⟩ a9).setCell ⟨g, 10, none⟩ a10).setCell ⟨g, 11, none⟩ a11).setCell ⟨g, 12, none⟩ a12).setCell ⟨g, 13, none⟩ a13) := by simp only [World.setCells, Nat.zero_add, Nat.reduceAdd]
  rw [e] at hfin
  have h2 := hfin.1.keep ((Below.refl _ _).alloc (Nat.le_refl _) X)
  exact ⟨h2.drew.drew, (hfin.2.alloc hfin.2.size X).drew.drew⟩
/-- What region 12 reads and writes. -/
abbrev DecS (w : World) (gv : Nat) (V : Nat → Int) : Prop := (w.cell? ⟨gv, 1, none⟩ = some (.int .i64 (V 1)) ∧ w.cell? ⟨gv, 2, none⟩ = some (.int .i64 (V 2)) ∧ w.cell? ⟨gv, 3, none⟩ = some (.int .i64 (V 3)) ∧ w.cell? ⟨gv, 4, none⟩ = some (.int .i64 (V 4)) ∧ w.cell? ⟨gv, 5, none⟩ = some (.int .i64 (V 5)) ∧ w.cell? ⟨gv, 6, none⟩ = some (.int .i64 (V 6)) ∧ w.cell? ⟨gv, 7, none⟩ = some (.int .i64 (V 7)) ∧ w.cell? ⟨gv, 8, none⟩ = some (.int .i64 (V 8)))
theorem decKeep {w : World} {gv : Nat} {V : Nat → Int} (h : DecS w gv V) (X : Obj) : DecS (w.alloc X) gv V := by
  obtain ⟨h1, h2, h3, h4, h5, h6, h7, h8⟩ := h
  exact ⟨cell_alloc h1 X, cell_alloc h2 X, cell_alloc h3 X, cell_alloc h4 X, cell_alloc h5 X, cell_alloc h6 X, cell_alloc h7 X, cell_alloc h8 X⟩
theorem decDrew {w : World} {gv : Nat} {V : Nat → Int} (h : DecS w gv V) : DecS w.drew gv V := h
theorem decSet {w : World} {gv gm : Nat} {V : Nat → Int} (h : DecS w gv V) (vs : List Value) (hne : gv ≠ gm) : DecS (w.setCells gm 0 vs) gv V := by
  have e : ∀ (i : Nat) (v : Value), w.cell? ⟨gv, i, none⟩ = some v → (w.setCells gm 0 vs).cell? ⟨gv, i, none⟩ = some v := fun i v hv => (World.cell?_setCells_out gm vs 0 w ⟨gv, i, none⟩ (fun hb _ => absurd hb hne)).trans hv
  obtain ⟨h1, h2, h3, h4, h5, h6, h7, h8⟩ := h
  exact ⟨e _ _ h1, e _ _ h2, e _ _ h3, e _ _ h4, e _ _ h5, e _ _ h6, e _ _ h7, e _ _ h8⟩
theorem decChain {w : World} {gv gm : Nat} {V : Nat → Int} (h : DecS w gv V) (hne : gv ≠ gm) (a0 a1 a2 a3 a4 a5 a6 a7 a8 a9 a10 a11 a12 a13 : Value) : DecS ((((((((((((((w.setCell ⟨gm, 0, none⟩ a0).setCell ⟨gm, 1, none⟩ a1).setCell ⟨gm, 2, none⟩ a2).setCell ⟨gm, 3, none⟩ a3).setCell ⟨gm, 4, none⟩ a4).setCell ⟨gm, 5, none⟩ a5).setCell ⟨gm, 6, none⟩ a6).setCell ⟨gm, 7, none⟩ a7).setCell ⟨gm, 8, none⟩ a8).setCell ⟨gm, 9, none⟩ a9).setCell ⟨gm, 10, none⟩ a10).setCell ⟨gm, 11, none⟩ a11).setCell ⟨gm, 12, none⟩ a12).setCell ⟨gm, 13, none⟩ a13) gv V :=
  decSet h [a0, a1, a2, a3, a4, a5, a6, a7, a8, a9, a10, a11, a12, a13] hne
theorem msg_ops {w : World} {g : Nat} {m : M} (h : MsgAt w g m) : w.cell? ⟨g, 9, none⟩ = some (.int .i64 m.op.k) ∧ w.cell? ⟨g, 10, none⟩ = some (.int .i64 m.op.p) ∧ w.cell? ⟨g, 11, none⟩ = some (.int .u8 m.op.ch) ∧ w.cell? ⟨g, 12, none⟩ = some (.int .i64 m.op.cl) ∧ w.cell? ⟨g, 13, none⟩ = some (.int .i64 m.op.s) := by
  unfold MsgAt at h
  refine ⟨?_, ?_, ?_, ?_, ?_⟩ <;> simp [World.cell?, h, M.cs]
set_option maxRecDepth 100000 in
set_option maxHeartbeats 2000000 in
theorem decode_core (ao : Option Addr) (n cap : Nat) (b : List UInt8) (w : World) (Q : Ending → World → Prop) (hQ : ∀ e w', DecPost w b e w' → Q e w') (hl : b.length = n) (hr : Rd w ao b) (hcap : n ≤ cap) (hb : n ≤ 9223372036854775807) (hT : Tab w) (hE : EType w) (hS : Sizes w) (hSh : Shapes w) :
    Calls Tryd.prog 63 #[.slice ao n cap] w Q := by
  have HL := Lib.hid hl; have HR := Lib.hid hr; have HT := Lib.hid hT; have HE := Lib.hid hE; have HS := Lib.hid hS; have HSH := Lib.hid hSh; have HQ := Lib.hid hQ
  clear hl hr hT hE hS hSh hQ
  go_enter Tryd.func63, Tryd.ntmps63
  go_wp2_with fail
  have hB0 : Below w.heap.size w (w.alloc (.cells zeroM.cs 25)) := (Below.refl _ w).alloc (Nat.le_refl _) _
  refine (body_any ao n cap b _ HL.out (HR.out.step hB0) hcap hb (HT.out.step hB0) (HE.out.step hB0)).mono ?_
  intro e w1 hbp
  unfold BodyPost at hbp
  have hdi := decode_inner b
  rcases hin : innerOf b with ⟨c, a⟩ | i
  · rw [hin] at hbp hdi
    dsimp only at hdi
    obtain ⟨g, rfl, hN⟩ := hbp
    have hM : MsgAt w1 w.heap.size zeroM := (hN.2.2.block w.heap.size (by simp)).trans (heap_alloc_new _ _)
    have HM := Lib.hid hM; have HN := Lib.hid (hN.after hB0); have HDI := Lib.hid hdi
    have hge : w.heap.size + 1 ≤ g := by simpa using hN.1
    clear hM hN hdi hin hB0
    go_wp2_with ((with_reducible refine wpList_storeMsg2 rfl (.tmp 2) (.tmp 15) rfl rfl w.heap.size zeroM zeroM rfl rfl HM.out ?_); intro w2 hm2 ht2 ho2; have HM2 := Lib.hid hm2; have HT2 := Lib.hid ht2; have HO2 := Lib.hid ho2; clear hm2 ht2 ho2)
    exact ret_msg rfl rfl w.heap.size zeroM (faultV g) rfl HM2.out rfl (HQ.out _ _ (DecPost.err c a g HDI.out rfl (HN.out.turn HT2.out HO2.out (Nat.le_refl _) (by omega))))
  · rw [hin] at hbp hdi
    dsimp only at hdi
    obtain ⟨g1, rfl, hg1, hrow, hb1⟩ := hbp
    have hge : w.heap.size + 1 ≤ g1 := by simpa using hg1
    have hM : MsgAt w1 w.heap.size zeroM := (hb1.block w.heap.size (by simp)).trans (heap_alloc_new _ _)
    have hB1 := hB0.trans (hb1.mono hB0.size)
    obtain ⟨hL1, hL60⟩ := innerOf_inr hin
    obtain ⟨L, hLe⟩ : ∃ L, L = i.length := ⟨_, rfl⟩
    obtain ⟨k, hk⟩ : ∃ k, k = (i.getD 0 0).toNat := ⟨_, rfl⟩
    have hc0 := hrow.cell 0 hL1
    rw [← hk] at hc0
    rw [← hLe] at hL1 hL60 ⊢
    have hk256 : k < 256 := by rw [hk]; exact UInt8.toNat_lt _
    have HM := Lib.hid hM; have HB1 := Lib.hid hB1; have HROW := Lib.hid hrow; have HDI := Lib.hid hdi; have HLE := Lib.hid hLe; have HK := Lib.hid hk
    have hg1l := block_lt hc0
    have hmsgl := hM.lt
    clear hM hB1 hrow hdi hin hB0 hb1 hg1 hLe hk
    have p0 : (0 : Int) ≤ (k : Int) := by omega
    by_cases hbad : k < 1 ∨ 6 < k
    · have HBO := Lib.hid (show decode b = .inl (61, 0) by
        rw [HDI.out]; unfold bodyOf
        rw [if_neg (by intro h; have := HLE.out; rw [h] at this; simp at this; omega)]
        dsimp only
        rw [← HK.out, if_pos hbad])
      have HMA := Lib.hid (show MsgAt (w1.alloc (faultObj 0 61)) w.heap.size zeroM from HM.out.keep ((Below.refl _ _).alloc (Nat.le_refl _) _))
      rcases hbad with hbad | hbad
      all_goals
        go_wp2_with (first
          | (go_at_call 74; refine (wrap_any _ _ _).mono ?_; rintro e w7 ⟨rfl, rfl⟩)
          | ((with_reducible refine wpList_storeMsg2 rfl (.tmp 2) (.tmp 27) rfl rfl w.heap.size zeroM zeroM rfl rfl HMA.out ?_); intro w2 hm2 ht2 ho2; have HM2 := Lib.hid hm2; have HT2 := Lib.hid ht2; have HO2 := Lib.hid ho2; clear hm2 ht2 ho2))
        exact ret_msg rfl rfl w.heap.size zeroM (faultV w1.heap.size) rfl HM2.out rfl (HQ.out _ _ (DecPost.err 61 0 _ HBO.out rfl (((newFault_alloc _ _ _).after HB1.out).turn HT2.out HO2.out (Nat.le_refl _) (by omega))))
    · have hk1 : 1 ≤ k := by omega
      have hk6 : k ≤ 6 := by omega
      clear hbad
      obtain ⟨ao2, ns, caps, hcell, hlen, hrd⟩ := (HSH.out.step HB1.out) k (by omega)
      have hsl := shape_len k hk1 hk6
      rw [hlen] at hsl
      obtain ⟨b2, off2, rfl, -, -⟩ := hrd.some (by omega)
      have hn0 : 0 < ns := by omega
      have hn14 : ns ≤ 14 := by omega
      have HLN := Lib.hid hlen; have HRD := Lib.hid hrd
      have hshl := block_lt hcell
      have r1 : (1 : Int) ≤ (k : Int) := by omega
      have r6 : (k : Int) ≤ 6 := by omega
      have r7 : (k : Int) < 7 := by omega
      clear hsl hlen hrd
      go_wp2_with fail
      refine (long_any (some ⟨b2, off2, none⟩) ns caps (shapeN k) _ HLN.out HRD.out hn0 hn14 (HS.out.step HB1.out) (fun f hf => (shape_lt k f hf).2)).mono ?_
      rintro e w2 ⟨rfl, rfl⟩
      obtain ⟨lg, hlg⟩ : ∃ lg, lg = longOf (shapeN k) := ⟨_, rfl⟩
      rw [← hlg]
      have HLG := Lib.hid hlg; clear hlg
      by_cases hll : L = lg
      · have hdt : ((L : Int) != (lg : Int)) = false := by simp [hll]
        have hlong : i.length = longOf (shapeN k) := by rw [← HLE.out, hll, HLG.out]
        have HLO := Lib.hid hlong
        clear hll hlong
        go_wp2_with fail
        rw [own_eq k]
        refine (pick_any (some ⟨g1, 0, none⟩) L L i b2 off2 ns caps (shapeN k) (k == 2) _ HLE.out.symm HROW.out.rd HLN.out HRD.out hn0 hn14 HLO.out (ord_shape k hk1 hk6) (HS.out.step HB1.out)).mono ?_
        intro e w3 hp
        unfold PickPost at hp
        have hbody : ∀ x, badI i (shapeN k) (k == 2) = x → decode b = (match x with | some j => .inl (63, (posI (shapeN k) j : Nat)) | none => .inr (M.of (readB i (shapeN k)))) := by
          intro x hx
          rw [HDI.out]; unfold bodyOf
          rw [if_neg (by intro h; have := HLE.out; rw [h] at this; simp at this; omega)]
          dsimp only
          rw [← HK.out, if_neg (by omega), if_neg (by rw [HLO.out]; simp), hx]
          cases x <;> rfl
        rcases hbi : badI i (shapeN k) (k == 2) with _ | j
        · rw [hbi] at hp
          dsimp only at hp
          obtain ⟨rfl, hb3⟩ := hp
          have HBO := Lib.hid (hbody _ hbi)
          have HM3 := Lib.hid (HM.out.keep hb3)
          have HB3 := Lib.hid (HB1.out.trans (hb3.mono HB1.out.size))
          clear hbody hbi hb3
          have HVZ := Lib.hid (show ValsAt (w3.alloc (.cells #[.int .i64 0, .int .i64 0, .int .i64 0, .int .i64 0, .int .i64 0, .int .i64 0, .int .i64 0, .int .i64 0, .int .i64 0, .int .i64 0, .int .i64 0, .int .i64 0, .int .i64 0, .int .i64 0] 114)) w3.heap.size fun _ => 0 from heap_alloc_new _ _)
          obtain ⟨V, hV⟩ : ∃ V, V = readB i (shapeN k) := ⟨_, rfl⟩
          have HVE := Lib.hid hV
          rw [← hV]
          clear hV
          go_wp2_with ((with_reducible refine wpList_storeVals rfl (.tmp 7) (.tmp 48) rfl rfl w3.heap.size (fun _ => 0) V rfl rfl HVZ.out ?_); intro w4 hv4 ht4 ho4; have HV4 := Lib.hid hv4; have HT4 := Lib.hid ht4; have HO4 := Lib.hid ho4; clear hv4 ht4 ho4)
          have HM4 := Lib.hid (show MsgAt w4 w.heap.size zeroM from (HO4.out w.heap.size (by have := HM3.out.lt; omega)).trans ((heap_push w3 _ _ HM3.out.lt).trans HM3.out))
          have HB4 := Lib.hid (HT4.out _ _ HB3.out.size (HB3.out.alloc HB3.out.size _))
          have hn := HV4.out.nums
          have hV11 : 0 ≤ V 11 ∧ V 11 ≤ 255 := by rw [HVE.out]; exact readB_byte i k
          have hds : DecS w4 w3.heap.size V := ⟨hn 1 (by omega), hn 2 (by omega), hn 3 (by omega), hn 4 (by omega), hn 5 (by omega), hn 6 (by omega), hn 7 (by omega), hn 8 (by omega)⟩
          have hdd := decDrew hds
          have hne : w3.heap.size ≠ w.heap.size := by have := HM3.out.lt; omega
          have hone : ∀ v ∈ [Value.int .i64 (k : Int), Value.int .i64 (V 1), Value.int .i64 (V 2), Value.int .i64 (V 3), Value.int .i64 (V 4), Value.int .i64 (V 5), Value.int .i64 (V 6), Value.int .i64 (V 7), Value.int .i64 (V 8), Value.int .i64 (V 9), Value.int .i64 (V 10), Value.int .u8 (V 11), Value.int .i64 (V 12), Value.int .i64 (V 13)], v.oneCell' = true := by simp [Value.oneCell']
          have HN4 := Lib.hid hn
          have HND := Lib.hid (show Nums w4.drew w3.heap.size V from hn)
          clear hn
          have hmn : ∀ j, j < 9 → w4.cell? ⟨w.heap.size, j, none⟩ = some (.int .i64 (zeroM.at j)) := fun j hj => HM4.out.num j hj
          have z0 := hmn 0 (by omega); have z1 := hmn 1 (by omega); have z2 := hmn 2 (by omega); have z3 := hmn 3 (by omega); have z4 := hmn 4 (by omega); have z5 := hmn 5 (by omega); have z6 := hmn 6 (by omega); have z7 := hmn 7 (by omega); have z8 := hmn 8 (by omega)
          obtain ⟨z9, z10, z11, z12, z13⟩ := msg_ops HM4.out
          have hzf := HM4.out.frozen
          have hgl4 := HM4.out.lt
          clear hmn
          go_region_held3 (fun w' => DecS w' w3.heap.size V) (with_reducible first | exact hds | exact hdd | exact decKeep hds _ | exact decDrew (decKeep hds _) | exact decKeep hdd _ | exact decDrew (decDrew (decKeep hds _)) | exact decDrew (decDrew (decKeep (decChain hds hne _ _ _ _ _ _ _ _ _ _ _ _ _ _) _)) | exact decDrew (decKeep (decChain hds hne _ _ _ _ _ _ _ _ _ _ _ _ _ _) _))
            (first
             | ((with_reducible refine (op_any w3.heap.size V _ HN4.out hV11).mono ?_); rintro e w' ⟨rfl, X, rfl⟩)
             | ((with_reducible refine (op_any w3.heap.size V _ HND.out hV11).mono ?_); rintro e w' ⟨rfl, X, rfl⟩))
          have hV0 : V 0 = (k : Int) := by rw [HVE.out]; unfold readB; rw [if_pos rfl, HK.out]
          have hfin := fun X => storeMsgChain (m' := M.of V) HM4.out (Value.int .i64 (k : Int)) (Value.int .i64 (V 1)) (Value.int .i64 (V 2)) (Value.int .i64 (V 3)) (Value.int .i64 (V 4)) (Value.int .i64 (V 5)) (Value.int .i64 (V 6)) (Value.int .i64 (V 7)) (Value.int .i64 (V 8)) (Value.int .i64 (V 9)) (Value.int .i64 (V 10)) (Value.int .u8 (V 11)) (Value.int .i64 (V 12)) (Value.int .i64 (V 13)) X (by simp [M.cs, M.of, hV0]) hone (Nat.le_refl _) HB4.out
          have HFIN := Lib.hid hfin
          have HB5 := Lib.hid (show decode b = .inr (M.of V) by rw [HBO.out, HVE.out])
          clear hfin hds hdd hone hV0 z0 z1 z2 z3 z4 z5 z6 z7 z8 z9 z10 z11 z12 z13 hzf
          go_wp2_with fail
          refine ret_msg rfl rfl w.heap.size (M.of V) .nilIface rfl (HFIN.out X).1 rfl (HQ.out _ _ ?_)
          unfold DecPost
          rw [HB5.out]
          exact ⟨rfl, (HFIN.out X).2⟩
        · rw [hbi] at hp
          dsimp only at hp
          obtain ⟨g3, rfl, hN3⟩ := hp
          have HBO := Lib.hid (hbody _ hbi)
          have HM3 := Lib.hid (HM.out.keep hN3.2.2)
          have HN3 := Lib.hid (hN3.after HB1.out)
          have hg3 : w1.heap.size ≤ g3 := hN3.1
          have hg3l := heap_lt hN3.2.1
          clear hbody hbi hN3
          have HVZ := Lib.hid (show ValsAt (w3.alloc (.cells #[.int .i64 0, .int .i64 0, .int .i64 0, .int .i64 0, .int .i64 0, .int .i64 0, .int .i64 0, .int .i64 0, .int .i64 0, .int .i64 0, .int .i64 0, .int .i64 0, .int .i64 0, .int .i64 0] 114)) w3.heap.size fun _ => 0 from heap_alloc_new _ _)
          go_wp2_with (first
            | ((with_reducible refine wpList_storeVals rfl (.tmp 7) (.tmp 48) rfl rfl w3.heap.size (fun _ => 0) (fun _ => 0) rfl rfl HVZ.out ?_); intro w4 hv4 ht4 ho4; have HT4 := Lib.hid ht4; have HO4 := Lib.hid ho4; have HM4 := Lib.hid (show MsgAt w4 w.heap.size zeroM from (ho4 w.heap.size (by have := HM3.out.lt; omega)).trans ((heap_push w3 _ _ HM3.out.lt).trans HM3.out)); clear hv4 ht4 ho4)
            | ((with_reducible refine wpList_storeMsg2 rfl (.tmp 2) (.tmp 52) rfl rfl w.heap.size zeroM zeroM rfl rfl HM4.out ?_); intro w5 hm2 ht2 ho2; have HM2 := Lib.hid hm2; have HT2 := Lib.hid ht2; have HO2 := Lib.hid ho2; clear hm2 ht2 ho2))
          refine ret_msg rfl rfl w.heap.size zeroM (faultV g3) rfl HM2.out rfl (HQ.out _ _ (DecPost.err 63 _ g3 HBO.out rfl (NewFault.turn ?_ HT2.out HO2.out (Nat.le_refl _) (by omega))))
          exact ⟨HN3.out.1, (HO4.out g3 (by omega)).trans ((heap_push w3 _ _ hg3l).trans HN3.out.2.1), HT4.out _ _ HN3.out.2.2.size (HN3.out.2.2.alloc HN3.out.2.2.size _)⟩
      · have hdt : ((L : Int) != (lg : Int)) = true := by simp; omega
        have HLL := Lib.hid hll
        have HBO := Lib.hid (show decode b = .inl (62, (L : Int)) by
          rw [HDI.out]; unfold bodyOf
          rw [if_neg (by intro h; have := HLE.out; rw [h] at this; simp at this; omega)]
          dsimp only
          rw [← HK.out, if_neg (by omega), if_pos (by rw [← HLE.out, ← HLG.out]; exact HLL.out), HLE.out])
        have HMA := Lib.hid (show MsgAt (w1.alloc (faultObj L 62)) w.heap.size zeroM from HM.out.keep ((Below.refl _ _).alloc (Nat.le_refl _) _))
        clear hll
        go_wp2_with (first
          | (go_at_call 74; refine (wrap_any _ _ _).mono ?_; rintro e w7 ⟨rfl, rfl⟩)
          | ((with_reducible refine wpList_storeMsg2 rfl (.tmp 2) (.tmp 36) rfl rfl w.heap.size zeroM zeroM rfl rfl HMA.out ?_); intro w2 hm2 ht2 ho2; have HM2 := Lib.hid hm2; have HT2 := Lib.hid ht2; have HO2 := Lib.hid ho2; clear hm2 ht2 ho2))
        exact ret_msg rfl rfl w.heap.size zeroM (faultV w1.heap.size) rfl HM2.out rfl (HQ.out _ _ (DecPost.err 62 L _ HBO.out rfl (((newFault_alloc _ _ _).after HB1.out).turn HT2.out HO2.out (Nat.le_refl _) (by omega))))

theorem decode_any (ao : Option Addr) (n cap : Nat) (b : List UInt8) (w : World) (hl : b.length = n) (hr : Rd w ao b) (hcap : n ≤ cap) (hb : n ≤ 9223372036854775807) (hT : Tab w) (hE : EType w) (hS : Sizes w) (hSh : Shapes w) :
    Calls Tryd.prog 63 #[.slice ao n cap] w (DecPost w b) := decode_core ao n cap b w _ (fun _ _ h => h) hl hr hcap hb hT hE hS hSh
end Go.Proofs.YtoophonmonojcaaDoor

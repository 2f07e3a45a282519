/- Contracts of jotterlaw06's fixed; errors compared with nil. -/
import Derived.Test.YtoophonmonojcaaDoorWireDecode
import Derived.Test.YtoophonmonojcaaDoorMsgEq
namespace Go.Proofs.YtoophonmonojcaaDoor
open Go.RowKit

attribute [-go_sem] run_eql_struct
theorem wpList_wanted {ops : Array Oper} {Q : Exit → Act → World → Prop} {a : Act} {w : World} {rest : List Oper} {o : Oper} (hw : Region.wanted o (yielded ops a.tmps) = true)
    (h : ∀ K : Act → World → Prop, (∀ a w, wpList Tryd.prog ops Q rest a w → K a w) → o.wp Tryd.prog a w K Q) : wpList Tryd.prog ops Q (o :: rest) a w :=
  wpList_step fun K hK => by rw [if_pos hw]; exact h K hK
/-- A message loaded under a guard that says yes. -/
theorem wpList_loadMsgG {w : World} {ops : Array Oper} {rest : List Oper} {o : Oper} {a : Act} {Q : Exit → Act → World → Prop} (x : Operand) (ho : o.op = .load 25 x) (g : Nat) (m : M) (hx : a.eval x = .pointer (some ⟨g, 0, none⟩)) (hg : MsgAt w g m)
    (hw : Region.wanted o (yielded ops a.tmps) = true) (h : wpList Tryd.prog ops Q rest (a.put o.dst (.agg m.cs)) w) : wpList Tryd.prog ops Q (o :: rest) a w :=
  wpList_wanted hw fun _ hK => wp_load_row 25 x ho g hx 25 m.cs (0, 0) _ hg Tryd.underlying25 rfl infoMsg (hK _ _ h)
theorem eql_msg_same (m : M) (w : World) : (binOp .eql 25 (.agg m.cs) (.agg m.cs)).run Tryd.prog w = .ok (.bool true) w := by rw [eql_msg, (M.eqB_iff m m).2 rfl]
def fixedM : M := ⟨4, 1, 3, 0, 0, 0, 0, 0, 0, zeroO⟩
theorem fixedM_fine : fixedM.fine := by simp [fixedM, M.fine, zeroO]
theorem decode_any_inr (ao : Option Addr) (n cap : Nat) (b : List UInt8) (m : M) (w : World) (h : decode b = .inr m) (hl : b.length = n) (hr : Rd w ao b) (hcap : n ≤ cap) (hb : n ≤ 9223372036854775807) (hT : Tab w) (hE : EType w) (hS : Sizes w) (hSh : Shapes w) :
    Calls Tryd.prog 63 #[.slice ao n cap] w fun e w' => e = .returned (.tuple #[.agg m.cs, .nilIface]) ∧ Below w.heap.size w w' := by
  refine (decode_any ao n cap b w hl hr hcap hb hT hE hS hSh).mono fun e w' hp => ?_
  unfold DecPost at hp
  rw [h] at hp
  exact hp
theorem decode_any_inl (ao : Option Addr) (n cap : Nat) (b : List UInt8) (c a : Int) (w : World) (h : decode b = .inl (c, a)) (hl : b.length = n) (hr : Rd w ao b) (hcap : n ≤ cap) (hb : n ≤ 9223372036854775807) (hT : Tab w) (hE : EType w) (hS : Sizes w) (hSh : Shapes w) :
    Calls Tryd.prog 63 #[.slice ao n cap] w fun e w' => ∃ g, e = .returned (.tuple #[.agg zeroM.cs, faultV g]) ∧ NewFault w a c g w' := by
  refine (decode_any ao n cap b w hl hr hcap hb hT hE hS hSh).mono fun e w' hp => ?_
  unfold DecPost at hp
  rw [h] at hp
  exact hp
/-- What the walks ask of the listed variables, in one. -/
structure Env (w : World) : Prop where
  tab : Tab w
  ety : EType w
  siz : Sizes w
  shp : Shapes w
theorem Env.step {w w' : World} (h : Env w) (hb : Below w.heap.size w w') : Env w' := ⟨h.tab.step hb, h.ety.step hb, h.siz.step hb, h.shp.step hb⟩

set_option maxRecDepth 100000 in
set_option maxHeartbeats 1000000 in
theorem fixed6_any (w : World) (h : Env w) : Calls Tryd.prog 67 #[] w (RetV w (.bool true)) := by
  have H := Lib.hid h
  clear h
  go_enter Tryd.func67, Tryd.ntmps67
  go_wp2_with fail
  have hb0 : Below w.heap.size w (w.alloc (.cells fixedM.cs 25)) := (Below.refl _ w).alloc (Nat.le_refl _) _
  have hM : MsgAt (w.alloc (.cells fixedM.cs 25)) w.heap.size fixedM := heap_alloc_new _ _
  refine (encode_fine fixedM _ fixedM_fine (H.out.tab.step hb0) (H.out.siz.step hb0) (H.out.shp.step hb0)).mono ?_
  rintro e w2 ⟨g2, rfl, hg2, hr2, hb2⟩
  have hlen : (encB fixedM).length = 7 := rfl
  have hc0 := hr2.cell 0 (by rw [hlen]; omega)
  have hc1 := hr2.cell 1 (by rw [hlen]; omega)
  have hc2 := hr2.cell 2 (by rw [hlen]; omega)
  rw [show (encB fixedM).getD 0 0 = 4 from rfl] at hc0
  rw [show (encB fixedM).getD 1 0 = 1 from rfl] at hc1
  rw [show (encB fixedM).getD 2 0 = 3 from rfl] at hc2
  have HM2 := Lib.hid (hM.keep hb2)
  have HB2 := Lib.hid (hb0.trans (hb2.mono hb0.size))
  have HR2 := Lib.hid hr2
  have hgl := hr2.lt
  rw [hlen]
  clear hr2 hb2 hb0 hM
  go_wp2_with fail
  refine (decode_any_inr (some ⟨g2, 0, none⟩) 7 7 (encB fixedM) fixedM _ (decode_enc fixedM_fine) hlen HR2.out.rd (by omega) (by omega) (H.out.tab.step HB2.out) (H.out.ety.step HB2.out) (H.out.siz.step HB2.out) (H.out.shp.step HB2.out)).mono ?_
  rintro e w3 ⟨rfl, hb3⟩
  have HM3 := Lib.hid (HM2.out.keep hb3)
  have HB3 := Lib.hid (HB2.out.trans (hb3.mono HB2.out.size))
  clear hb3
  have HZ := Lib.hid (show MsgAt (w3.alloc (.cells #[.int .i64 0, .int .i64 0, .int .i64 0, .int .i64 0, .int .i64 0, .int .i64 0, .int .i64 0, .int .i64 0, .int .i64 0, .int .i64 0, .int .i64 0, .int .u8 0, .int .i64 0, .int .i64 0] 25)) w3.heap.size zeroM from heap_alloc_new _ _)
  have heq := eql_msg_same fixedM
  obtain ⟨fm, hfm⟩ : ∃ fm, fm = fixedM := ⟨_, rfl⟩
  rw [← hfm] at heq HM3 ⊢
  clear hfm
  go_wp2_with (first
    | ((with_reducible refine wpList_storeMsg2 rfl (.tmp 4) (.tmp 39) rfl rfl w3.heap.size zeroM fm rfl rfl HZ.out ?_); intro w4 hm4 ht4 ho4; have HM4 := Lib.hid hm4; have HT4 := Lib.hid ht4; have HM5 := Lib.hid (show MsgAt w4 w.heap.size fm from (ho4 w.heap.size (by have := HM3.out.lt; omega)).trans ((heap_push w3 _ _ HM3.out.lt).trans HM3.out)); clear hm4 ht4 ho4)
    | (with_reducible refine wpList_loadMsgG (.tmp 4) rfl w3.heap.size fm rfl HM4.out (by kernel_rfl) ?_)
    | (with_reducible refine wpList_loadMsgG (.tmp 1) rfl w.heap.size fm rfl HM5.out (by kernel_rfl) ?_))
  go_ret
  exact ⟨rfl, HT4.out _ _ HB3.out.size (HB3.out.alloc HB3.out.size _)⟩
end Go.Proofs.YtoophonmonojcaaDoor

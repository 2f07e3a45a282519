/- The walk of jotterlaw06.WireReads: it answers true. -/
import Derived.Test.YtoophonmonojcaaDoorRefJ
import Derived.Test.YtoophonmonojcaaDoorGItemB
import Derived.Test.YtoophonmonojcaaDoorGRef2
namespace Go.Proofs.YtoophonmonojcaaDoor
open Go.RowKit
attribute [-go_sem] run_eql_struct

set_option maxRecDepth 100000 in
set_option maxHeartbeats 4000000 in
theorem wireReads_any (ao : Option Addr) (n cap : Nat) (b : List UInt8) (W : World) (hl : b.length = n) (hr : Rd W ao b) (_hcap : n ≤ cap) (_hz : ao = none → cap = 0) (hb : n ≤ 140737488355000) (hE : EType W) (hS : Sizes W) (hSI : ShapesI W) (hFI : FieldsI W) :
    Calls Tryd.prog 12 #[.slice ao n cap] W (RetV W (.bool true)) := by
  have hv : EnvI W := ⟨hS, hSI, hFI⟩
  have HV := Lib.hid hv; have HE := Lib.hid hE; have HL := Lib.hid hl; have HR := Lib.hid hr
  clear hE hS hSI hFI hv hl hr
  go_enter Tryd.func12, Tryd.ntmps12
  go_wp2_with fail
  refine (fixedItem_any _ HV.out).mono ?_
  rintro e w1 ⟨rfl, hb1⟩
  have HB1 := Lib.hid hb1; clear hb1
  go_wp2_with fail
  refine (law06_room_any ao n cap b _ HL.out (HR.out.step HB1.out) (by omega)).mono ?_
  rintro e w2 ⟨g2, rfl, hg2, hr2, hb2⟩
  have hrl : (roomy b).length = n + 3 := by have := HL.out; simp [roomy]; omega
  rw [hrl]
  have HB2 := Lib.hid (HB1.out.trans (hb2.mono HB1.out.size)); have HR2 := Lib.hid hr2; have HRL := Lib.hid hrl
  have hrb : Rd w2 (some ⟨g2, 0, none⟩) b := by
    have := hr2.rd.take n
    unfold roomy at this
    rw [List.take_append_of_le_length (by rw [HL.out]; exact Nat.le_refl _), List.take_of_length_le (by rw [HL.out]; exact Nat.le_refl _)] at this
    exact this
  have HRB := Lib.hid hrb
  clear hr2 hb2 hrl hrb hg2
  have hZ := fun w : World => (show ItemAt (w.alloc (.cells #[.int .i64 0, .int .i64 0, .int .i64 0, .int .i64 0, .int .i64 0, .int .u8 0, .int .i64 0, .int .i64 0] 39)) w.heap.size zeroI from heap_alloc_new _ _)
  have HZ := Lib.hid hZ
  clear hZ
  have hroom : ∀ X : World, Below W.heap.size W X → Calls Tryd.prog 52 #[.slice ao n cap] X (NewRow X (roomy b)) := fun X hX => law06_room_any ao n cap b X HL.out (HR.out.step hX) (by omega)
  have hrd : ∀ X : World, Below W.heap.size W X → Calls Tryd.prog 53 #[.slice ao n cap] X (RefDecItemPost X b) := fun X hX => refDecodeItem_any ao n cap b X HL.out (HR.out.step hX) (by omega)
  have HROOM := Lib.hid hroom; have HRD := Lib.hid hrd
  clear hroom hrd
  go_wp2_with fail
  rcases hd : itemDec b with ⟨c, a⟩ | m
  · have herr := itemDec_err hd
    have HD := Lib.hid hd
    clear hd
    refine (decodeItem_inl (some ⟨g2, 0, none⟩) n (n + 3) b c a _ HD.out HL.out HRB.out (by omega) (HV.out.step HB2.out)).mono ?_
    rintro e w3 ⟨g3, rfl, hN3⟩
    have HB3 := Lib.hid (HB2.out.trans (hN3.2.2.mono HB2.out.size)); have HG3 := Lib.hid hN3.2.1; have HR3 := Lib.hid (HR2.out.below hN3.2.2 HR2.out.lt)
    have hg3l := heap_lt hN3.2.1
    clear hN3
    go_wp2_with ((with_reducible refine wpList_storeItem2 rfl (.tmp 4) (.tmp 19) rfl rfl w3.heap.size zeroI zeroI rfl rfl (HZ.out w3) ?_); intro w4 hm4 ht4 ho4; have HM4 := Lib.hid hm4; have HB4 := Lib.hid (ht4 _ _ HB3.out.size (HB3.out.alloc HB3.out.size _)); have HG4 := Lib.hid (show w4.heap[g3]? = some (faultObj a c) from (ho4 g3 (by omega)).trans ((heap_push w3 _ _ hg3l).trans HG3.out)); have HR4 := Lib.hid (show Row w4 g2 (roomy b) from (ho4 g2 (by have := HR3.out.lt; omega)).trans ((heap_push w3 _ _ HR3.out.lt).trans HR3.out)); clear hm4 ht4 ho4)
    refine (HRD.out _ HB4.out).mono ?_
    rintro e w5 (⟨c', a', hd', rfl, hb5⟩ | ⟨m', hd', _⟩)
    · rw [HD.out] at hd'
      cases hd'
      have HB5 := Lib.hid (HB4.out.trans (hb5.mono HB4.out.size)); have HM5 := Lib.hid (HM4.out.keep hb5); have HG5 := Lib.hid ((hb5.block g3 (heap_lt HG4.out)).trans HG4.out); have HR5 := Lib.hid (HR4.out.below hb5 HR4.out.lt)
      clear hb5
      have heq := eql_item_same zeroI
      go_wp2_with (first
        | ((with_reducible refine wpList_storeItem2 rfl (.tmp 6) (.tmp 24) rfl rfl w5.heap.size zeroI zeroI rfl rfl (HZ.out w5) ?_); intro w6 hm6 ht6 ho6; have HM6 := Lib.hid hm6; have HB6 := Lib.hid (ht6 _ _ HB5.out.size (HB5.out.alloc HB5.out.size _)); have HR6 := Lib.hid (show Row w6 g2 (roomy b) from (ho6 g2 (by have := HR5.out.lt; omega)).trans ((heap_push w5 _ _ HR5.out.lt).trans HR5.out)); have HM7 := Lib.hid (show ItemAt w6 w3.heap.size zeroI from (ho6 _ (by have := HM5.out.lt; omega)).trans ((heap_push w5 _ _ HM5.out.lt).trans HM5.out)); have HG6 := Lib.hid (show w6.heap[g3]? = some (faultObj a c) from (ho6 g3 (by have := heap_lt HG5.out; omega)).trans ((heap_push w5 _ _ (heap_lt HG5.out)).trans HG5.out)); clear hm6 ht6 ho6)
        | (with_reducible refine wpList_loadItem rfl (.tmp 4) rfl w3.heap.size zeroI rfl HM7.out ?_)
        | (with_reducible refine wpList_loadItem rfl (.tmp 6) rfl w5.heap.size zeroI rfl HM6.out ?_))
      refine (law06_is _ c a _ (.inr (.inr ⟨g3, rfl, HG6.out⟩)) (HE.out.step HB6.out)).mono ?_
      rintro e w7 ⟨rfl, hb7⟩
      have HB7 := Lib.hid (HB6.out.trans (hb7.mono HB6.out.size)); have HR7 := Lib.hid (HR6.out.below hb7 HR6.out.lt)
      clear hb7 heq
      go_wp2_with fail
      refine (HROOM.out _ HB7.out).mono ?_
      rintro e w8 ⟨g8, rfl, hg8, hr8, hb8⟩
      have HB8 := Lib.hid (HB7.out.trans (hb8.mono HB7.out.size)); have HR8 := Lib.hid hr8; have HR9 := Lib.hid (HR7.out.below hb8 HR7.out.lt)
      rw [HRL.out]
      clear hr8 hb8 hg8
      go_wp2_with fail
      refine (law06_eq_any (some ⟨g2, 0, none⟩) (some ⟨g8, 0, none⟩) (n + 3) (n + 3) (n + 3) (n + 3) (roomy b) (roomy b) _ HRL.out HRL.out HR9.out.rd HR8.out.rd (by omega)).mono ?_
      rintro e w9 hq9
      obtain ⟨rfl, hb9⟩ := hq9.below
      have HB9 := Lib.hid (HB8.out.trans (hb9.mono HB8.out.size))
      clear hb9 hq9
      rw [beq_self_eq_true]
      go_wp2_with fail
      go_ret
      exact ⟨rfl, HB9.out⟩
    · rw [HD.out] at hd'; cases hd'
  · have HD := Lib.hid hd
    clear hd
    refine (decodeItem_inr (some ⟨g2, 0, none⟩) n (n + 3) b m _ HD.out HL.out HRB.out (by omega) (HV.out.step HB2.out)).mono ?_
    rintro e w3 ⟨rfl, hb3⟩
    have HB3 := Lib.hid (HB2.out.trans (hb3.mono HB2.out.size)); have HR3 := Lib.hid (HR2.out.below hb3 HR2.out.lt)
    clear hb3
    go_wp2_with ((with_reducible refine wpList_storeItem2 rfl (.tmp 4) (.tmp 19) rfl rfl w3.heap.size zeroI m rfl rfl (HZ.out w3) ?_); intro w4 hm4 ht4 ho4; have HM4 := Lib.hid hm4; have HB4 := Lib.hid (ht4 _ _ HB3.out.size (HB3.out.alloc HB3.out.size _)); have HR4 := Lib.hid (show Row w4 g2 (roomy b) from (ho4 g2 (by have := HR3.out.lt; omega)).trans ((heap_push w3 _ _ HR3.out.lt).trans HR3.out)); clear hm4 ht4 ho4)
    refine (HRD.out _ HB4.out).mono ?_
    rintro e w5 (⟨c', a', hd', _⟩ | ⟨m', hd', rfl, hb5⟩)
    · rw [HD.out] at hd'; cases hd'
    · rw [HD.out] at hd'
      obtain rfl : m = m' := by injection hd'
      clear hd'
      have HB5 := Lib.hid (HB4.out.trans (hb5.mono HB4.out.size)); have HM5 := Lib.hid (HM4.out.keep hb5); have HR5 := Lib.hid (HR4.out.below hb5 HR4.out.lt)
      clear hb5
      have heq := eql_item_same m
      go_wp2_with (first
        | ((with_reducible refine wpList_storeItem2 rfl (.tmp 6) (.tmp 24) rfl rfl w5.heap.size zeroI m rfl rfl (HZ.out w5) ?_); intro w6 hm6 ht6 ho6; have HM6 := Lib.hid hm6; have HB6 := Lib.hid (ht6 _ _ HB5.out.size (HB5.out.alloc HB5.out.size _)); have HR6 := Lib.hid (show Row w6 g2 (roomy b) from (ho6 g2 (by have := HR5.out.lt; omega)).trans ((heap_push w5 _ _ HR5.out.lt).trans HR5.out)); have HM7 := Lib.hid (show ItemAt w6 w3.heap.size m from (ho6 _ (by have := HM5.out.lt; omega)).trans ((heap_push w5 _ _ HM5.out.lt).trans HM5.out)); clear hm6 ht6 ho6)
        | (with_reducible refine wpList_loadItem rfl (.tmp 4) rfl w3.heap.size m rfl HM7.out ?_)
        | (with_reducible refine wpList_loadItem rfl (.tmp 6) rfl w5.heap.size m rfl HM6.out ?_))
      refine (law06_is _ 0 (-1) _ (ErrIs.nil _) (HE.out.step HB6.out)).mono ?_
      rintro e w7 ⟨rfl, hb7⟩
      have HB7 := Lib.hid (HB6.out.trans (hb7.mono HB6.out.size)); have HR7 := Lib.hid (HR6.out.below hb7 HR6.out.lt)
      clear hb7 heq
      go_wp2_with fail
      refine (HROOM.out _ HB7.out).mono ?_
      rintro e w8 ⟨g8, rfl, hg8, hr8, hb8⟩
      have HB8 := Lib.hid (HB7.out.trans (hb8.mono HB7.out.size)); have HR8 := Lib.hid hr8; have HR9 := Lib.hid (HR7.out.below hb8 HR7.out.lt)
      rw [HRL.out]
      clear hr8 hb8 hg8
      go_wp2_with fail
      refine (law06_eq_any (some ⟨g2, 0, none⟩) (some ⟨g8, 0, none⟩) (n + 3) (n + 3) (n + 3) (n + 3) (roomy b) (roomy b) _ HRL.out HRL.out HR9.out.rd HR8.out.rd (by omega)).mono ?_
      rintro e w9 hq9
      obtain ⟨rfl, hb9⟩ := hq9.below
      have HB9 := Lib.hid (HB8.out.trans (hb9.mono HB8.out.size))
      clear hb9 hq9
      rw [beq_self_eq_true]
      go_wp2_with fail
      go_ret
      exact ⟨rfl, HB9.out⟩
end Go.Proofs.YtoophonmonojcaaDoor

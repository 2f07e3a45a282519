/- The walk of jotterlaw06.WireWrites: it answers true. -/
import Derived.Test.YtoophonmonojcaaDoorRefI
import Derived.Test.YtoophonmonojcaaDoorGRef2
import Derived.Test.YtoophonmonojcaaDoorGItemB
namespace Go.Proofs.YtoophonmonojcaaDoor
open Go.RowKit

set_option maxRecDepth 100000 in
set_option maxHeartbeats 1000000 in
theorem encodeItem_kind (x : It) (w : World) (hk : x.k < 1 ∨ 2 < x.k) : Calls Tryd.prog 26 #[.agg x.cs] w fun e w' => ∃ g, e = .returned (.tuple #[.slice none 0 0, faultV g]) ∧ NewFault w 0 61 g w' := by
  have hb0 := below1 w (.cells x.cs 39)
  have hM0 : ItemAt (w.alloc (.cells x.cs 39)) w.heap.size x := heap_alloc_new _ _
  obtain ⟨k, ep, ta, ⟨ok, op, oc, ol, os⟩⟩ := x
  have hc0 := (item_all hM0).1
  have HB0 := Lib.hid hb0
  simp only [It.cs] at hc0 HB0 hk ⊢
  clear hM0 hb0
  rcases hk with hk | hk
  all_goals
    go_enter Tryd.func26, Tryd.ntmps26
    go_wp2_with fail
    refine (wrap_new _ _ _).mono ?_
    rintro e w2 ⟨g, rfl, hN⟩
    have HN := Lib.hid (hN.after HB0.out)
    clear hN
    go_wp2_with fail
    go_ret2
    exact ⟨g, rfl, HN.out⟩
/-- What wire.EncodeItem answers of any item. -/
def EncItemAny (w : World) (x : It) (e : Ending) (w' : World) : Prop := ∃ bs c a ao n ev, encIR x bs c a ∧ e = .returned (.tuple #[.slice ao n n, ev]) ∧ Full w' w.heap.size ao n bs ∧ ErrIs w' ev c a ∧ Below w.heap.size w w'
theorem encodeItem_every (x : It) (w : World) (ho : 0 ≤ x.op.ch ∧ x.op.ch ≤ 255) (hv : EnvI w) : Calls Tryd.prog 26 #[.agg x.cs] w (EncItemAny w x) := by
  by_cases hk : x.k < 1 ∨ 2 < x.k
  · refine (encodeItem_kind x w hk).mono ?_
    rintro e w' ⟨g, rfl, hN⟩
    exact ⟨[], 61, 0, none, 0, _, .inl ⟨hk, rfl, rfl, rfl⟩, rfl, Full.nil _ _, .inr (.inr ⟨g, rfl, hN.2.1⟩), hN.2.2⟩
  · obtain ⟨k, hkk⟩ : ∃ k : Nat, x.k = k := ⟨x.k.toNat, by omega⟩
    have key : Calls Tryd.prog 26 #[.agg x.cs] w (EncItemPost w k x) := by
      obtain ⟨mk, ep, ta, ⟨ok, op, oc, ol, os⟩⟩ := x
      dsimp only at hkk ho hk
      subst hkk
      exact encodeItem_core k ep ta ok op oc ol os w _ (fun e w' h => h) (by omega) (by omega) ho hv.siz hv.shp hv.fld
    refine key.mono ?_
    rintro e w' (⟨hG, g, rfl, hg, hr, hb⟩ | ⟨j, g, j7, hg, hb, rfl, hN⟩)
    · refine ⟨encI x, 0, -1, _, _, _, .inr (.inl ⟨k, hkk, by omega, by omega, hG, rfl, rfl, rfl⟩), rfl, hr.full hg rfl ?_, ErrIs.nil _, hb⟩
      have := encI_len ((goodI_fine k x hkk (by omega) (by omega)).1 hG)
      omega
    · exact ⟨[], 63, _, none, 0, _, .inr (.inr ⟨k, j, hkk, by omega, by omega, j7, hg, hb, rfl, rfl, rfl⟩), rfl, Full.nil _ _, .inr (.inr ⟨g, rfl, hN.2.1⟩), hN.2.2⟩

set_option maxRecDepth 100000 in
set_option maxHeartbeats 4000000 in
theorem wireWrites_any (m : It) (W : World) (hm : m.ok) (hE : EType W) (hS : Sizes W) (hSI : ShapesI W) (hFI : FieldsI W) :
    Calls Tryd.prog 11 #[m.v] W (RetV W (.bool true)) := by
  have hv : EnvI W := ⟨hS, hSI, hFI⟩
  have hch : 0 ≤ m.op.ch ∧ m.op.ch ≤ 255 := hm.2.2.2.2.2.1
  have henc : ∀ X : World, Below W.heap.size W X → Calls Tryd.prog 26 #[.agg m.cs] X (EncItemAny X m) := fun X hX => encodeItem_every m X hch (hv.step hX)
  have href : ∀ X : World, Calls Tryd.prog 50 #[.agg m.cs] X (RefEncItemPost X m) := fun X => refEncodeItem_all m X hch
  have hM0 : ItemAt (W.alloc (.cells m.cs 39)) W.heap.size m := heap_alloc_new _ _
  have hb0 := below1 W (.cells m.cs 39)
  have HV := Lib.hid hv; have HE := Lib.hid hE; have HENC := Lib.hid henc; have HREF := Lib.hid href; have HM0 := Lib.hid hM0; have HB0 := Lib.hid hb0
  clear hE hS hSI hFI hv hm hch henc href hM0 hb0
  rw [It.v_cs]
  go_enter Tryd.func11, Tryd.ntmps11
  go_wp2_with fail
  refine (fixedItem_any _ (HV.out.step HB0.out)).mono ?_
  rintro e w1 ⟨rfl, hb1⟩
  have HB1 := Lib.hid (HB0.out.trans (hb1.mono HB0.out.size)); have HM1 := Lib.hid (HM0.out.keep hb1)
  have hB1 := HM1.out.lt
  clear hb1
  go_wp2_with (with_reducible refine wpList_loadItem rfl (.tmp 1) rfl W.heap.size m rfl HM1.out ?_)
  refine (HENC.out _ HB1.out).mono ?_
  rintro e w2 ⟨bs, c, at_, ao, n, ev, her, rfl, hf, hev, hb2⟩
  have HER := Lib.hid her
  have HB2 := Lib.hid (HB1.out.trans (hb2.mono HB1.out.size)); have HM2 := Lib.hid (HM1.out.keep hb2); have HF1 := Lib.hid hf; have HEV := Lib.hid hev
  have hs2 := hb2.size
  clear her hf hev hb2
  go_wp2_with (with_reducible refine wpList_loadItem rfl (.tmp 1) rfl W.heap.size m rfl HM2.out ?_)
  refine (HREF.out _).mono ?_
  rintro e w3 ⟨bs', c', a', v2, her', rfl, ho2, hb3⟩
  obtain ⟨rfl, rfl, rfl⟩ := encIR_det HER.out her'
  have HB3 := Lib.hid (HB2.out.trans (hb3.mono HB2.out.size)); have HM3 := Lib.hid (HM2.out.keep hb3); have HF2 := Lib.hid (HF1.out.keep hb3); have HEV3 := Lib.hid (HEV.out.step hb3); have HO2 := Lib.hid ho2
  have hs3 := hb3.size
  have hl2 : ∀ k, v2.ownBlock = some k → k < w3.heap.size := fun k hk => (World.ownsRow.lt ho2 k hk).2
  have HL2 := Lib.hid hl2
  clear her' ho2 hb3 hl2
  go_wp2_with (with_reducible refine wpList_loadItem rfl (.tmp 1) rfl W.heap.size m rfl HM3.out ?_)
  refine (HENC.out _ HB3.out).mono ?_
  rintro e w4 ⟨bs', c', a', ao3, n3, ev3, her', rfl, hf3, hev3, hb4⟩
  obtain ⟨rfl, rfl, rfl⟩ := encIR_det HER.out her'
  obtain rfl : n = n3 := by rw [← HF1.out.1, ← hf3.1]
  have HB4 := Lib.hid (HB3.out.trans (hb4.mono HB3.out.size)); have HM4 := Lib.hid (HM3.out.keep hb4); have HF4 := Lib.hid (HF2.out.keep hb4); have HEV4 := Lib.hid (HEV3.out.step hb4); have HO4 := Lib.hid (HO2.out.keep hb4); have HG4 := Lib.hid hf3
  have hs4 := hb4.size
  have hnb : n ≤ 1000 := by
    have hln := HF1.out.1
    rcases HER.out with ⟨_, rfl, _, _⟩ | ⟨k, hk, h1, h6, hg, rfl, _, _⟩ | ⟨k, f, hk, h1, h6, f2, hg, hb, rfl, _, _⟩
    · simp at hln; omega
    · have := encI_len ((goodI_fine k m hk h1 h6).1 hg); omega
    · simp at hln; omega
  clear her' hf3 hev3 hb4
  have HLN := Lib.hid HF1.out.1
  go_wp2_with fail
  refine (eq6_own ao n bs v2 _ _ HLN.out HF4.out.rd HO4.out (by omega)).mono ?_
  rintro e w5 ⟨rfl, hb5⟩
  have HB5 := Lib.hid (HB4.out.trans (hb5.mono HB4.out.size)); have HM5 := Lib.hid (HM4.out.keep hb5); have HF5 := Lib.hid (HF4.out.keep hb5); have HEV5 := Lib.hid (HEV4.out.step hb5); have HO5 := Lib.hid (HO4.out.keep hb5); have HG5 := Lib.hid (HG4.out.keep hb5)
  have hs5 := hb5.size
  clear hb5
  go_wp2_with fail
  refine (law06_is ev c at_ _ HEV5.out (HE.out.step HB5.out)).mono ?_
  rintro e w6 ⟨rfl, hb6⟩
  have HB6 := Lib.hid (HB5.out.trans (hb6.mono HB5.out.size)); have HM6 := Lib.hid (HM5.out.keep hb6); have HF6 := Lib.hid (HF5.out.keep hb6); have HO6 := Lib.hid (HO5.out.keep hb6); have HG6 := Lib.hid (HG5.out.keep hb6)
  have hs6 := hb6.size
  clear hb6
  go_wp2_with fail
  refine (eq6_own ao3 n bs v2 _ _ HLN.out HG6.out.rd HO6.out (by omega)).mono ?_
  rintro e w7 ⟨rfl, hb7⟩
  have HB7 := Lib.hid (HB6.out.trans (hb7.mono HB6.out.size)); have HM7 := Lib.hid (HM6.out.keep hb7); have HF7 := Lib.hid (HF6.out.keep hb7); have HO7 := Lib.hid (HO6.out.keep hb7); have HG7 := Lib.hid (HG6.out.keep hb7)
  have hs7 := hb7.size
  clear hb7
  have HR1 := Lib.hid (show ∀ k, rowOf ao = some k → w1.heap.size ≤ k ∧ k < w2.heap.size from HF1.out.row_ge)
  have HR3 := Lib.hid (show ∀ k, rowOf ao3 = some k → w3.heap.size ≤ k ∧ k < w4.heap.size from HG4.out.row_ge)
  go_wp2_with fail
  go_loopw [10] (fun i wr => ∃ k : Nat, k ≤ n ∧ i = .int .i64 k ∧ Full wr w1.heap.size ao n (overL bs 238 k) ∧ w7.grownBy wr (rowOf ao)) (fun i _ => n - (intOf i).toNat)
  case atStart => exact ⟨0, Nat.zero_le _, rfl, by rw [overL_zero]; exact HF7.out, World.grownBy.refl _ _⟩
  case round =>
    obtain ⟨k, hk, rfl, hf, hgr⟩ := hrel
    by_cases hlt : k < n
    · obtain ⟨g, rfl, hgB, hrow⟩ := hf.at (by omega)
      have hlen := overL_len bs 238 k (by have := HLN.out; omega)
      have hfz : wr.frozen? ⟨g, k, none⟩ = false := hrow.frozen _ _
      have hcl := hrow.cell k (by rw [hlen, HLN.out]; exact hlt)
      have hset := hf.set k 238
      rw [overL_set bs 238 k (by have := HLN.out; omega)] at hset
      have hgs : w7.grownBy (wr.setCell ⟨g, k, none⟩ (.int .u8 ((238 : UInt8).toNat : Int))) (rowOf (some ⟨g, 0, none⟩)) := grown_trans hgr (grown_setCell _ _ _)
      have HSET := Lib.hid hset; have HGS := Lib.hid hgs
      clear hset hgs hf hgr hlen hrow
      go_wp2_with fail
      go_roundw
      case rel => exact ⟨k + 1, by omega, by go_num, HSET.out, HGS.out⟩
      case measure => simp [intOf]; omega
    · obtain rfl : k = n := by omega
      rw [overL_full HLN.out] at hf
      have hbl : Below w1.heap.size w7 wr := (Below.refl _ _).grown hgr (by omega) (fun q hq => (HR1.out q hq).1)
      have HB8 := Lib.hid (HB7.out.trans (hbl.mono (by omega))); have HM8 := Lib.hid (show ItemAt wr W.heap.size m from (hbl.block _ hB1).trans HM7.out); have HF8 := Lib.hid hf
      have HO8 := Lib.hid (HO7.out.apart hgr (fun q hq => (HR1.out q hq).2)); have HG8 := Lib.hid (HG7.out.apart hgr (fun q hq => by have := (HR1.out q hq).2; omega))
      have hs8 := hgr.size
      clear hf hgr hbl
      have HA8 := Lib.hid (below1 wr (.cells #[Value.int .u8 238, Value.int .u8 238] 5))
      go_wp2_with (at_builtin; go_must (with_reducible refine wpList_appendF rfl (.tmp 60) (.tmp 61) rfl ao k (List.replicate k 238) [238, 238] rfl HF8.out.none (by simp) (HF8.out.rd.step HA8.out) wr.heap.size 2 2 rfl rfl (row_new wr #[Value.int .u8 238, Value.int .u8 238] [238, 238] rfl).rd (by omega) (by omega) ?_); intro v9 w9 ho9 hb9; have HO9 := Lib.hid ho9; have HBB := Lib.hid hb9; clear ho9 hb9)
      have HB9 := Lib.hid (HB8.out.trans ((HA8.out.trans (HBB.out.mono (by simp))).mono HB8.out.size)); have hab := HA8.out.trans (HBB.out.mono (by simp))
      have HM9 := Lib.hid (HM8.out.keep hab); have HF9 := Lib.hid (HF8.out.keep hab); have HO9' := Lib.hid (HO8.out.keep hab); have HG9 := Lib.hid (HG8.out.keep hab)
      have hs9 := hab.size
      have ho9 := HO9.out.lower (show wr.heap.size ≤ (wr.alloc (.cells #[Value.int .u8 238, Value.int .u8 238] 5)).heap.size by simp)
      rw [repl_app2] at ho9
      have HW9 := Lib.hid ho9
      clear hab ho9 HO9 HBB HA8
      go_wp2_with fail
      refine (eq6_own ao3 k bs v2 _ _ HLN.out HG9.out.rd HO9'.out (by omega)).mono ?_
      rintro e w10 ⟨rfl, hb10⟩
      have HB10 := Lib.hid (HB9.out.trans (hb10.mono HB9.out.size)); have HM10 := Lib.hid (HM9.out.keep hb10); have HF10 := Lib.hid (HF9.out.keep hb10); have HO10 := Lib.hid (HO9'.out.keep hb10); have HG10 := Lib.hid (HG9.out.keep hb10); have HW10 := Lib.hid (HW9.out.keep hb10)
      have hs10 := hb10.size
      clear hb10
      go_wp2_with fail
      obtain ⟨n, rfl⟩ : ∃ n, n = k := ⟨_, rfl⟩
      obtain ⟨wa, rfl⟩ : ∃ wa : World, wa = wr := ⟨_, rfl⟩
      go_loopw [12] (fun i wr => ∃ k : Nat, k ≤ n ∧ i = .int .i64 k ∧ Full wr w3.heap.size ao3 n (overL bs 221 k) ∧ w10.grownBy wr (rowOf ao3)) (fun i _ => n - (intOf i).toNat)
      case atStart => exact ⟨0, Nat.zero_le _, rfl, by rw [overL_zero]; exact HG10.out, World.grownBy.refl _ _⟩
      case round =>
        obtain ⟨k, hk, rfl, hf, hgr⟩ := hrel
        by_cases hlt2 : k < n
        · obtain ⟨g, rfl, hgB, hrow⟩ := hf.at (by omega)
          have hlen := overL_len bs 221 k (by have := HLN.out; omega)
          have hfz : wr.frozen? ⟨g, k, none⟩ = false := hrow.frozen _ _
          have hcl := hrow.cell k (by rw [hlen, HLN.out]; exact hlt2)
          have hset := hf.set k 221
          rw [overL_set bs 221 k (by have := HLN.out; omega)] at hset
          have hgs : w10.grownBy (wr.setCell ⟨g, k, none⟩ (.int .u8 ((221 : UInt8).toNat : Int))) (rowOf (some ⟨g, 0, none⟩)) := grown_trans hgr (grown_setCell _ _ _)
          have HSET := Lib.hid hset; have HGS := Lib.hid hgs
          clear hset hgs hf hgr hlen hrow
          go_wp2_with fail
          go_roundw
          case rel => exact ⟨k + 1, by omega, by go_num, HSET.out, HGS.out⟩
          case measure => simp [intOf]; omega
        · obtain rfl : k = n := by omega
          rw [overL_full HLN.out] at hf
          have hbl : Below w3.heap.size w10 wr := (Below.refl _ _).grown hgr (by omega) (fun q hq => (HR3.out q hq).1)
          have HB11 := Lib.hid (HB10.out.trans (hbl.mono (by omega))); have HM11 := Lib.hid (show ItemAt wr W.heap.size m from (hbl.block _ (by omega)).trans HM10.out); have HG11 := Lib.hid hf
          have HF11 := Lib.hid (HF10.out.under hgr (B' := w3.heap.size) (fun a ha => by have := (HR1.out a.block (by rw [ha]; rfl)).2; omega) (fun q hq => (HR3.out q hq).1))
          have HO11 := Lib.hid (HO10.out.under hgr (B' := w3.heap.size) HL2.out (fun q hq => (HR3.out q hq).1))
          have HW11 := Lib.hid (HW10.out.apart hgr (fun q hq => by have := (HR3.out q hq).2; omega))
          have hs11 := hgr.size
          clear hf hgr hbl
          have HA11 := Lib.hid (below1 wr (.cells #[Value.int .u8 221, Value.int .u8 221] 5))
          go_wp2_with (first
            | (at_builtin; (with_reducible refine wpList_appendF rfl (.tmp 76) (.tmp 77) rfl ao3 k (List.replicate k 221) [221, 221] rfl HG11.out.none (by simp) (HG11.out.rd.step HA11.out) wr.heap.size 2 2 rfl rfl (row_new wr #[Value.int .u8 221, Value.int .u8 221] [221, 221] rfl).rd (by omega) (by omega) ?_); intro v12 w12 ho12 hb12; have HO12' := Lib.hid ho12; have HBB := Lib.hid hb12; have HM12 := Lib.hid (HM11.out.keep (HA11.out.trans (hb12.mono (by simp)))); clear ho12 hb12)
            | (with_reducible refine wpList_loadItem rfl (.tmp 1) rfl W.heap.size m rfl HM12.out ?_))
          have hab := HA11.out.trans (HBB.out.mono (by simp))
          have HB12 := Lib.hid (HB11.out.trans (hab.mono HB11.out.size)); have HF12 := Lib.hid (HF11.out.keep hab); have HO12 := Lib.hid (HO11.out.keep hab); have HW12 := Lib.hid (HW11.out.keep hab)
          have hs12 := hab.size
          have ho12 := HO12'.out
          rw [repl_app2] at ho12
          have HT12 := Lib.hid ho12
          clear hab ho12 HO12' HBB HA11
          refine (HENC.out _ HB12.out).mono ?_
          rintro e w13 ⟨bs', c', a', ao13, n13, ev13, her', rfl, hf13, hev13, hb13⟩
          obtain ⟨rfl, rfl, rfl⟩ := encIR_det HER.out her'
          obtain rfl : k = n13 := by rw [← HLN.out, ← hf13.1]
          have HB13 := Lib.hid (HB12.out.trans (hb13.mono HB12.out.size)); have HF13 := Lib.hid (HF12.out.keep hb13); have HO13 := Lib.hid (HO12.out.keep hb13); have HW13 := Lib.hid (HW12.out.keep hb13); have HT13 := Lib.hid (HT12.out.keep hb13); have HD13 := Lib.hid hf13
          clear hf13 hev13 hb13 her'
          obtain ⟨gw, cw, rfl, hcw⟩ := HW13.out.cells (by omega)
          obtain ⟨gt, ct, rfl, hct⟩ := HT13.out.cells (by omega)
          have HCW := Lib.hid hcw; have HCT := Lib.hid hct
          clear hcw hct
          go_wp2_with fail
          obtain ⟨n, rfl⟩ : ∃ n, n = k := ⟨_, rfl⟩
          go_loop [15] (fun i => ∃ k : Nat, k ≤ n + 2 ∧ i = .int .i64 k) (fun i => n + 2 - (intOf i).toNat)
          case atStart => exact ⟨0, Nat.zero_le _, rfl⟩
          case round =>
            obtain ⟨k, hk, rfl⟩ := hrel
            by_cases hlt3 : k < n + 2
            · have c1 := HCW.out k hlt3
              have c2 := HCT.out k hlt3
              by_cases hlt4 : k < n
              · obtain ⟨g, rfl, hgB, hrow⟩ := HF13.out.at (by omega)
                have c3 := hrow.cell k (by simpa using hlt4)
                rw [repl_getD _ _ _ hlt4] at c3
                clear hrow
                go_wp2_with fail
                go_round
                case rel => exact ⟨k + 1, by omega, by go_num⟩
                case measure => simp [intOf]; omega
              · go_wp2_with fail
                go_round
                case rel => exact ⟨k + 1, by omega, by go_num⟩
                case measure => simp [intOf]; omega
            · obtain rfl : k = n + 2 := by omega
              go_wp2_with fail
              refine (eq6_own ao13 n bs v2 _ _ HLN.out HD13.out.rd HO13.out (by omega)).mono ?_
              rintro e w14 ⟨rfl, hb14⟩
              have HB14 := Lib.hid (HB13.out.trans (hb14.mono HB13.out.size))
              clear hb14
              go_wp2_with fail
              go_ret
              exact ⟨rfl, HB14.out⟩
end Go.Proofs.YtoophonmonojcaaDoor

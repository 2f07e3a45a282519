/- The walk of jotterlaw06.WireFaults: it answers true. -/
import Derived.Test.YtoophonmonojcaaDoorWireTail
import Derived.Deep.RegionWith
namespace Go.Proofs.YtoophonmonojcaaDoor
open Go.RowKit
attribute [-go_sem] run_eql_struct

theorem AsHit.at {w : World} {t : Addr} {x v : Value} {e : Ending} {w' : World} {B : Nat} (h : AsHit w t v e w') (hc : w.cell? t = some x) (hB : B ≤ t.block) (hle : B ≤ w.heap.size) : e = .returned (.bool true) ∧ Hid (w'.cell? t = some v ∧ Below B w w') := by
  obtain ⟨h1, w1, h2, rfl⟩ := h
  have hc1 : w1.cell? t = some x := (h2.cell (p := t) (block_lt hc)).trans hc
  exact ⟨h1, World.cell?_setCell_same _ _ _ hc1, (h2.mono hle).setCell hB _⟩

/-- What region 8 reads. -/
abbrev FS (w : World) (g : Nat) (a c : Int) : Prop := w.heap[g]? = some (faultObj a c) ∧ EType w ∧ w.cell? ⟨g, 0, none⟩ = some (.int .i64 a) ∧ w.cell? ⟨g, 1, none⟩ = some (.iface 49 (.int .i64 c))
theorem fs_of {w : World} {g : Nat} {a c : Int} (h : w.heap[g]? = some (faultObj a c)) (hE : EType w) : FS w g a c := ⟨h, hE, by simp [World.cell?, h, faultObj], by simp [World.cell?, h, faultObj]⟩
theorem fsBelow {w w' : World} {g B : Nat} {a c : Int} (h : FS w g a c) (hb : Below B w w') (hg : g < B) (hG : 3 < B) : FS w' g a c :=
  fs_of ((hb.block g hg).trans h.1) ((hb.cell (p := ⟨3, 0, none⟩) hG).trans h.2.1)
theorem fsDrew {w : World} {g : Nat} {a c : Int} (h : FS w g a c) : FS w.drew g a c := h
theorem fs_tail {w X w' : World} {g : Nat} {a c : Int} (h : FS w g a c) (hb : Below X.heap.size X w') (e4 : X.heap = w.heap) : FS w' g a c := by
  have hE : X.cell? ⟨3, 0, none⟩ = w.cell? ⟨3, 0, none⟩ := by unfold World.cell?; rw [e4]
  refine fs_of ((hb.block g (by rw [e4]; exact heap_lt h.1)).trans (by rw [e4]; exact h.1)) ?_
  exact (hb.cell (p := ⟨3, 0, none⟩) (by rw [e4]; exact block_lt h.2.1)).trans (hE.trans h.2.1)
set_option maxRecDepth 100000 in
set_option maxHeartbeats 4000000 in
theorem wireFaults_any (ao : Option Addr) (n cap : Nat) (b : List UInt8) (W : World) (hl : b.length = n) (hr : Rd W ao b) (hcap : n ≤ cap) (_hz : ao = none → cap = 0) (hb : n ≤ 9223372036854775807) (hT : Tab W) (hE : EType W) (hS : Sizes W) (hSh : Shapes W) :
    Calls Tryd.prog 21 #[.slice ao n cap] W (RetV W (.bool true)) := by
  have hv : Env W := ⟨hT, hE, hS, hSh⟩
  have HV := Lib.hid hv; have HL := Lib.hid hl; have HR := Lib.hid hr
  clear hT hE hS hSh hv hl hr
  go_enter Tryd.func21, Tryd.ntmps21
  go_wp2_with fail
  have hb0 : Below W.heap.size W (W.alloc (.cells #[.int .u8 1, .int .u8 2, .int .u8 3] 5)) := (Below.refl _ W).alloc (Nat.le_refl _) _
  have hrow : Row (W.alloc (.cells #[.int .u8 1, .int .u8 2, .int .u8 3] 5)) W.heap.size [1, 2, 3] := heap_alloc_new _ _
  have hv0 := HV.out.step hb0
  refine (decode_any_inl (some ⟨W.heap.size, 0, none⟩) 3 3 [1, 2, 3] 62 3 _ rfl rfl hrow.rd (Nat.le_refl _) (by omega) hv0.tab hv0.ety hv0.siz hv0.shp).mono ?_
  rintro e w1 ⟨g1, rfl, hN1⟩
  have HB1 := Lib.hid (hb0.trans (hN1.2.2.mono hb0.size)); have HG1 := Lib.hid hN1.2.1
  have hg1l := heap_lt hN1.2.1
  clear hN1 hrow hb0 hv0
  have HZ := Lib.hid (show MsgAt (w1.alloc (.cells #[.int .i64 0, .int .i64 0, .int .i64 0, .int .i64 0, .int .i64 0, .int .i64 0, .int .i64 0, .int .i64 0, .int .i64 0, .int .i64 0, .int .i64 0, .int .u8 0, .int .i64 0, .int .i64 0] 25)) w1.heap.size zeroM from heap_alloc_new _ _)
  go_wp2_with ((with_reducible refine wpList_storeMsg2 rfl (.tmp 3) (.tmp 9) rfl rfl w1.heap.size zeroM zeroM rfl rfl HZ.out ?_); intro w2 hm2 ht2 ho2; have HB2 := Lib.hid (ht2 _ _ HB1.out.size (HB1.out.alloc HB1.out.size _)); have HG2 := Lib.hid (show w2.heap[g1]? = some (faultObj 3 62) from (ho2 g1 (by omega)).trans ((heap_push w1 _ _ hg1l).trans HG1.out)); clear hm2 ht2 ho2)
  refine (code_fault g1 3 62 _ HG2.out (HV.out.step HB2.out).ety).mono ?_
  rintro e w3 ⟨rfl, hb3⟩
  have HB3 := Lib.hid (HB2.out.trans (hb3.mono HB2.out.size)); have HG3 := Lib.hid ((hb3.block g1 (heap_lt HG2.out)).trans HG2.out)
  clear hb3
  go_wp2_with fail
  refine (place_fault g1 3 62 _ HG3.out (HV.out.step HB3.out).ety).mono ?_
  rintro e w4 ⟨rfl, hb4⟩
  have HB4 := Lib.hid (HB3.out.trans (hb4.mono HB3.out.size))
  clear hb4 HG3 HG2 HG1 HZ
  go_wp2_with fail
  have HV4 := Lib.hid (HV.out.step HB4.out)
  rcases hd : decode b with ⟨c, a⟩ | m
  · have HD := Lib.hid hd
    clear hd
    refine (decode_any_inl ao n cap b c a _ HD.out HL.out (HR.out.step HB4.out) hcap hb HV4.out.tab HV4.out.ety HV4.out.siz HV4.out.shp).mono ?_
    rintro e w5 ⟨g5, rfl, hN5⟩
    have HB5 := Lib.hid (HB4.out.trans (hN5.2.2.mono HB4.out.size))
    have hg5l := heap_lt hN5.2.1
    have hE5 := (HV.out.step HB5.out).ety
    have hG5 : 3 < w5.heap.size := block_lt hE5
    have hfs : FS (w5.alloc (.cells #[.pointer none] 106)) g5 a c := fsBelow (fs_of hN5.2.1 hE5) ((Below.refl _ w5).alloc (Nat.le_refl _) _) hg5l hG5
    have hF : (w5.alloc (.cells #[.pointer none] 106)).cell? ⟨w5.heap.size, 0, none⟩ = some (.pointer none) := by simp
    have hfz : (w5.alloc (.cells #[.pointer none] 106)).frozen? ⟨w5.heap.size, 0, none⟩ = false := by simp
    have hb6 : Below W.heap.size W (w5.alloc (.cells #[.pointer none] 106)) := HB5.out.alloc HB5.out.size _
    have hs6 : w5.heap.size ≤ (w5.alloc (.cells #[.pointer none] 106)).heap.size := by simp
    clear hN5 hE5
    go_wp2_with fail
    have HB6 := Lib.hid hb6
    clear hb6
    have hW5 := HB5.out.size
    generalize w5.alloc (.cells #[.pointer none] 106) = w6 at hfs hF hfz HB6 hs6 ⊢
    generalize w5.heap.size = gf at hg5l hG5 hF hfz hs6 hW5 ⊢
    have HF := Lib.hid hF; have HFZ := Lib.hid hfz
    clear hF hfz
    have hbel := Below.refl gf w6
    go_region_with
      (first
       | ((with_reducible refine (as_fault_fault g5 ⟨gf, 0, none⟩ (.pointer none) _ ?_ ?_ ?_).mono ?_); (· exact HF.out); (· exact HFZ.out); (· exact hfs.2.1); intro e w' h; obtain ⟨rfl, hh⟩ := h.at (x := .pointer none) (B := gf) HF.out (Nat.le_refl _) hs6; have hcell := hh.out.1; have hbel := below_src hh.out.2; have hfs := fsBelow hfs hbel hg5l hG5; have hgf := Nat.le_trans hs6 hbel.size; clear hh)
       | ((with_reducible refine (place_fault g5 a c _ ?_ ?_).mono ?_); (· exact hfs.1); (· exact hfs.2.1); rintro e w' ⟨rfl, hb2⟩; have hcell := cell_tail hcell hb2 rfl; have hfs := fs_tail hfs hb2 rfl; have hbel := below_tail hbel hb2 rfl rfl rfl rfl hgf; have hgf := Nat.le_trans hgf hb2.size)
       | ((with_reducible refine (code_errno c _ ?_).mono ?_); (· exact hfs.2.1); rintro e w' ⟨rfl, hb2⟩; have hcell := cell_tail hcell hb2 rfl; have hfs := fs_tail hfs hb2 rfl; have hbel := below_tail hbel hb2 rfl rfl rfl rfl hgf; have hgf := Nat.le_trans hgf hb2.size)
       | ((with_reducible refine (code_fault g5 a c _ ?_ ?_).mono ?_); (· exact hfs.1); (· exact hfs.2.1); rintro e w' ⟨rfl, hb2⟩; have hcell := cell_tail hcell hb2 rfl; have hfs := fs_tail hfs hb2 rfl; have hbel := below_tail hbel hb2 rfl rfl rfl rfl hgf; have hgf := Nat.le_trans hgf hb2.size))
    all_goals
      go_wp2_with fail
      go_ret
      have hfin := HB6.out.trans (hbel.mono hW5)
      first | exact ⟨rfl, hfin⟩ | exact ⟨rfl, hfin.drew⟩ | exact ⟨rfl, hfin.drew.drew⟩
  · have HD := Lib.hid hd
    clear hd
    refine (decode_any_inr ao n cap b m _ HD.out HL.out (HR.out.step HB4.out) hcap hb HV4.out.tab HV4.out.ety HV4.out.siz HV4.out.shp).mono ?_
    rintro e w5 ⟨rfl, hb5⟩
    have HB5 := Lib.hid (HB4.out.trans (hb5.mono HB4.out.size))
    clear hb5
    go_wp2_with fail
    refine (fixed6_any _ (HV.out.step HB5.out)).mono ?_
    rintro e w6 ⟨rfl, hb6⟩
    have HB6 := Lib.hid (HB5.out.trans (hb6.mono HB5.out.size))
    clear hb6
    go_wp2
    go_ret
    exact ⟨rfl, HB6.out⟩
end Go.Proofs.YtoophonmonojcaaDoor

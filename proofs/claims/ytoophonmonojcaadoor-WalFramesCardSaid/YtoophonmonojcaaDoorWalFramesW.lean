/- The walk of jotterlaw03.WalFrames: it answers true. -/
import Derived.Test.YtoophonmonojcaaDoorShelfU
import Derived.Test.YtoophonmonojcaaDoorGOwn
import Derived.Test.YtoophonmonojcaaDoorGEq
namespace Go.Proofs.YtoophonmonojcaaDoor
open Go.RowKit

/-- The record of a payload that may be; nothing of another. -/
def frL (p : List UInt8) : List UInt8 := if 1 ≤ p.length ∧ p.length ≤ 64 then frame p else []
def frC (p : List UInt8) : Int := if 1 ≤ p.length ∧ p.length ≤ 64 then 0 else 30
theorem frL_length (p : List UInt8) : (frL p).length ≤ 72 := by
  unfold frL
  split
  · rw [frame_length]; omega
  · simp
def FrAny (w : World) (p : List UInt8) (e : Ending) (w' : World) : Prop := ∃ ao n ev, e = .returned (.tuple #[.slice ao n n, ev]) ∧ Full w' w.heap.size ao n (frL p) ∧ ErrIs w' ev (frC p) (-1) ∧ Below w.heap.size w w'
theorem frame_all (ao : Option Addr) (n cap : Nat) (p : List UInt8) (w : World) (hl : p.length = n) (hr : Rd w ao p) (hnil : ao = none → cap = 0) (hb : n ≤ 140737488355328) (ht : Tab w) :
    Calls Tryd.prog 28 #[.slice ao n cap] w (FrAny w p) := by
  by_cases h : 1 ≤ n ∧ n ≤ 64
  · refine (frame_ok ao n cap p w hl hr h.1 h.2 hnil ht).mono ?_
    rintro e w' ⟨g, rfl, hg, hrow, hb⟩
    refine ⟨_, _, _, rfl, ?_, ?_, hb⟩
    · rw [frL, if_pos (by omega)]
      exact hrow.full hg (frame_length p) (by omega)
    · rw [frC, if_pos (by omega)]
      exact ErrIs.nil _
  · refine (frame_bad ao n cap w (by omega) hb).mono ?_
    rintro e w' ⟨rfl, rfl⟩
    refine ⟨_, _, _, rfl, ?_, ?_, Below.refl _ _⟩
    · rw [frL, if_neg (by omega)]
      exact Full.nil _ _
    · rw [frC, if_neg (by omega)]
      exact .inr (.inl ⟨rfl, rfl⟩)
def RefFrAny (w : World) (p : List UInt8) (e : Ending) (w' : World) : Prop := ∃ v, e = .returned (.tuple #[v, .int .i64 (frC p), .int .i64 (-1)]) ∧ Own w' w.heap.size v (frL p) ∧ Below w.heap.size w w'
theorem refFrame_all (ao : Option Addr) (n cap : Nat) (p : List UInt8) (w : World) (hl : p.length = n) (hr : Rd w ao p) (hb : n ≤ 140737488355328) :
    Calls Tryd.prog 37 #[.slice ao n cap] w (RefFrAny w p) := by
  by_cases h : 1 ≤ n ∧ n ≤ 64
  · refine (refFrame_ok ao n cap p w hl hr h.1 h.2).mono ?_
    rintro e w' ⟨v, rfl, ho, hb⟩
    refine ⟨v, ?_, ?_, hb⟩
    · rw [frC, if_pos (by omega)]
    · rw [frL, if_pos (by omega)]; exact ho
  · refine (refFrame_bad ao n cap w (by omega) hb).mono ?_
    rintro e w' ⟨rfl, rfl⟩
    refine ⟨.slice none 0 0, ?_, ?_, Below.refl _ _⟩
    · rw [frC, if_neg (by omega)]
    · rw [frL, if_neg (by omega)]; exact World.ownsRow_nil _ _ _ _
theorem Full.upd {w w' : World} {B n : Nat} {ao : Option Addr} {l : List UInt8} {S : Nat → Prop} (h : Full w B ao n l) (hu : Upd S w w') (hd : ∀ k, rowOf ao = some k → ¬ S k) : Full w' B ao n l := by
  obtain ⟨hl, h | ⟨g, h1, h2, h3, hr⟩⟩ := h
  · exact ⟨hl, .inl h⟩
  · exact ⟨hl, .inr ⟨g, h1, h2, h3, (hu.block g (heap_lt hr) (hd g (by rw [h1]; rfl))).trans hr⟩⟩
/-- A slice that lies in blocks from lo on, below hi. -/
def Btw (lo hi k : Nat) : Prop := lo ≤ k ∧ k < hi
theorem Own.btw {w : World} {B : Nat} {v : Value} {l : List UInt8} (h : Own w B v l) (hp : l.length ≤ 140737488355328) : SlS w (Btw B w.heap.size) v l := h.slS (fun k hk => World.ownsRow.lt h k hk) hp
theorem SlS.upd {w w' : World} {T S : Nat → Prop} {v : Value} {p : List UInt8} (h : SlS w T v p) (hu : Upd S w w') (hd : ∀ k, T k → ¬ S k) : SlS w' T v p := h.same fun k hk ht => hu.block k hk (hd k ht)
/-- The laws' comparison of what was handed out with what is right. -/
theorem eq_full (ao : Option Addr) (n : Nat) (l : List UInt8) (v : Value) (w : World) (B : Nat) (T : Nat → Prop) (hf : Full w B ao n l) (hv : SlS w T v l) :
    Calls Tryd.prog 42 #[.slice ao n n, v] w (RetV w (.bool true)) := by
  obtain ⟨a2, c2, rfl, _, h3, _, _, hb⟩ := hv
  refine (law03_eq_any ao a2 n n _ c2 l l w hf.1 rfl hf.rd h3 (by rw [← hf.1]; exact hb)).mono fun e w' h => ?_
  have := h.below
  simpa [RetV] using this

set_option maxRecDepth 100000 in
set_option maxHeartbeats 4000000 in
theorem walFrames_any (ap : Option Addr) (n cap : Nat) (p : List UInt8) (aq : Option Addr) (m cap2 : Nat) (q : List UInt8) (W : World) (hl : p.length = n) (hr : Rd W ap p) (_hc : n ≤ cap) (hnil : ap = none → cap = 0) (hb : n ≤ 140737488355000) (hl2 : q.length = m) (hr2 : Rd W aq q) (_hc2 : m ≤ cap2) (hnil2 : aq = none → cap2 = 0) (hbq : m ≤ 140737488355000) (ht : Tab W) (hE : EType W) :
    Calls Tryd.prog 6 #[.slice ap n cap, .slice aq m cap2] W (RetV W (.bool true)) := by
  have HL := Lib.hid hl; have HR := Lib.hid hr; have HNIL := Lib.hid hnil; have HL2 := Lib.hid hl2; have HR2 := Lib.hid hr2; have HNIL2 := Lib.hid hnil2; have HT := Lib.hid ht; have HE := Lib.hid hE
  clear hl hr hnil hl2 hr2 hnil2 ht hE _hc _hc2
  go_enter Tryd.func6, Tryd.ntmps6
  go_wp2_with fail
  refine (fixed_any _ HT.out).mono ?_
  rintro e w0 ⟨rfl, hb0⟩
  have HB0 := Lib.hid hb0
  have hs0 := hb0.size
  clear hb0
  go_wp2_with fail
  refine (refFrame_all ap n cap p _ HL.out (HR.out.step HB0.out) (by omega)).mono ?_
  rintro e w1 ⟨vg, rfl, ho, hb1⟩
  have hs1 := hb1.size
  have HB1 := Lib.hid (HB0.out.trans (hb1.mono hs0)); have HG1 := Lib.hid (ho.btw (by have := frL_length p; omega))
  clear ho hb1
  go_wp2_with fail
  refine (refFrame_all aq m cap2 q _ HL2.out (HR2.out.step HB1.out) (by omega)).mono ?_
  rintro e w2 ⟨vh, rfl, ho, hb2⟩
  have hs2 := hb2.size
  have HB2 := Lib.hid (HB1.out.trans (hb2.mono (by omega))); have HH2 := Lib.hid (ho.btw (by have := frL_length q; omega)); have HC2 := Lib.hid hb2
  clear ho hb2
  go_wp2_with fail
  refine (law03_room_any ap n cap p _ HL.out (HR.out.step HB2.out) (by omega)).mono ?_
  rintro e w3 ⟨ga, rfl, hga, hra, hb3⟩
  have hs3 := hb3.size
  have HB3 := Lib.hid (HB2.out.trans (hb3.mono (by omega))); have HA3 := Lib.hid hra; have HC3 := Lib.hid hb3
  have hga' := heap_lt hra
  rw [show (roomy p).length = n + 3 by rw [← HL.out]; simp [roomy]]
  clear hra hb3
  go_wp2_with fail
  refine (law03_room_any aq m cap2 q _ HL2.out (HR2.out.step HB3.out) (by omega)).mono ?_
  rintro e w4 ⟨gb, rfl, hgb, hrb, hb4⟩
  have hs4 := hb4.size
  have HB4 := Lib.hid (HB3.out.trans (hb4.mono (by omega))); have HBB4 := Lib.hid hrb; have HA4 := Lib.hid (HA3.out.below hb4 hga'); have HC4 := Lib.hid hb4
  have hgb' := heap_lt hrb
  rw [show (roomy q).length = m + 3 by rw [← HL2.out]; simp [roomy]]
  clear hrb hb4
  have HRA := Lib.hid (show Rd w4 (some ⟨ga, 0, none⟩) p from by
    have := HA4.out.rd.take n
    rw [show (roomy p).take n = p by rw [← HL.out]; simp [roomy]] at this; exact this)
  have HRB := Lib.hid (show Rd w4 (some ⟨gb, 0, none⟩) q from by
    have := HBB4.out.rd.take m
    rw [show (roomy q).take m = q by rw [← HL2.out]; simp [roomy]] at this; exact this)
  go_wp2_with fail
  refine (frame_all (some ⟨ga, 0, none⟩) n (n + 3) p _ HL.out HRA.out (fun h => by cases h) (by omega) (HT.out.step HB4.out)).mono ?_
  rintro e w5 ⟨aF, nF, eF, rfl, hf, hev, hb5⟩
  have hs5 := hb5.size
  have HB5 := Lib.hid (HB4.out.trans (hb5.mono (by omega))); have HF5 := Lib.hid hf; have HEF := Lib.hid hev; have HC5 := Lib.hid hb5; have HFR := Lib.hid hf.row_ge
  clear hf hev hb5
  go_wp2_with fail
  refine (frame_all (some ⟨gb, 0, none⟩) m (m + 3) q _ HL2.out (HRB.out.step HC5.out) (fun h => by cases h) (by omega) (HT.out.step HB5.out)).mono ?_
  rintro e w6 ⟨aK, nK, eK, rfl, hf, hev, hb6⟩
  have hs6 := hb6.size
  have HB6 := Lib.hid (HB5.out.trans (hb6.mono (by omega))); have HK6 := Lib.hid hf; have HEK := Lib.hid hev; have HC6 := Lib.hid hb6; have HKR := Lib.hid hf.row_ge
  clear hf hev hb6
  have hb60 := balloc w6 (.cells #[] 5)
  have HB60 := Lib.hid hb60
  have HE0 := Lib.hid (show Own (w6.alloc (.cells #[] 5)) w6.heap.size (.slice (some ⟨w6.heap.size, 0, none⟩) 0 0) [] from ⟨rfl, .inr ⟨w6.heap.size, 0, #[], rfl, Nat.le_refl _, heap_alloc_new w6 _, Nat.le_refl _, by unfold maxLen; omega, rfl, rfl⟩⟩)
  clear hb60
  go_wp2_with (at_builtin; go_must (with_reducible refine wpList_appendB rfl (.tmp 56) (.tmp 57) rfl w6.heap.size (.slice (some ⟨w6.heap.size, 0, none⟩) 0 0) [] p rfl HE0.out ap n cap rfl HNIL.out HL.out ((HR.out.step HB6.out).step HB60.out) (by simp; omega) (by simp) ?_); intro v7 w7 ho7 hgr7; have HC7 := Lib.hid (Own.grown HE0.out HB60.out HB60.out.size hgr7); obtain ⟨a7, c7, rfl, -, -, hrd7, -, -, -⟩ := ho7.shape; have hn7 := ho7.rd.2.2.2.2; have HN7 := Lib.hid (show a7 = none → c7 = 0 from hn7); rw [List.nil_append] at hrd7; have HRD7 := Lib.hid hrd7; rw [show (([] : List UInt8) ++ p).length = n from HL.out]; clear ho7 hgr7 hrd7 hn7)
  have hs7 := HC7.out.size
  have HB7 := Lib.hid (HB6.out.trans (HC7.out.mono (by omega)))
  go_wp2_with fail
  refine (frame_all a7 n c7 p _ HL.out HRD7.out HN7.out (by omega) (HT.out.step HB7.out)).mono ?_
  rintro e w8 ⟨aT, nT, eT, rfl, hf, hev, hb8⟩
  have hs8 := hb8.size
  have HB8 := Lib.hid (HB7.out.trans (hb8.mono (by omega))); have HT8 := Lib.hid hf; have HC8 := Lib.hid hb8; have HTR := Lib.hid hf.row_ge
  clear hf hev hb8
  have HX58 := Lib.hid (HC6.out.trans ((HC7.out.mono (by omega)).trans (HC8.out.mono (by omega))))
  have HX48 := Lib.hid (HC5.out.trans (HX58.out.mono (by omega)))
  go_wp2_with fail
  refine (law03_is eF (frC p) (-1) _ (HEF.out.step HX58.out) (HE.out.step HB8.out)).mono ?_
  rintro e w9 ⟨rfl, hb9⟩
  have hs9 := hb9.size
  have HC9 := Lib.hid hb9
  clear hb9
  go_wp2_with fail
  refine (law03_is eK (frC q) (-1) _ (HEK.out.step ((HC7.out.mono (by omega)).trans ((HC8.out.mono (by omega)).trans (HC9.out.mono (by omega))))) (HE.out.step (HB8.out.trans (HC9.out.mono (by omega))))).mono ?_
  rintro e w10 ⟨rfl, hb10⟩
  have hs10 := hb10.size
  have HC10 := Lib.hid (HC9.out.trans (hb10.mono (by omega)))
  clear hb10
  go_wp2_with fail
  refine (kept_any (some ⟨ga, 0, none⟩) ap (n + 3) (n + 3) n cap (roomy p) p _ (by rw [← HL.out]; simp [roomy]) HL.out (HA4.out.rd.step (HX48.out.trans (HC10.out.mono (by omega)))) (HR.out.step (HB8.out.trans (HC10.out.mono (by omega)))) (by omega) (by omega)).mono ?_
  rintro e w11 ⟨rfl, hb11⟩
  have hs11 := hb11.size
  have HC11 := Lib.hid (HC10.out.trans (hb11.mono (by omega)))
  rw [show (roomy p == roomy p) = true by simp]
  clear hb11
  go_wp2_with fail
  refine (kept_any (some ⟨gb, 0, none⟩) aq (m + 3) (m + 3) m cap2 (roomy q) q _ (by rw [← HL2.out]; simp [roomy]) HL2.out (HBB4.out.rd.step (HX48.out.trans (HC11.out.mono (by omega)))) (HR2.out.step (HB8.out.trans (HC11.out.mono (by omega)))) (by omega) (by omega)).mono ?_
  rintro e w12 ⟨rfl, hb12⟩
  have hs12 := hb12.size
  have HC12 := Lib.hid (HC11.out.trans (hb12.mono (by omega)))
  rw [show (roomy q == roomy q) = true by simp]
  clear hb12
  go_wp2_with fail
  refine (over_any ga (n + 3) (n + 3) (roomy p) _ (by rw [← HL.out]; simp [roomy]) (HA4.out.below (HX48.out.trans (HC12.out.mono (by omega))) (by omega)) (by omega)).mono ?_
  rintro e w13 ⟨rfl, -, hgr⟩
  have hs13 := hgr.size
  have HU13 := Lib.hid (Upd.of_grown (S := fun k => k = ga ∨ k = gb) hgr (fun k hk => by cases hk; exact .inl rfl))
  have hbb13 : Row w13 gb (roomy q) := (HBB4.out.below (HX48.out.trans (HC12.out.mono (by omega))) hgb').apart hgr (fun e => by cases e; omega)
  have HBB13 := Lib.hid hbb13
  clear hgr hbb13
  go_wp2_with fail
  refine (over_any gb (m + 3) (m + 3) (roomy q) _ (by rw [← HL2.out]; simp [roomy]) HBB13.out (by omega)).mono ?_
  rintro e w14 ⟨rfl, -, hgr⟩
  have hs14 := hgr.size
  have hu14 : Upd (fun k => k = ga ∨ k = gb) w12 w14 := HU13.out.trans (Upd.of_grown (S := fun k => k = ga ∨ k = gb) hgr (fun k hk => by cases hk; exact .inr rfl)) (fun _ _ h => h)
  clear hgr
  have HX2 := Lib.hid (HC3.out.trans ((HC4.out.mono (by omega)).trans ((HX48.out.mono (by omega)).trans (HC12.out.mono (by omega)))))
  have HX1 := Lib.hid (HC2.out.trans (HX2.out.mono (by omega)))
  have hg14 := (HG1.out.upd (Upd.of_below HX1.out fun _ => False) (fun _ _ h => h)).upd hu14 (fun k hk h => by have := hk.1; have := hk.2; omega)
  have hh14 := (HH2.out.upd (Upd.of_below HX2.out fun _ => False) (fun _ _ h => h)).upd hu14 (fun k hk h => by have := hk.1; have := hk.2; omega)
  have hf14 := (HF5.out.keep (HX58.out.trans (HC12.out.mono (by omega)))).upd hu14 (fun k hk h => by have := HFR.out k hk; omega)
  have hk14 := (HK6.out.keep (HC7.out.trans ((HC8.out.mono (by omega)).trans (HC12.out.mono (by omega))))).upd hu14 (fun k hk h => by have := HKR.out k hk; omega)
  have ht14 := (HT8.out.keep HC12.out).upd hu14 (fun k hk h => by have := HTR.out k hk; omega)
  have HB14 := Lib.hid (hu14.below (fun k h => show W.heap.size ≤ k by omega) (HB8.out.trans (HC12.out.mono (by omega))) (by omega))
  have HG14 := Lib.hid hg14; have HH14 := Lib.hid hh14; have HF14 := Lib.hid hf14; have HK14 := Lib.hid hk14; have HT14 := Lib.hid ht14
  clear hu14 hg14 hh14 hf14 hk14 ht14
  go_wp2_with fail
  refine (eq_full aF nF (frL p) vg _ _ _ HF14.out HG14.out).mono ?_
  rintro e w15 ⟨rfl, hb15⟩
  have hs15 := hb15.size
  have HC15 := Lib.hid hb15
  clear hb15
  go_wp2_with fail
  refine (eq_full aK nK (frL q) vh _ _ _ (HK14.out.keep HC15.out) (HH14.out.upd (Upd.of_below HC15.out fun _ => False) (fun _ _ h => h))).mono ?_
  rintro e w16 ⟨rfl, hb16⟩
  have hs16 := hb16.size
  have HC16 := Lib.hid (HC15.out.trans (hb16.mono (by omega)))
  clear hb16
  go_wp2_with fail
  refine (eq_full aT nT (frL p) vg _ _ _ (HT14.out.keep HC16.out) (HG14.out.upd (Upd.of_below HC16.out fun _ => False) (fun _ _ h => h))).mono ?_
  rintro e w17 ⟨rfl, hb17⟩
  have hs17 := hb17.size
  have HC17 := Lib.hid (HC16.out.trans (hb17.mono (by omega)))
  clear hb17
  go_wp2_with fail
  have hsh := shelf_new w17 _ rfl
  have hsb := balloc w17 (.cells #[.slice none 0 0, .slice none 0 0, .slice none 0 0, .slice none 0 0, .int .u8 0] 64)
  obtain ⟨gs, hgs⟩ : ∃ gs, gs = w17.heap.size := ⟨_, rfl⟩
  rw [← hgs] at hsh ⊢
  revert hsh hsb
  generalize hw18 : World.alloc _ _ = w18
  intro hsb hsh
  have hs18 : w18.heap.size = gs + 1 := by rw [← hw18, hgs]; simp
  have HSH := Lib.hid hsh; have HC18 := Lib.hid (HC17.out.trans (hsb.mono (by omega)))
  clear hw18 hsh hsb
  subst hgs
  refine (list_full w18 _ _ w17.heap.size [] [] 0 _ _ _ _ HSH.out _ aF nF (frL p) (HF14.out.keep HC18.out) (fun k hk h => by have := HFR.out k hk; omega) (by rw [← HF14.out.1]; have := frL_length p; omega) (by simp)).mono ?_
  rintro e w19 ⟨rfl, es1, mk1, hes1, E1, S1, vL1, vW1, vO1, vP1, hs1x, -, -, -, hS1, hu1⟩
  have hs19 := hu1.size
  have hg19 := (HG14.out.upd (Upd.of_below HC18.out fun _ => False) (fun _ _ h => h)).upd hu1 (fun k hk h => by have := hk.1; have := hk.2; rcases h with h | h; omega; have := HFR.out k h; omega)
  have hh19 := (HH14.out.upd (Upd.of_below HC18.out fun _ => False) (fun _ _ h => h)).upd hu1 (fun k hk h => by have := hk.1; have := hk.2; rcases h with h | h; omega; have := HFR.out k h; omega)
  have hk19 := (HK14.out.keep HC18.out).upd hu1 (fun k hk h => by have := HKR.out k hk; rcases h with h | h; omega; have := HFR.out k h; omega)
  have ht19 := (HT14.out.keep HC18.out).upd hu1 (fun k hk h => by have := HTR.out k hk; rcases h with h | h; omega; have := HFR.out k h; omega)
  have HB19 := Lib.hid (hu1.below (fun k h => show W.heap.size ≤ k by rcases h with h | h; omega; have := HFR.out k h; omega) (HB14.out.trans (HC18.out.mono (by omega))) (by omega))
  have HS1 := Lib.hid (show ∀ k, S1 k → k = w17.heap.size ∨ rowOf aF = some k ∨ w18.heap.size ≤ k from hS1)
  have HG19 := Lib.hid hg19; have HH19 := Lib.hid hh19; have HK19 := Lib.hid hk19; have HT19 := Lib.hid ht19; have HSH1 := Lib.hid hs1x; have HES1 := Lib.hid (show es1.length = 2 from hes1)
  clear hg19 hh19 hk19 ht19 hu1 hS1 hs1x hes1
  go_wp2_with fail
  refine (eq_full aK nK (frL q) vh _ _ _ HK19.out HH19.out).mono ?_
  rintro e w20 ⟨rfl, hb20⟩
  have hs20 := hb20.size
  have HC20 := Lib.hid hb20
  clear hb20
  go_wp2_with fail
  refine (eq_full aT nT (frL p) vg _ _ _ (HT19.out.keep HC20.out) (HG19.out.upd (Upd.of_below HC20.out fun _ => False) (fun _ _ h => h))).mono ?_
  rintro e w21 ⟨rfl, hb21⟩
  have hs21 := hb21.size
  have HC21 := Lib.hid (HC20.out.trans (hb21.mono (by omega)))
  clear hb21
  go_wp2_with fail
  refine (list_full w21 _ _ w17.heap.size es1 [] mk1 _ _ _ _ (HSH1.out.keep HC21.out) _ aT nT (frL p) (HT19.out.keep HC21.out) (fun k hk h => by have := HTR.out k hk; rcases HS1.out k h with h | h | h; omega; have := HFR.out k h; omega; omega) (by rw [← HT14.out.1]; have := frL_length p; omega) (by have := HES1.out; omega)).mono ?_
  rintro e w22 ⟨rfl, es2, mk2, hes2, E2, S2, vL2, vW2, vO2, vP2, hs2x, -, -, -, hS2, hu2⟩
  have hs22 := hu2.size
  have hdis : ∀ k, (S1 k ∨ rowOf aT = some k) → k = w17.heap.size ∨ rowOf aF = some k ∨ rowOf aT = some k ∨ w18.heap.size ≤ k := fun k h => by
    rcases h with h | h
    · rcases HS1.out k h with h | h | h
      · exact .inl h
      · exact .inr (.inl h)
      · exact .inr (.inr (.inr h))
    · exact .inr (.inr (.inl h))
  have hdis2 : ∀ k, (S1 k ∨ rowOf aT = some k) → w4.heap.size ≤ k ∧ (k < w5.heap.size ∨ w7.heap.size ≤ k) := fun k h => by
    rcases hdis k h with h | h | h | h
    · omega
    · have := HFR.out k h; omega
    · have := HTR.out k h; omega
    · omega
  have hg22 := (HG19.out.upd (Upd.of_below HC21.out fun _ => False) (fun _ _ h => h)).upd hu2 (fun k hk h => by have := hk.1; have := hk.2; have := hdis2 k h; omega)
  have hh22 := (HH19.out.upd (Upd.of_below HC21.out fun _ => False) (fun _ _ h => h)).upd hu2 (fun k hk h => by have := hk.1; have := hk.2; have := hdis2 k h; omega)
  have hk22 := (HK19.out.keep HC21.out).upd hu2 (fun k hk h => by have := HKR.out k hk; have := hdis2 k h; omega)
  have HB22 := Lib.hid (hu2.below (fun k h => show W.heap.size ≤ k by have := hdis2 k h; omega) (HB19.out.trans (HC21.out.mono (by omega))) (by omega))
  have HS2 := Lib.hid (show ∀ k, S2 k → w4.heap.size ≤ k ∧ (k < w5.heap.size ∨ w7.heap.size ≤ k) from fun k h => by
    rcases hS2 k h with h | h | h
    · exact hdis2 k (.inl h)
    · exact hdis2 k (.inr h)
    · omega)
  have HG22 := Lib.hid hg22; have HH22 := Lib.hid hh22; have HK22 := Lib.hid hk22; have HSH2 := Lib.hid hs2x; have HES2 := Lib.hid (show es2.length = 4 by have := HES1.out; omega)
  clear hg22 hh22 hk22 hu2 hS2 hs2x hes2 hdis hdis2
  go_wp2_with fail
  refine (eq_full aK nK (frL q) vh _ _ _ HK22.out HH22.out).mono ?_
  rintro e w23 ⟨rfl, hb23⟩
  have hs23 := hb23.size
  have HC23 := Lib.hid hb23
  clear hb23
  go_wp2_with fail
  refine (list_full w23 _ _ w17.heap.size es2 [] mk2 _ _ _ _ (HSH2.out.keep HC23.out) _ aK nK (frL q) (HK22.out.keep HC23.out) (fun k hk h => by have := HKR.out k hk; have := HS2.out k h; omega) (by rw [← HK22.out.1]; have := frL_length q; omega) (by have := HES2.out; omega)).mono ?_
  rintro e w24 ⟨rfl, es3, mk3, hes3, E3, S3, vL3, vW3, vO3, vP3, hs3x, -, -, -, -, hu3⟩
  have hs24 := hu3.size
  have hdis3 : ∀ k, (S2 k ∨ rowOf aK = some k) → w4.heap.size ≤ k := fun k h => by
    rcases h with h | h
    · exact (HS2.out k h).1
    · have := HKR.out k h; omega
  have hg24 := (HG22.out.upd (Upd.of_below HC23.out fun _ => False) (fun _ _ h => h)).upd hu3 (fun k hk h => by have := hk.1; have := hk.2; have := hdis3 k h; omega)
  have HB24 := Lib.hid (hu3.below (fun k h => show W.heap.size ≤ k by have := hdis3 k h; omega) (HB22.out.trans (HC23.out.mono (by omega))) (by omega))
  have HG24 := Lib.hid hg24; have HSH3 := Lib.hid hs3x; have HES3 := Lib.hid (show es3.length = 6 by have := HES2.out; omega)
  clear hg24 hu3 hs3x hes3 hdis3
  go_wp2_with fail
  refine (frame_all ap n cap p _ HL.out (HR.out.step HB24.out) HNIL.out (by omega) (HT.out.step HB24.out)).mono ?_
  rintro e w25 ⟨aA, nA, eA, rfl, hf, hev, hb25⟩
  have hs25 := hb25.size
  have HC25 := Lib.hid hb25; have HF25 := Lib.hid hf; have HE25 := Lib.hid hev; have HB25 := Lib.hid (HB24.out.trans (hb25.mono (by omega)))
  clear hf hev hb25
  go_wp2_with fail
  refine (eq_full aA nA (frL p) vg _ _ _ HF25.out (HG24.out.upd (Upd.of_below HC25.out fun _ => False) (fun _ _ h => h))).mono ?_
  rintro e w26 ⟨rfl, hb26⟩
  have hs26 := hb26.size
  have HC26 := Lib.hid hb26; have HB26 := Lib.hid (HB25.out.trans (hb26.mono (by omega)))
  clear hb26
  go_wp2_with fail
  refine (law03_is eA (frC p) (-1) _ (HE25.out.step HC26.out) (HE.out.step HB26.out)).mono ?_
  rintro e w27 ⟨rfl, hb27⟩
  have hs27 := hb27.size
  have HC27 := Lib.hid (HC25.out.trans ((HC26.out.mono (by omega)).trans (hb27.mono (by omega)))); have HB27 := Lib.hid (HB26.out.trans (hb27.mono (by omega)))
  clear hb27
  go_wp2_with fail
  refine (untouched_any w27 E3 S3 w17.heap.size es3 [] mk3 vL3 vW3 vO3 vP3 (HSH3.out.keep HC27.out) (by have := HES3.out; omega) (by simp) (fun i hi => by simp at hi)).mono ?_
  intro e w28 h28
  obtain ⟨rfl, hb28⟩ := h28.below
  have HB28 := Lib.hid (HB27.out.trans (hb28.mono (by omega)))
  clear h28 hb28
  go_wp2_with fail
  go_ret
  exact ⟨rfl, HB28.out⟩
end Go.Proofs.YtoophonmonojcaaDoor

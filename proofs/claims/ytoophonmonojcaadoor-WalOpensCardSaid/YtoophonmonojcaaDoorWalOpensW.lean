/- The walk of jotterlaw03.WalOpens: it answers true. -/
import Derived.Test.YtoophonmonojcaaDoorLogApp
import Derived.Test.YtoophonmonojcaaDoorGEq
namespace Go.Proofs.YtoophonmonojcaaDoor
open Go.RowKit

theorem OwnRows.rowsS {w : World} {B : Nat} {v : Value} {ps : List (List UInt8)} (h : OwnRows w 0 B v ps) (hp : ∀ p ∈ ps, p.length ≤ 140737488355328) : RowsS w (NewBytes B w) v ps := by
  obtain ⟨vs, h1, h2, h3⟩ := h
  refine ⟨vs, ⟨h1.1, ?_⟩, h2, fun i x p hx hq => (h3 i x p hx hq).slS (hp p (List.mem_of_getElem? hq))⟩
  rcases h1.2 with h | ⟨g, c, cur, e, _, r⟩
  · exact .inl h
  · exact .inr ⟨g, c, cur, e, Nat.zero_le _, r⟩
theorem RowsS.upd {w w' : World} {E T : Nat → Prop} {v : Value} {ps : List (List UInt8)} (h : RowsS w E v ps) (hu : Upd T w w') (hE : ∀ k, E k → ¬ T k) (hv : ∀ k, v.ownBlock = some k → ¬ T k) : RowsS w' E v ps :=
  h.same (fun k hk he => hu.block k hk (hE k he)) (fun k hk => hu.block k (h.lt k hk) (hv k hk))
theorem Rd.upd {w w' : World} {T : Nat → Prop} {ao : Option Addr} {l : List UInt8} (h : Rd w ao l) (hu : Upd T w w') (hd : ∀ a : Addr, ao = Option.some a → ¬ T a.block) : Rd w' ao l := by
  intro i hi
  obtain ⟨b, off, e, hc⟩ := h i hi
  exact ⟨b, off, e, (World.cell?_of_block (w := w) (a := ⟨b, off + i, none⟩) (hu.block b (block_lt hc) (hd _ e))).trans hc⟩
theorem ends_le : ∀ (ps : List (List UInt8)) (a i : Nat), (endsL a ps).getD i 0 ≤ a + tot ps
  | [], a, i => by simp [endsL]
  | p :: r, a, 0 => by simp [endsL, tot]; omega
  | p :: r, a, i + 1 => by
    have h := ends_le r (a + p.length + 8) i
    have e : (endsL a (p :: r)).getD (i + 1) 0 = (endsL (a + p.length + 8) r).getD i 0 := by simp [endsL, List.getD_eq_getElem?_getD]
    rw [e, tot]; omega

theorem RdRows.front {w : World} {ao : Option Addr} {ps : List (List UInt8)} {q : List UInt8} (h : RdRows w ao (ps ++ [q])) : RdRows w ao ps := by
  intro i hi
  obtain ⟨b, off, x, e, hc, hs⟩ := h i (by simp; omega)
  refine ⟨b, off, x, e, hc, ?_⟩
  have e2 : (ps ++ [q]).getD i [] = ps.getD i [] := by simp [List.getD_eq_getElem?_getD, List.getElem?_append_left hi]
  rw [e2] at hs; exact hs
theorem ends_front {ps : List (List UInt8)} {q : List UInt8} {i : Nat} (hi : i < ps.length) : (endsL 0 (ps ++ [q])).getD i 0 ≤ tot ps := by
  rw [endsL_snoc, List.getD_eq_getElem?_getD, List.getElem?_append_left (by rw [endsL_length]; exact hi), ← List.getD_eq_getElem?_getD]
  have := ends_le ps 0 i; omega
theorem ends_end {ps : List (List UInt8)} {q : List UInt8} : (endsL 0 (ps ++ [q])).getD ps.length 0 = tot ps + q.length + 8 := by
  rw [endsL_snoc, List.getD_eq_getElem?_getD, List.getElem?_append_right (by rw [endsL_length]; exact Nat.le_refl _), endsL_length]
  simp

set_option linter.unusedSimpArgs false in
set_option maxRecDepth 100000 in
set_option maxHeartbeats 4000000 in
theorem walOpens_any (ab : Option Addr) (nb cb : Nat) (b : List UInt8) (ap : Option Addr) (np cp : Nat) (p : List UInt8) (W : World) (hl : b.length = nb) (hr : Rd W ab b) (_hc : nb ≤ cb) (_hnil : ab = none → cb = 0) (hb : nb ≤ 140737488355000) (hl2 : p.length = np) (hr2 : Rd W ap p) (_hc2 : np ≤ cp) (hnil2 : ap = none → cp = 0) (hbp : np ≤ 140737488355000) (ht : Tab W) (hE : EType W) :
    Calls Tryd.prog 14 #[.slice ab nb cb, .slice ap np cp] W (RetV W (.bool true)) := by
  have HL := Lib.hid hl; have HR := Lib.hid hr; have HL2 := Lib.hid hl2; have HR2 := Lib.hid hr2; have HNIL2 := Lib.hid hnil2; have HT := Lib.hid ht; have HE := Lib.hid hE
  clear hl hr hl2 hr2 hnil2 ht hE _hc _hc2 _hnil
  by_cases hbig : 262144 < nb
  · go_enter Tryd.func14, Tryd.ntmps14
    go_wp2_with fail
    refine (from_full ab nb cb W hbig (by omega)).mono ?_
    rintro e w1 ⟨rfl, rfl⟩
    go_wp2_with fail
    go_ret
    exact ⟨ret_bool (by simp; omega), Below.refl _ _⟩
  · go_enter Tryd.func14, Tryd.ntmps14
    go_wp2_with fail
    refine (from_any ab nb cb b W HL.out HR.out (by omega)).mono ?_
    rintro e w1 ⟨gd, v0, rfl, hd, hgd, hb1⟩
    have hs1 := hb1.size
    have HD1 := Lib.hid hd; have HB1 := Lib.hid hb1
    clear hd hb1
    go_wp2_with fail
    refine (lopen_any W.heap.size gd _ v0 b w1 HD1.out (HT.out.step HB1.out) (HE.out.step HB1.out)).mono ?_
    rintro e w2 ⟨gl, lv, ev, E, S, v1, er, rfl, hlg, hd2, hS, hu2, ho2, -, hdis⟩
    have hs2 := hu2.size
    have hfs := fits_scan b
    obtain ⟨ps, hps⟩ : ∃ ps, ps = (scan b).1 := ⟨_, rfl⟩
    rw [← hps] at hlg hfs
    obtain ⟨J, hJ⟩ : ∃ J, J = joined ps := ⟨_, rfl⟩
    have hJ2 : b.take (scan b).2.1 = J := by rw [hJ]; exact hfs.2.1.symm
    have hJl : J.length = (scan b).2.1 := by rw [← hJ2, List.length_take]; have := hfs.2.2.1; omega
    rw [hJ2, Nat.min_eq_right hfs.2.2.1, ← hJl] at hd2
    have hJm := hd2.max
    have htot : tot ps = J.length := by rw [tot_joined, hJ]
    have hnps : ps.length ≤ 262144 := by have := length_le_tot ps; omega
    have hfit : Fits ps := hfs.1
    have hdge : ∀ k, DiskIn gd v0 k → W.heap.size ≤ k := fun k hk => by
      rcases hk with rfl | hk
      · exact hgd
      · exact (World.ownsRow.lt HD1.out.own k hk).1
    have hdlt1 := hd2.lt
    have HB2 := Lib.hid (hu2.below hdge HB1.out hs1)
    have HLG := Lib.hid hlg; have HD2 := Lib.hid hd2; have HS := Lib.hid hS; have HDIS := Lib.hid hdis; have HFIT := Lib.hid hfit; have HJ := Lib.hid hJ; have HTOT := Lib.hid htot; have HDLT := Lib.hid hdlt1
    clear hlg hd2 hS hu2 hdis hfit hJ hfs hJ2 hJl hps hdge htot hdlt1 ho2
    go_wp2_with fail
    refine (all_any E S gl gd lv ev ps ps w2 HLG.out (by omega) (fun q hq => by have := (HFIT.out q hq).2; omega)).mono ?_
    rintro e w3 ⟨vp, rfl, hown, hb3⟩
    have hs3 := hb3.size
    have hrw := hown.rowsS (fun q hq => by have := (HFIT.out q hq).2; omega)
    have hvp : ∀ k, vp.ownBlock = some k → w2.heap.size ≤ k ∧ k < w3.heap.size := fun k hk => by obtain ⟨vs, h1, -⟩ := hown; exact World.ownsRow.lt h1 k hk
    obtain ⟨aP, cP, rfl, hcP, hrr, hnP⟩ := hrw.read
    have HRW := Lib.hid hrw; have HVP := Lib.hid hvp; have HRR := Lib.hid hrr; have HB3 := Lib.hid (HB2.out.trans (hb3.mono HB2.out.size)); have HC3 := Lib.hid hb3
    clear hown hrw hvp hrr hnP hb3
    obtain ⟨n, hn⟩ : ∃ n, n = ps.length := ⟨_, rfl⟩
    rw [← hn] at hcP hnps ⊢
    have HN := Lib.hid hn.symm
    clear hn
    go_wp2_with fail
    refine (joined_any aP n cP ps w3 HN.out HRR.out HFIT.out (by omega) (HT.out.step HB3.out)).mono ?_
    rintro e w4 ⟨vf, rfl, hof, hb4⟩
    have hs4 := hb4.size
    rw [← HJ.out] at hof
    obtain ⟨aF, cF, rfl, -, -, hrF, -, -, -⟩ := hof.shape
    obtain ⟨jl, hjl⟩ : ∃ jl, jl = J.length := ⟨_, rfl⟩
    rw [← hjl] at hJm ⊢
    have HJL := Lib.hid hjl
    have HRF := Lib.hid hrF; have HB4 := Lib.hid (HB3.out.trans (hb4.mono HB3.out.size)); have HC4 := Lib.hid (HC3.out.trans (hb4.mono hs3)); have HY4 := Lib.hid hb4
    clear hof hrF hb4 hjl
    go_wp2_with fail
    refine (bytes_any W.heap.size gd _ v1 J w4 (HD2.out.keep HC4.out)).mono ?_
    rintro e w5 ⟨g5, rfl, hg5, hrow5, hb5⟩
    have hs5 := hb5.size
    have HROW5 := Lib.hid hrow5; have HB5 := Lib.hid (HB4.out.trans (hb5.mono HB4.out.size)); have HC5 := Lib.hid (HC4.out.trans (hb5.mono HC4.out.size)); have HX5 := Lib.hid hb5; have HY5 := Lib.hid (HY4.out.trans (hb5.mono HY4.out.size))
    clear hrow5 hb5
    rw [← HJL.out]
    go_wp2_with fail
    refine (law03_eq_any (some ⟨g5, 0, none⟩) aF jl jl jl cF J J w5 HJL.out.symm HJL.out.symm HROW5.out.rd (HRF.out.step HX5.out) (by omega)).mono ?_
    intro e w6 h6
    obtain ⟨rfl, hb6⟩ := h6.below
    rw [show (J == J) = true by simp]
    have hs6 := hb6.size
    have HB6 := Lib.hid (HB5.out.trans (hb6.mono HB5.out.size)); have HC6 := Lib.hid (HC5.out.trans (hb6.mono HC5.out.size)); have HY6 := Lib.hid (HY5.out.trans (hb6.mono HY5.out.size))
    clear h6 hb6
    go_wp2_with fail
    refine (count_any E S gl gd lv ev ps ps w6 (HLG.out.keep HC6.out)).mono ?_
    rintro e w7 ⟨rfl, rfl⟩
    rw [HN.out]
    go_wp2_with fail
    refine (lsynced_any E S W.heap.size gl gd J.length v1 lv ev J ps w6 (HLG.out.keep HC6.out) (HD2.out.keep HC6.out) (by have := HN.out; omega) n (by have := HN.out; omega) (fun i hi => by have := ends_le ps 0 i; have := HTOT.out; omega) (fun h => by have := HN.out; omega) (fun i hi => by have := ends_le ps 0 i; have := HTOT.out; have := HJL.out; omega)).mono ?_
    intro e w7 h7
    obtain ⟨rfl, hb7⟩ := h7.below
    have hs7 := hb7.size
    have HB7 := Lib.hid (HB6.out.trans (hb7.mono HB6.out.size)); have HC7 := Lib.hid (HC6.out.trans (hb7.mono HC6.out.size)); have HY7 := Lib.hid (HY6.out.trans (hb7.mono HY6.out.size))
    clear h7 hb7
    have hw72 : IntKind.i64.wrap ((jl : Int) + 72) = (jl : Int) + 72 := wrap_small _ (by omega) (by omega)
    rcases Int.lt_or_le 262144 ((jl : Int) + 72) with hroom | hroom
    · go_wp2_with fail
      go_ret
      exact ⟨rfl, HB7.out⟩
    · have hdb : ∀ k, DiskIn gd v1 k → W.heap.size ≤ k ∧ k < w2.heap.size := fun k hk => ⟨by
        rcases hk with rfl | hk
        · exact hgd
        · exact (World.ownsRow.lt HD2.out.own k hk).1, HDLT.out k hk⟩
      have hsb : ∀ k, (S k ∨ DiskIn gd v1 k) → W.heap.size ≤ k ∧ k < w2.heap.size := fun k hk => by
        rcases hk with hk | hk
        · have := HS.out k hk; have := HLG.out.lt k hk; omega
        · exact hdb k hk
      have HDB := Lib.hid hdb; have HSB := Lib.hid hsb
      clear hdb hsb
      have hcase : (1 ≤ np ∧ np ≤ 64) ∨ np < 1 ∨ 64 < np := by omega
      rcases hcase with ⟨h1, h64⟩ | h1 | h1
      · have HQR := Lib.hid (HR2.out.step HB7.out); have HQL := HL2; have HQN := HNIL2; have HB8 := HB7; have HC8 := HC7; have HY8 := HY7
        have HQW := Lib.hid (show ∀ a : Addr, ap = some a → a.block < W.heap.size ∨ (w3.heap.size ≤ a.block ∧ a.block < w7.heap.size) from fun a ha => by
          obtain ⟨b, off, e, hb, _⟩ := HR2.out.some (by have := HL2.out; omega)
          rw [ha] at e; cases e; exact .inl hb)
        have hs8 : w3.heap.size ≤ w7.heap.size := HY8.out.size
        have hr2 : ¬ (262144 : Int) < (jl : Int) + 72 := by omega
        have hnp1 : ¬ (np : Int) < 1 := by omega
        have hnp2 : ¬ (64 : Int) < (np : Int) := by omega
        clear hroom
        repeat (first | go_values | go_skip | go_guarded | go_step | go_upon | go_back | (simp only [Int.not_lt, Int.not_le]; go_simp))
        refine (lappend_any w7 E S W.heap.size gl gd J.length v1 lv ev J ps (HLG.out.keep HC8.out) (HD2.out.keep HC8.out) HDIS.out HB8.out.size _ _ _ p HQL.out HQR.out HQN.out (fun a ha hd => by have := HQW.out a ha; have := HDB.out _ hd; omega) (by omega) (by omega) (by have := HJL.out; omega) (by have := HN.out; omega) (by have := HTOT.out; have := HJL.out; omega) (HT.out.step HB8.out)).mono ?_
        rintro e w9 ⟨rfl, E9, S9, lv9, ev9, v9, hl9, hd9, -, hS9, ho9, hu9, hdis9⟩
        have hs9 := hu9.size
        have HB9 := Lib.hid (hu9.below (fun k hk => (HSB.out k hk).1) HB8.out HB8.out.size)
        have HRW9 := Lib.hid ((HRW.out.upd (Upd.of_below HY8.out fun _ => False) (fun _ _ h => h) (fun _ _ h => h)).upd hu9 (fun k hk h => by have := hk.1; have := HSB.out k h; omega) (fun k hk h => by have := HVP.out k hk; have := HSB.out k h; omega))
        have HQR9 := Lib.hid (HQR.out.upd hu9 (fun a ha h => by have := HQW.out a ha; have := HSB.out _ h; omega))
        have HL9 := Lib.hid hl9; have HD9 := Lib.hid hd9
        have HDB9 := Lib.hid (show ∀ k, DiskIn gd v9 k → W.heap.size ≤ k ∧ (k < w2.heap.size ∨ w7.heap.size ≤ k) from fun k hk => by
          rcases hk with rfl | hk
          · have := HDB.out _ (.inl rfl); omega
          · rcases ho9 with h | h
            · have := HDB.out k (.inr (by rw [← h]; exact hk)); omega
            · have := h k hk; have := HB8.out.size; omega)
        clear hl9 hd9 hS9 ho9 hu9 hdis9
        repeat (first | go_values | go_skip | go_guarded | go_step | go_upon | go_back | (simp only [Int.not_lt, Int.not_le]; go_simp))
        refine (count_any E9 S9 gl gd lv9 ev9 (ps ++ [p]) (ps ++ [p]) w9 HL9.out).mono ?_
        rintro e w10 ⟨rfl, rfl⟩
        rw [show (((ps ++ [p]).length : Nat) : Int) = (n : Int) + 1 by have := HN.out; simp; omega]
        repeat (first | go_values | go_skip | go_guarded | go_step | go_upon | go_back | (simp only [Int.not_lt, Int.not_le]; go_simp))
        refine (lsynced_any E9 S9 W.heap.size gl gd J.length v9 lv9 ev9 (J ++ frame p) (ps ++ [p]) w9 HL9.out HD9.out (by have := HN.out; simp; omega) n (by have := HN.out; simp; omega) (fun i hi => by have := ends_front (ps := ps) (q := p) (i := i) (by have := HN.out; omega); have := HTOT.out; omega) (fun _ => by have h := ends_end (ps := ps) (q := p); rw [HN.out] at h; rw [h]; have := HTOT.out; omega) (fun i hi => by have := ends_le (ps ++ [p]) 0 i; rw [tot_snoc] at this; have := HTOT.out; have := HJL.out; have := HQL.out; omega)).mono ?_
        intro e w10 h10
        obtain ⟨rfl, hb10⟩ := h10.below
        have hs10 := hb10.size
        have HC10 := Lib.hid hb10; have HB10 := Lib.hid (HB9.out.trans (hb10.mono HB9.out.size))
        clear h10 hb10
        repeat (first | go_values | go_skip | go_guarded | go_step | go_upon | go_back | (simp only [Int.not_lt, Int.not_le]; go_simp))
        refine (lopen_any W.heap.size gd J.length v9 (J ++ frame p) w10 (HD9.out.keep HC10.out) (HT.out.step HB10.out) (HE.out.step HB10.out)).mono ?_
        have hfit2 : Fits (ps ++ [p]) := fun x hx => by
          rcases List.mem_append.1 hx with h | h
          · exact HFIT.out x h
          · simp at h; subst h; have := HQL.out; omega
        have hsc := scan_joined (ps ++ [p]) hfit2
        rw [joined_snoc, ← HJ.out] at hsc
        unfold OpenPost
        rw [hsc]
        simp only
        rintro e w11 ⟨gl2, lv2, ev2, E2, S2, v10, er2, rfl, hlg2, hd10, hS2, hu10, ho10, her, hdis2⟩
        rcases her with ⟨rfl, -⟩ | ⟨h0, -⟩
        rotate_left
        · exact absurd rfl h0
        rw [List.take_length] at hd10
        have hs11 := hu10.size
        have HB11 := Lib.hid (hu10.below (fun k hk => (HDB9.out k hk).1) HB10.out HB10.out.size)
        have HRW11 := Lib.hid ((HRW9.out.upd (Upd.of_below HC10.out fun _ => False) (fun _ _ h => h) (fun _ _ h => h)).upd hu10 (fun k hk h => by
          have h1 := hk.1; obtain ⟨_, cs, hc⟩ := hk; have := heap_lt hc; have := HDB9.out k h; omega) (fun k hk h => by have := HVP.out k hk; have := HDB9.out k h; omega))
        have HQR11 := Lib.hid ((HQR9.out.step HC10.out).upd hu10 (fun a ha h => by have := HQW.out a ha; have := HDB9.out _ h; omega))
        have HLG2 := Lib.hid hlg2; have HD10 := Lib.hid hd10; have HFIT2 := Lib.hid hfit2
        clear hlg2 hd10 hS2 hu10 ho10 hdis2 hsc hfit2
        repeat (first | go_values | go_skip | go_guarded | go_step | go_upon | go_back | (simp only [Int.not_lt, Int.not_le]; go_simp))
        refine (all_any E2 S2 gl2 gd lv2 ev2 (ps ++ [p]) (ps ++ [p]) w11 HLG2.out (by have := HN.out; simp; omega) (fun x hx => by have := (HFIT2.out x hx).2; omega)).mono ?_
        rintro e w12 ⟨vq, rfl, hown, hb12⟩
        have hs12 := hb12.size
        have hrr12 := (hown.rowsS (fun x hx => by have := (HFIT2.out x hx).2; omega)).read
        obtain ⟨aQ, cQ, rfl, hcQ, hnQ, hatQ⟩ := hown.shape
        have hlq : (ps ++ [p]).length = n + 1 := by have := HN.out; simp; omega
        have hrq : RdRows w12 aQ (ps ++ [p]) := by
          obtain ⟨a', c', e', -, hr', -⟩ := hrr12
          cases e'; exact hr'
        have hrp : RdRows w12 aP ps := by
          obtain ⟨a', c', e', -, hr', -⟩ := (HRW11.out.upd (Upd.of_below hb12 fun _ => False) (fun _ _ h => h) (fun _ _ h => h)).read
          have : aP = a' := by injection e'
          rw [this]; exact hr'
        have HRQ := Lib.hid hrq.front; have HRP := Lib.hid hrp; have HC12 := Lib.hid hb12
        have HB12 := Lib.hid (HB11.out.trans (hb12.mono HB11.out.size))
        cases aQ with
        | none => have := (hnQ rfl).1; simp at this
        | some a =>
          obtain ⟨g, rfl, -, cur, -, hel⟩ := hatQ a rfl
          obtain ⟨x, hx, hxe⟩ := hel n p (by rw [← HN.out]; simp)
          obtain ⟨ax, cx, rfl, -, hrx, -, -⟩ := hxe
          have HRX := Lib.hid hrx
          rw [hlq] at hcQ ⊢
          clear hown hrr12 hnQ hatQ hlq hrq hrp hb12 hel hrx
          repeat (first | go_values | go_skip | go_guarded | go_step | go_upon | go_back | (simp only [Int.not_lt, Int.not_le]; go_simp))
          refine (eqAll_any (some ⟨g, 0, none⟩) aP n cQ n cP ps ps w12 HN.out HN.out HRQ.out HRP.out (by omega) (fun y hy => by have := (HFIT.out y hy).2; omega)).mono ?_
          intro e w13 h13
          obtain ⟨rfl, hb13⟩ := h13.below
          rw [show (ps == ps) = true by simp]
          have hx13 : w13.cell? ⟨g, n, none⟩ = some (.slice ax p.length cx) := (World.cell?_of_block (w := w12) (a := ⟨g, n, none⟩) (hb13.block g (block_lt hx))).trans hx
          have HB13 := Lib.hid (HB12.out.trans (hb13.mono HB12.out.size)); have HC13 := Lib.hid (HC12.out.trans (hb13.mono HC12.out.size)); have HX13 := Lib.hid hb13
          have hpl : p.length ≤ 64 := by have := HQL.out; omega
          clear h13 hb13 hx
          repeat (first | go_values | go_skip | go_guarded | go_step | go_upon | go_back | (simp only [Int.not_lt, Int.not_le]; go_simp))
          refine (law03_eq_any ax _ p.length cx _ _ p p w13 rfl HQL.out (HRX.out.step HX13.out) (HQR11.out.step HC13.out) (by omega)).mono ?_
          intro e w14 h14
          obtain ⟨rfl, hb14⟩ := h14.below
          rw [show (p == p) = true by simp]
          have HB14 := Lib.hid (HB13.out.trans (hb14.mono HB13.out.size)); have HC14 := Lib.hid (HC13.out.trans (hb14.mono HC13.out.size))
          clear h14 hb14
          repeat (first | go_values | go_skip | go_guarded | go_step | go_upon | go_back | (simp only [Int.not_lt, Int.not_le]; go_simp))
          refine (size_any W.heap.size gd _ v10 (J ++ frame p) w14 (HD10.out.keep HC14.out)).mono ?_
          rintro e w15 ⟨rfl, rfl⟩
          rw [show (((J ++ frame p).length : Nat) : Int) = (jl : Int) + (p.length : Int) + 8 by have := HJL.out; rw [List.length_append, frame_length]; omega, HQL.out]
          repeat (first | go_values | go_skip | go_guarded | go_step | go_upon | go_back | (simp only [Int.not_lt, Int.not_le]; go_simp))
          go_ret
          exact ⟨ret_bool (by first | rfl | simp | (go_num) | (simp; omega)), HB14.out⟩
      · have hr2 : ¬ (262144 : Int) < (jl : Int) + 72 := by omega
        have hrow8 : Row (w7.alloc (.cells #[.int .u8 65] 5)) w7.heap.size [65] := row_new w7 _ [65] rfl
        have hb8 := balloc w7 (.cells #[.int .u8 65] 5)
        clear hroom
        repeat (first | go_values | go_skip | go_guarded | go_step | go_upon | go_back | (simp only [Int.not_lt, Int.not_le]; go_simp))
        revert hrow8 hb8
        generalize World.alloc _ _ = w8
        intro hrow8 hb8
        have hs78 : w3.heap.size ≤ w7.heap.size := HY7.out.size
        have hlt8 : w7.heap.size < w8.heap.size := hrow8.lt
        have HB8 := Lib.hid (HB7.out.trans (hb8.mono HB7.out.size)); have HC8 := Lib.hid (HC7.out.trans (hb8.mono HC7.out.size)); have HY8 := Lib.hid (HY7.out.trans (hb8.mono HY7.out.size))
        have hs8 : w3.heap.size ≤ w8.heap.size := HY8.out.size
        have HQW := Lib.hid (show ∀ a : Addr, (some ⟨w7.heap.size, 0, none⟩ : Option Addr) = some a → a.block < W.heap.size ∨ (w3.heap.size ≤ a.block ∧ a.block < w8.heap.size) from fun a ha => by cases ha; exact .inr ⟨hs78, hlt8⟩)
        have HQN := Lib.hid (show (some ⟨w7.heap.size, 0, none⟩ : Option Addr) = none → 1 = 0 from fun h => by cases h)
        obtain ⟨p, HQL, HQR⟩ : ∃ p : List UInt8, Hid (p.length = 1) ∧ Hid (Rd w8 (some ⟨w7.heap.size, 0, none⟩) p) := ⟨[65], rfl, hrow8.rd⟩
        clear hrow8 hb8
        refine (lappend_any w8 E S W.heap.size gl gd J.length v1 lv ev J ps (HLG.out.keep HC8.out) (HD2.out.keep HC8.out) HDIS.out HB8.out.size _ _ _ p HQL.out HQR.out HQN.out (fun a ha hd => by have := HQW.out a ha; have := HDB.out _ hd; omega) (by omega) (by omega) (by have := HJL.out; omega) (by have := HN.out; omega) (by have := HTOT.out; have := HJL.out; omega) (HT.out.step HB8.out)).mono ?_
        rintro e w9 ⟨rfl, E9, S9, lv9, ev9, v9, hl9, hd9, -, hS9, ho9, hu9, hdis9⟩
        have hs9 := hu9.size
        have HB9 := Lib.hid (hu9.below (fun k hk => (HSB.out k hk).1) HB8.out HB8.out.size)
        have HRW9 := Lib.hid ((HRW.out.upd (Upd.of_below HY8.out fun _ => False) (fun _ _ h => h) (fun _ _ h => h)).upd hu9 (fun k hk h => by have := hk.1; have := HSB.out k h; omega) (fun k hk h => by have := HVP.out k hk; have := HSB.out k h; omega))
        have HQR9 := Lib.hid (HQR.out.upd hu9 (fun a ha h => by have := HQW.out a ha; have := HSB.out _ h; omega))
        have HL9 := Lib.hid hl9; have HD9 := Lib.hid hd9
        have HDB9 := Lib.hid (show ∀ k, DiskIn gd v9 k → W.heap.size ≤ k ∧ (k < w2.heap.size ∨ w8.heap.size ≤ k) from fun k hk => by
          rcases hk with rfl | hk
          · have := HDB.out _ (.inl rfl); omega
          · rcases ho9 with h | h
            · have := HDB.out k (.inr (by rw [← h]; exact hk)); omega
            · have := h k hk; have := HB8.out.size; omega)
        clear hl9 hd9 hS9 ho9 hu9 hdis9
        repeat (first | go_values | go_skip | go_guarded | go_step | go_upon | go_back | (simp only [Int.not_lt, Int.not_le]; go_simp))
        refine (count_any E9 S9 gl gd lv9 ev9 (ps ++ [p]) (ps ++ [p]) w9 HL9.out).mono ?_
        rintro e w10 ⟨rfl, rfl⟩
        rw [show (((ps ++ [p]).length : Nat) : Int) = (n : Int) + 1 by have := HN.out; simp; omega]
        repeat (first | go_values | go_skip | go_guarded | go_step | go_upon | go_back | (simp only [Int.not_lt, Int.not_le]; go_simp))
        refine (lsynced_any E9 S9 W.heap.size gl gd J.length v9 lv9 ev9 (J ++ frame p) (ps ++ [p]) w9 HL9.out HD9.out (by have := HN.out; simp; omega) n (by have := HN.out; simp; omega) (fun i hi => by have := ends_front (ps := ps) (q := p) (i := i) (by have := HN.out; omega); have := HTOT.out; omega) (fun _ => by have h := ends_end (ps := ps) (q := p); rw [HN.out] at h; rw [h]; have := HTOT.out; omega) (fun i hi => by have := ends_le (ps ++ [p]) 0 i; rw [tot_snoc] at this; have := HTOT.out; have := HJL.out; have := HQL.out; omega)).mono ?_
        intro e w10 h10
        obtain ⟨rfl, hb10⟩ := h10.below
        have hs10 := hb10.size
        have HC10 := Lib.hid hb10; have HB10 := Lib.hid (HB9.out.trans (hb10.mono HB9.out.size))
        clear h10 hb10
        repeat (first | go_values | go_skip | go_guarded | go_step | go_upon | go_back | (simp only [Int.not_lt, Int.not_le]; go_simp))
        refine (lopen_any W.heap.size gd J.length v9 (J ++ frame p) w10 (HD9.out.keep HC10.out) (HT.out.step HB10.out) (HE.out.step HB10.out)).mono ?_
        have hfit2 : Fits (ps ++ [p]) := fun x hx => by
          rcases List.mem_append.1 hx with h | h
          · exact HFIT.out x h
          · simp at h; subst h; have := HQL.out; omega
        have hsc := scan_joined (ps ++ [p]) hfit2
        rw [joined_snoc, ← HJ.out] at hsc
        unfold OpenPost
        rw [hsc]
        simp only
        rintro e w11 ⟨gl2, lv2, ev2, E2, S2, v10, er2, rfl, hlg2, hd10, hS2, hu10, ho10, her, hdis2⟩
        rcases her with ⟨rfl, -⟩ | ⟨h0, -⟩
        rotate_left
        · exact absurd rfl h0
        rw [List.take_length] at hd10
        have hs11 := hu10.size
        have HB11 := Lib.hid (hu10.below (fun k hk => (HDB9.out k hk).1) HB10.out HB10.out.size)
        have HRW11 := Lib.hid ((HRW9.out.upd (Upd.of_below HC10.out fun _ => False) (fun _ _ h => h) (fun _ _ h => h)).upd hu10 (fun k hk h => by
          have h1 := hk.1; obtain ⟨_, cs, hc⟩ := hk; have := heap_lt hc; have := HDB9.out k h; omega) (fun k hk h => by have := HVP.out k hk; have := HDB9.out k h; omega))
        have HQR11 := Lib.hid ((HQR9.out.step HC10.out).upd hu10 (fun a ha h => by have := HQW.out a ha; have := HDB9.out _ h; omega))
        have HLG2 := Lib.hid hlg2; have HD10 := Lib.hid hd10; have HFIT2 := Lib.hid hfit2
        clear hlg2 hd10 hS2 hu10 ho10 hdis2 hsc hfit2
        repeat (first | go_values | go_skip | go_guarded | go_step | go_upon | go_back | (simp only [Int.not_lt, Int.not_le]; go_simp))
        refine (all_any E2 S2 gl2 gd lv2 ev2 (ps ++ [p]) (ps ++ [p]) w11 HLG2.out (by have := HN.out; simp; omega) (fun x hx => by have := (HFIT2.out x hx).2; omega)).mono ?_
        rintro e w12 ⟨vq, rfl, hown, hb12⟩
        have hs12 := hb12.size
        have hrr12 := (hown.rowsS (fun x hx => by have := (HFIT2.out x hx).2; omega)).read
        obtain ⟨aQ, cQ, rfl, hcQ, hnQ, hatQ⟩ := hown.shape
        have hlq : (ps ++ [p]).length = n + 1 := by have := HN.out; simp; omega
        have hrq : RdRows w12 aQ (ps ++ [p]) := by
          obtain ⟨a', c', e', -, hr', -⟩ := hrr12
          cases e'; exact hr'
        have hrp : RdRows w12 aP ps := by
          obtain ⟨a', c', e', -, hr', -⟩ := (HRW11.out.upd (Upd.of_below hb12 fun _ => False) (fun _ _ h => h) (fun _ _ h => h)).read
          have : aP = a' := by injection e'
          rw [this]; exact hr'
        have HRQ := Lib.hid hrq.front; have HRP := Lib.hid hrp; have HC12 := Lib.hid hb12
        have HB12 := Lib.hid (HB11.out.trans (hb12.mono HB11.out.size))
        cases aQ with
        | none => have := (hnQ rfl).1; simp at this
        | some a =>
          obtain ⟨g, rfl, -, cur, -, hel⟩ := hatQ a rfl
          obtain ⟨x, hx, hxe⟩ := hel n p (by rw [← HN.out]; simp)
          obtain ⟨ax, cx, rfl, -, hrx, -, -⟩ := hxe
          have HRX := Lib.hid hrx
          rw [hlq] at hcQ ⊢
          clear hown hrr12 hnQ hatQ hlq hrq hrp hb12 hel hrx
          repeat (first | go_values | go_skip | go_guarded | go_step | go_upon | go_back | (simp only [Int.not_lt, Int.not_le]; go_simp))
          refine (eqAll_any (some ⟨g, 0, none⟩) aP n cQ n cP ps ps w12 HN.out HN.out HRQ.out HRP.out (by omega) (fun y hy => by have := (HFIT.out y hy).2; omega)).mono ?_
          intro e w13 h13
          obtain ⟨rfl, hb13⟩ := h13.below
          rw [show (ps == ps) = true by simp]
          have hx13 : w13.cell? ⟨g, n, none⟩ = some (.slice ax p.length cx) := (World.cell?_of_block (w := w12) (a := ⟨g, n, none⟩) (hb13.block g (block_lt hx))).trans hx
          have HB13 := Lib.hid (HB12.out.trans (hb13.mono HB12.out.size)); have HC13 := Lib.hid (HC12.out.trans (hb13.mono HC12.out.size)); have HX13 := Lib.hid hb13
          have hpl : p.length ≤ 64 := by have := HQL.out; omega
          clear h13 hb13 hx
          repeat (first | go_values | go_skip | go_guarded | go_step | go_upon | go_back | (simp only [Int.not_lt, Int.not_le]; go_simp))
          refine (law03_eq_any ax _ p.length cx _ _ p p w13 rfl HQL.out (HRX.out.step HX13.out) (HQR11.out.step HC13.out) (by omega)).mono ?_
          intro e w14 h14
          obtain ⟨rfl, hb14⟩ := h14.below
          rw [show (p == p) = true by simp]
          have HB14 := Lib.hid (HB13.out.trans (hb14.mono HB13.out.size)); have HC14 := Lib.hid (HC13.out.trans (hb14.mono HC13.out.size))
          clear h14 hb14
          repeat (first | go_values | go_skip | go_guarded | go_step | go_upon | go_back | (simp only [Int.not_lt, Int.not_le]; go_simp))
          refine (size_any W.heap.size gd _ v10 (J ++ frame p) w14 (HD10.out.keep HC14.out)).mono ?_
          rintro e w15 ⟨rfl, rfl⟩
          rw [show (((J ++ frame p).length : Nat) : Int) = (jl : Int) + (p.length : Int) + 8 by have := HJL.out; rw [List.length_append, frame_length]; omega, HQL.out]
          repeat (first | go_values | go_skip | go_guarded | go_step | go_upon | go_back | (simp only [Int.not_lt, Int.not_le]; go_simp))
          go_ret
          exact ⟨ret_bool (by first | rfl | simp | (go_num) | (simp; omega)), HB14.out⟩
      · have hr2 : ¬ (262144 : Int) < (jl : Int) + 72 := by omega
        have hrow8 : Row (w7.alloc (.cells #[.int .u8 65] 5)) w7.heap.size [65] := row_new w7 _ [65] rfl
        have hb8 := balloc w7 (.cells #[.int .u8 65] 5)
        clear hroom
        repeat (first | go_values | go_skip | go_guarded | go_step | go_upon | go_back | (simp only [Int.not_lt, Int.not_le]; go_simp))
        revert hrow8 hb8
        generalize World.alloc _ _ = w8
        intro hrow8 hb8
        have hs78 : w3.heap.size ≤ w7.heap.size := HY7.out.size
        have hlt8 : w7.heap.size < w8.heap.size := hrow8.lt
        have HB8 := Lib.hid (HB7.out.trans (hb8.mono HB7.out.size)); have HC8 := Lib.hid (HC7.out.trans (hb8.mono HC7.out.size)); have HY8 := Lib.hid (HY7.out.trans (hb8.mono HY7.out.size))
        have hs8 : w3.heap.size ≤ w8.heap.size := HY8.out.size
        have HQW := Lib.hid (show ∀ a : Addr, (some ⟨w7.heap.size, 0, none⟩ : Option Addr) = some a → a.block < W.heap.size ∨ (w3.heap.size ≤ a.block ∧ a.block < w8.heap.size) from fun a ha => by cases ha; exact .inr ⟨hs78, hlt8⟩)
        have HQN := Lib.hid (show (some ⟨w7.heap.size, 0, none⟩ : Option Addr) = none → 1 = 0 from fun h => by cases h)
        obtain ⟨p, HQL, HQR⟩ : ∃ p : List UInt8, Hid (p.length = 1) ∧ Hid (Rd w8 (some ⟨w7.heap.size, 0, none⟩) p) := ⟨[65], rfl, hrow8.rd⟩
        clear hrow8 hb8
        refine (lappend_any w8 E S W.heap.size gl gd J.length v1 lv ev J ps (HLG.out.keep HC8.out) (HD2.out.keep HC8.out) HDIS.out HB8.out.size _ _ _ p HQL.out HQR.out HQN.out (fun a ha hd => by have := HQW.out a ha; have := HDB.out _ hd; omega) (by omega) (by omega) (by have := HJL.out; omega) (by have := HN.out; omega) (by have := HTOT.out; have := HJL.out; omega) (HT.out.step HB8.out)).mono ?_
        rintro e w9 ⟨rfl, E9, S9, lv9, ev9, v9, hl9, hd9, -, hS9, ho9, hu9, hdis9⟩
        have hs9 := hu9.size
        have HB9 := Lib.hid (hu9.below (fun k hk => (HSB.out k hk).1) HB8.out HB8.out.size)
        have HRW9 := Lib.hid ((HRW.out.upd (Upd.of_below HY8.out fun _ => False) (fun _ _ h => h) (fun _ _ h => h)).upd hu9 (fun k hk h => by have := hk.1; have := HSB.out k h; omega) (fun k hk h => by have := HVP.out k hk; have := HSB.out k h; omega))
        have HQR9 := Lib.hid (HQR.out.upd hu9 (fun a ha h => by have := HQW.out a ha; have := HSB.out _ h; omega))
        have HL9 := Lib.hid hl9; have HD9 := Lib.hid hd9
        have HDB9 := Lib.hid (show ∀ k, DiskIn gd v9 k → W.heap.size ≤ k ∧ (k < w2.heap.size ∨ w8.heap.size ≤ k) from fun k hk => by
          rcases hk with rfl | hk
          · have := HDB.out _ (.inl rfl); omega
          · rcases ho9 with h | h
            · have := HDB.out k (.inr (by rw [← h]; exact hk)); omega
            · have := h k hk; have := HB8.out.size; omega)
        clear hl9 hd9 hS9 ho9 hu9 hdis9
        repeat (first | go_values | go_skip | go_guarded | go_step | go_upon | go_back | (simp only [Int.not_lt, Int.not_le]; go_simp))
        refine (count_any E9 S9 gl gd lv9 ev9 (ps ++ [p]) (ps ++ [p]) w9 HL9.out).mono ?_
        rintro e w10 ⟨rfl, rfl⟩
        rw [show (((ps ++ [p]).length : Nat) : Int) = (n : Int) + 1 by have := HN.out; simp; omega]
        repeat (first | go_values | go_skip | go_guarded | go_step | go_upon | go_back | (simp only [Int.not_lt, Int.not_le]; go_simp))
        refine (lsynced_any E9 S9 W.heap.size gl gd J.length v9 lv9 ev9 (J ++ frame p) (ps ++ [p]) w9 HL9.out HD9.out (by have := HN.out; simp; omega) n (by have := HN.out; simp; omega) (fun i hi => by have := ends_front (ps := ps) (q := p) (i := i) (by have := HN.out; omega); have := HTOT.out; omega) (fun _ => by have h := ends_end (ps := ps) (q := p); rw [HN.out] at h; rw [h]; have := HTOT.out; omega) (fun i hi => by have := ends_le (ps ++ [p]) 0 i; rw [tot_snoc] at this; have := HTOT.out; have := HJL.out; have := HQL.out; omega)).mono ?_
        intro e w10 h10
        obtain ⟨rfl, hb10⟩ := h10.below
        have hs10 := hb10.size
        have HC10 := Lib.hid hb10; have HB10 := Lib.hid (HB9.out.trans (hb10.mono HB9.out.size))
        clear h10 hb10
        repeat (first | go_values | go_skip | go_guarded | go_step | go_upon | go_back | (simp only [Int.not_lt, Int.not_le]; go_simp))
        refine (lopen_any W.heap.size gd J.length v9 (J ++ frame p) w10 (HD9.out.keep HC10.out) (HT.out.step HB10.out) (HE.out.step HB10.out)).mono ?_
        have hfit2 : Fits (ps ++ [p]) := fun x hx => by
          rcases List.mem_append.1 hx with h | h
          · exact HFIT.out x h
          · simp at h; subst h; have := HQL.out; omega
        have hsc := scan_joined (ps ++ [p]) hfit2
        rw [joined_snoc, ← HJ.out] at hsc
        unfold OpenPost
        rw [hsc]
        simp only
        rintro e w11 ⟨gl2, lv2, ev2, E2, S2, v10, er2, rfl, hlg2, hd10, hS2, hu10, ho10, her, hdis2⟩
        rcases her with ⟨rfl, -⟩ | ⟨h0, -⟩
        rotate_left
        · exact absurd rfl h0
        rw [List.take_length] at hd10
        have hs11 := hu10.size
        have HB11 := Lib.hid (hu10.below (fun k hk => (HDB9.out k hk).1) HB10.out HB10.out.size)
        have HRW11 := Lib.hid ((HRW9.out.upd (Upd.of_below HC10.out fun _ => False) (fun _ _ h => h) (fun _ _ h => h)).upd hu10 (fun k hk h => by
          have h1 := hk.1; obtain ⟨_, cs, hc⟩ := hk; have := heap_lt hc; have := HDB9.out k h; omega) (fun k hk h => by have := HVP.out k hk; have := HDB9.out k h; omega))
        have HQR11 := Lib.hid ((HQR9.out.step HC10.out).upd hu10 (fun a ha h => by have := HQW.out a ha; have := HDB9.out _ h; omega))
        have HLG2 := Lib.hid hlg2; have HD10 := Lib.hid hd10; have HFIT2 := Lib.hid hfit2
        clear hlg2 hd10 hS2 hu10 ho10 hdis2 hsc hfit2
        repeat (first | go_values | go_skip | go_guarded | go_step | go_upon | go_back | (simp only [Int.not_lt, Int.not_le]; go_simp))
        refine (all_any E2 S2 gl2 gd lv2 ev2 (ps ++ [p]) (ps ++ [p]) w11 HLG2.out (by have := HN.out; simp; omega) (fun x hx => by have := (HFIT2.out x hx).2; omega)).mono ?_
        rintro e w12 ⟨vq, rfl, hown, hb12⟩
        have hs12 := hb12.size
        have hrr12 := (hown.rowsS (fun x hx => by have := (HFIT2.out x hx).2; omega)).read
        obtain ⟨aQ, cQ, rfl, hcQ, hnQ, hatQ⟩ := hown.shape
        have hlq : (ps ++ [p]).length = n + 1 := by have := HN.out; simp; omega
        have hrq : RdRows w12 aQ (ps ++ [p]) := by
          obtain ⟨a', c', e', -, hr', -⟩ := hrr12
          cases e'; exact hr'
        have hrp : RdRows w12 aP ps := by
          obtain ⟨a', c', e', -, hr', -⟩ := (HRW11.out.upd (Upd.of_below hb12 fun _ => False) (fun _ _ h => h) (fun _ _ h => h)).read
          have : aP = a' := by injection e'
          rw [this]; exact hr'
        have HRQ := Lib.hid hrq.front; have HRP := Lib.hid hrp; have HC12 := Lib.hid hb12
        have HB12 := Lib.hid (HB11.out.trans (hb12.mono HB11.out.size))
        cases aQ with
        | none => have := (hnQ rfl).1; simp at this
        | some a =>
          obtain ⟨g, rfl, -, cur, -, hel⟩ := hatQ a rfl
          obtain ⟨x, hx, hxe⟩ := hel n p (by rw [← HN.out]; simp)
          obtain ⟨ax, cx, rfl, -, hrx, -, -⟩ := hxe
          have HRX := Lib.hid hrx
          rw [hlq] at hcQ ⊢
          clear hown hrr12 hnQ hatQ hlq hrq hrp hb12 hel hrx
          repeat (first | go_values | go_skip | go_guarded | go_step | go_upon | go_back | (simp only [Int.not_lt, Int.not_le]; go_simp))
          refine (eqAll_any (some ⟨g, 0, none⟩) aP n cQ n cP ps ps w12 HN.out HN.out HRQ.out HRP.out (by omega) (fun y hy => by have := (HFIT.out y hy).2; omega)).mono ?_
          intro e w13 h13
          obtain ⟨rfl, hb13⟩ := h13.below
          rw [show (ps == ps) = true by simp]
          have hx13 : w13.cell? ⟨g, n, none⟩ = some (.slice ax p.length cx) := (World.cell?_of_block (w := w12) (a := ⟨g, n, none⟩) (hb13.block g (block_lt hx))).trans hx
          have HB13 := Lib.hid (HB12.out.trans (hb13.mono HB12.out.size)); have HC13 := Lib.hid (HC12.out.trans (hb13.mono HC12.out.size)); have HX13 := Lib.hid hb13
          have hpl : p.length ≤ 64 := by have := HQL.out; omega
          clear h13 hb13 hx
          repeat (first | go_values | go_skip | go_guarded | go_step | go_upon | go_back | (simp only [Int.not_lt, Int.not_le]; go_simp))
          refine (law03_eq_any ax _ p.length cx _ _ p p w13 rfl HQL.out (HRX.out.step HX13.out) (HQR11.out.step HC13.out) (by omega)).mono ?_
          intro e w14 h14
          obtain ⟨rfl, hb14⟩ := h14.below
          rw [show (p == p) = true by simp]
          have HB14 := Lib.hid (HB13.out.trans (hb14.mono HB13.out.size)); have HC14 := Lib.hid (HC13.out.trans (hb14.mono HC13.out.size))
          clear h14 hb14
          repeat (first | go_values | go_skip | go_guarded | go_step | go_upon | go_back | (simp only [Int.not_lt, Int.not_le]; go_simp))
          refine (size_any W.heap.size gd _ v10 (J ++ frame p) w14 (HD10.out.keep HC14.out)).mono ?_
          rintro e w15 ⟨rfl, rfl⟩
          rw [show (((J ++ frame p).length : Nat) : Int) = (jl : Int) + (p.length : Int) + 8 by have := HJL.out; rw [List.length_append, frame_length]; omega, HQL.out]
          repeat (first | go_values | go_skip | go_guarded | go_step | go_upon | go_back | (simp only [Int.not_lt, Int.not_le]; go_simp))
          go_ret
          exact ⟨ret_bool (by first | rfl | simp | (go_num) | (simp; omega)), HB14.out⟩
end Go.Proofs.YtoophonmonojcaaDoor

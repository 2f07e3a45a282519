/- Contracts of wal.record. -/
import Derived.Test.YtoophonmonojcaaDoorFrame
namespace Go.Proofs.YtoophonmonojcaaDoor
open Go.RowKit

/-- The record at the head of q: its length, its complement, its payload; and the reason why none stands there (0: one does). -/
def recLen (q : List UInt8) : Nat := (q.getD 0 0).toNat * 256 + (q.getD 1 0).toNat
def recCpl (q : List UInt8) : Nat := (q.getD 2 0).toNat * 256 + (q.getD 3 0).toNat
def recPay (q : List UInt8) : List UInt8 := (q.drop 4).take (recLen q)
def headOk (q : List UInt8) : Prop := recLen q + recCpl q = 65535 ∧ 1 ≤ recLen q ∧ recLen q ≤ 64
instance (q : List UInt8) : Decidable (headOk q) := by unfold headOk; infer_instance
def sumOk (q : List UInt8) : Prop := (q.drop (recLen q + 4)).take 4 = le4 (sum (q.take (recLen q + 4)))
instance (q : List UInt8) : Decidable (sumOk q) := by unfold sumOk; infer_instance
def recCode (q : List UInt8) : Nat :=
  if q.length < 4 then 32 else if ¬ headOk q then 31 else if q.length < recLen q + 8 then 32 else if ¬ sumOk q then 33 else 0

/-- What wal.record answers where one stands. -/
def RecOk (w : World) (q : List UInt8) (e : Ending) (w' : World) : Prop :=
  ∃ g, e = .returned (.tuple #[.slice (some ⟨g, 4, none⟩) (recLen q) (recLen q), .nilIface]) ∧ w.heap.size ≤ g ∧ Row w' g (q.take (recLen q + 4)) ∧ Below w.heap.size w w'
/-- What it answers where none does. -/
def RecBad (w : World) (at_ : Nat) (c : Nat) (e : Ending) (w' : World) : Prop :=
  ∃ g, e = .returned (.tuple #[.slice none 0 0, faultV g]) ∧ NewFault w at_ c g w'

theorem two_of_drop (q : List UInt8) (k : Nat) (h : k + 2 ≤ q.length) : num ((q.drop k).take 2) = (q.getD k 0).toNat * 256 + (q.getD (k + 1) 0).toNat := by
  have e : (q.drop k).take 2 = [q.getD k 0, q.getD (k + 1) 0] := by
    apply List.ext_getElem?
    intro i
    match i with
    | 0 => simp [List.getD_eq_getElem?_getD, List.getElem?_eq_getElem (show k < q.length by omega)]
    | 1 => simp [List.getD_eq_getElem?_getD, List.getElem?_eq_getElem (show k + 1 < q.length by omega)]
    | i + 2 => simp only [List.getElem?_take, List.getElem?_cons_succ, List.getElem?_nil]; rw [if_neg (by omega)]
  rw [e, num_two]

set_option maxHeartbeats 1000000 in
theorem record_short (b off n cap at_ : Nat) (l : List UInt8) (w : World) (hl : l.length = n) (hr : Rd w (some ⟨b, off, none⟩) l) (hat : at_ < n) (hcap : n ≤ cap) (hb : n ≤ 140737488355000) (h4 : n < at_ + 4) :
    Calls Tryd.prog 80 #[.slice (some ⟨b, off, none⟩) n cap, .int .i64 at_] w (RecBad w at_ 32) := by
  have HL := Lib.hid hl; have HR := Lib.hid (hr.cut at_)
  have hql : (l.drop at_).length = n - at_ := by simp; omega
  obtain ⟨q, hq⟩ : ∃ q, q = l.drop at_ := ⟨_, rfl⟩
  rw [← hq] at HR hql
  have HQ := Lib.hid hql; clear hl hr hq hql
  go_enter Tryd.func80, Tryd.ntmps80
  go_wp2_with fail
  refine (newReader_any _ _ _ q _ HQ.out HR.out (by omega)).mono ?_
  rintro e w1 ⟨g, gb, rfl, hg, hgb, hra, hb1⟩
  have HA := Lib.hid hra; have HB1 := Lib.hid hb1; clear hra hb1
  go_wp2_with fail
  by_cases h2 : n < at_ + 2
  · refine (u16_short g gb q 0 _ HA.out (by have := HQ.out; omega) (by omega) (by have := HQ.out; omega)).mono ?_
    rintro e w2 ⟨rfl, ge, hge, hgo, hra2, hgr⟩
    have HA2 := Lib.hid hra2; have HG2 := Lib.hid hgo; have HB2 := Lib.hid (HB1.out.grown hgr HB1.out.size (fun k hk => by cases hk; exact hg)); clear hra2 hgo hgr
    go_wp2_with fail
    refine (u16_err g gb q 0 ge _ HA2.out).mono ?_
    rintro e w3 ⟨rfl, k3, rfl⟩
    go_wp2_with fail
    refine (err_any g gb q 0 (faultV ge) _ (HA2.out.drewN k3)).mono ?_
    rintro e w3 ⟨rfl, rfl⟩
    go_wp2_with fail
    refine (Is_fault ge 0 10 10 (w2.drewN k3) HG2.out).mono ?_
    rintro e w3 ⟨rfl, rfl⟩
    go_wp2_with fail
    refine (wrap_new _ _ _).mono ?_
    rintro e w4 ⟨g4, rfl, hN⟩
    have HN := Lib.hid (hN.after (w := w) (w1 := w2.drewN k3) (below_drewN HB2.out k3)); clear hN
    go_wp2
    go_ret2
    exact ⟨g4, rfl, HN.out⟩
  · refine (u16_ok g gb q 0 _ HA.out (by have := HQ.out; omega) (by have := HQ.out; omega)).mono ?_
    rintro e w2 ⟨rfl, hra2, hgr⟩
    have HA2 := Lib.hid hra2; have HB2 := Lib.hid (HB1.out.grown hgr HB1.out.size (fun k hk => by cases hk; exact hg)); clear hra2 hgr
    go_wp2_with fail
    refine (u16_short g gb q (0 + 2) _ HA2.out (by have := HQ.out; omega) (by have := HQ.out; omega) (by have := HQ.out; omega)).mono ?_
    rintro e w3 ⟨rfl, ge, hge, hgo, hra3, hgr⟩
    have HA3 := Lib.hid hra3; have HG3 := Lib.hid hgo; have HB3 := Lib.hid (HB2.out.grown hgr HB2.out.size (fun k hk => by cases hk; exact hg)); clear hra3 hgo hgr
    go_wp2_with fail
    refine (err_any g gb q (0 + 2) (faultV ge) _ HA3.out).mono ?_
    rintro e w3 ⟨rfl, rfl⟩
    go_wp2_with fail
    refine (Is_fault ge _ 10 10 _ HG3.out).mono ?_
    rintro e w3 ⟨rfl, rfl⟩
    go_wp2_with fail
    refine (wrap_new _ _ _).mono ?_
    rintro e w4 ⟨g4, rfl, hN⟩
    have HN := Lib.hid (hN.after (w := w) HB3.out); clear hN
    go_wp2
    go_ret2
    exact ⟨g4, rfl, HN.out⟩

theorem opened_rec {w : World} {q : List UInt8} {x : Nat} {e : Ending} {w' : World} (h : Opened w (q.take (x + 8)) e w') (hx : x + 8 ≤ q.length) :
    ((q.drop (x + 4)).take 4 = le4 (sum (q.take (x + 4))) ∧ ∃ g, e = .returned (.tuple #[.slice (some ⟨g, 0, none⟩) (x + 4) (x + 4), .nilIface]) ∧ w.heap.size ≤ g ∧ Row w' g (q.take (x + 4)) ∧ Below w.heap.size w w') ∨
    (¬ (q.drop (x + 4)).take 4 = le4 (sum (q.take (x + 4))) ∧ ∃ g, e = .returned (.tuple #[.slice none 0 0, faultV g]) ∧ NewFault w (x + 4 : Nat) 11 g w') := by
  unfold Opened at h
  have e1 : (q.take (x + 8)).length - 4 = x + 4 := by simp; omega
  have e2 : (q.take (x + 8)).take (x + 4) = q.take (x + 4) := by rw [List.take_take]; congr 1; omega
  have e3 : (q.take (x + 8)).drop (x + 4) = (q.drop (x + 4)).take 4 := by rw [List.drop_take]; congr 1; omega
  rw [e1, e2, e3] at h
  exact h

set_option maxRecDepth 100000 in
set_option maxHeartbeats 2000000 in
theorem record_long (b off n cap at_ : Nat) (l : List UInt8) (w : World) (hl : l.length = n) (hr : Rd w (some ⟨b, off, none⟩) l) (hat : at_ + 4 ≤ n) (hcap : n ≤ cap) (hb : n ≤ 140737488355000) (ht : Tab w)
    (Q : Ending → World → Prop) (h31 : ¬ headOk (l.drop at_) → ∀ e w', RecBad w at_ 31 e w' → Q e w') (h32 : headOk (l.drop at_) → n - at_ < recLen (l.drop at_) + 8 → ∀ e w', RecBad w at_ 32 e w' → Q e w')
    (h33 : headOk (l.drop at_) → recLen (l.drop at_) + 8 ≤ n - at_ → ¬ sumOk (l.drop at_) → ∀ e w', RecBad w at_ 33 e w' → Q e w') (h0 : headOk (l.drop at_) → recLen (l.drop at_) + 8 ≤ n - at_ → sumOk (l.drop at_) → ∀ e w', RecOk w (l.drop at_) e w' → Q e w') :
    Calls Tryd.prog 80 #[.slice (some ⟨b, off, none⟩) n cap, .int .i64 at_] w Q := by
  have HL := Lib.hid hl; have HR := Lib.hid (hr.cut at_); have HR4 := Lib.hid (hr.at at_ 4 (by omega)); have HT := Lib.hid ht
  have hql : (l.drop at_).length = n - at_ := by simp; omega
  obtain ⟨q, hq⟩ : ∃ q, q = l.drop at_ := ⟨_, rfl⟩
  rw [← hq] at HR HR4 hql h31 h32 h33 h0
  have h4l : (q.take 4).length = 4 := by simp; omega
  obtain ⟨q4, hq4⟩ : ∃ q4, q4 = q.take 4 := ⟨_, rfl⟩
  rw [← hq4] at HR4 h4l
  have e1 : num ((q4.drop 0).take 2) = recLen q := by
    rw [hq4, two_of_drop _ 0 (by rw [← hq4]; omega), recLen]
    simp [List.getD_eq_getElem?_getD]
  have e2 : num ((q4.drop (0 + 2)).take 2) = recCpl q := by
    rw [hq4, two_of_drop _ 2 (by rw [← hq4]; omega), recCpl]
    simp [List.getD_eq_getElem?_getD]
  have hx0 : recLen q < 65536 := by unfold recLen; have := (q.getD 0 0).toNat_lt; have := (q.getD 1 0).toNat_lt; omega
  have hy0 : recCpl q < 65536 := by unfold recCpl; have := (q.getD 2 0).toNat_lt; have := (q.getD 3 0).toNat_lt; omega
  have HH : headOk q ↔ recLen q + recCpl q = 65535 ∧ 1 ≤ recLen q ∧ recLen q ≤ 64 := Iff.rfl
  have HS : sumOk q ↔ (q.drop (recLen q + 4)).take 4 = le4 (sum (q.take (recLen q + 4))) := Iff.rfl
  have HO : ∀ e w', RecOk w q e w' ↔ ∃ g, e = .returned (.tuple #[.slice (some ⟨g, 4, none⟩) (recLen q) (recLen q), .nilIface]) ∧ w.heap.size ≤ g ∧ Row w' g (q.take (recLen q + 4)) ∧ Below w.heap.size w w' := fun _ _ => Iff.rfl
  obtain ⟨x, hx⟩ : ∃ x, x = recLen q := ⟨_, rfl⟩
  obtain ⟨y, hy⟩ : ∃ y, y = recCpl q := ⟨_, rfl⟩
  rw [← hx] at e1 hx0 HH HS h32 h33 h0 HO
  rw [← hy] at e2 hy0 HH
  have E1 := Lib.hid e1; have E2 := Lib.hid e2
  have HQ := Lib.hid hql; have H4 := Lib.hid h4l; have HH' := Lib.hid HH; have HS' := Lib.hid HS; have HO' := Lib.hid HO
  have K31 := Lib.hid h31; have K32 := Lib.hid h32; have K33 := Lib.hid h33; have K0 := Lib.hid h0
  clear hl hr hq hql h4l hq4 e1 e2 hx hy HH HS HO h31 h32 h33 h0 ht
  rcases Nat.lt_or_ge (at_ + 4) n with hmin | hmin
  all_goals
    go_enter Tryd.func80, Tryd.ntmps80
    go_wp2_with fail
    first | rw [show ((at_ : Int) + 4).toNat - at_ = 4 from by omega] | rw [show n - at_ = 4 from by omega] | skip
    refine (newReader_any _ _ _ q4 _ H4.out HR4.out (by omega)).mono ?_
    rintro e w1 ⟨g, gb, rfl, hg, hgb, hra, hb1⟩
    have HA := Lib.hid hra; have HB1 := Lib.hid hb1; clear hra hb1
    go_wp2_with fail
    refine (u16_ok g gb q4 0 _ HA.out (by have := H4.out; omega) (by have := H4.out; omega)).mono ?_
    rintro e w2 ⟨rfl, hra2, hgr⟩
    have HA2 := Lib.hid hra2; have HB2 := Lib.hid (HB1.out.grown hgr HB1.out.size (fun k hk => by cases hk; exact hg)); clear hra2 hgr
    rw [E1.out]
    go_wp2_with fail
    refine (u16_ok g gb q4 (0 + 2) _ HA2.out (by have := H4.out; omega) (by have := H4.out; omega)).mono ?_
    rintro e w3 ⟨rfl, hra3, hgr⟩
    have HA3 := Lib.hid hra3; have HB3 := Lib.hid (HB2.out.grown hgr HB2.out.size (fun k hk => by cases hk; exact hg)); clear hra3 hgr
    rw [E2.out]
    go_wp2_with fail
    refine (err_any g gb q4 (0 + 2 + 2) .nilIface _ HA3.out).mono ?_
    rintro e w3' ⟨rfl, rfl⟩
    go_wp2_with fail
    refine (Is_nil 10 _).mono ?_
    rintro e w3' ⟨rfl, rfl⟩
    by_cases c1 : x + y = 65535
    · have t1 : ((x : Int) + (y : Int) != 65535) = false := by rw [bne_eq_false_iff_eq]; omega
      have C1 := Lib.hid c1; clear c1
      by_cases c2 : 1 ≤ x
      · by_cases c3 : x ≤ 64
        · by_cases c4 : n - at_ < x + 8
          · go_wp2_with fail
            refine (wrap_new _ _ _).mono ?_
            rintro e w4 ⟨g4, rfl, hN⟩
            have HN := Lib.hid (hN.after (w := w) HB3.out); clear hN
            go_wp2
            exact K32.out (HH'.out.2 ⟨C1.out, c2, c3⟩) c4 _ _ ⟨g4, rfl, HN.out⟩
          · first
            | (exfalso; omega)
            | (go_wp2_with fail
               rw [show at_ + x + 8 - at_ = x + 8 from by omega]
               refine (open_any _ _ _ (q.take (x + 8)) _ (by have := HQ.out; simp; omega) ((HR.out.take (x + 8)).step HB3.out) (by omega) (by omega) (by omega) (HT.out.step HB3.out)).mono ?_
               intro e w4 hop
               rcases opened_rec hop (by have := HQ.out; omega) with ⟨hs, g4, rfl, hg4, hrow, hb4⟩ | ⟨hs, g4, rfl, hnf⟩
               · have HSS := Lib.hid hs; have HRW := Lib.hid hrow; have HB4 := Lib.hid (HB3.out.trans (hb4.mono HB3.out.size)); have hg4' : w.heap.size ≤ g4 := Nat.le_trans HB3.out.size hg4
                 clear hs hrow hb4 hop
                 go_wp2_with fail
                 refine (Is_nil 11 _).mono ?_
                 rintro e w5 ⟨rfl, rfl⟩
                 go_wp2
                 exact K0.out (HH'.out.2 ⟨C1.out, c2, c3⟩) (by omega) (HS'.out.2 HSS.out) _ _ ((HO'.out _ _).2 ⟨g4, rfl, hg4', HRW.out, HB4.out⟩)
               · have HSS := Lib.hid hs; have HNF := Lib.hid hnf
                 clear hs hnf hop
                 go_wp2_with fail
                 refine (Is_fault g4 _ 11 11 _ HNF.out.2.1).mono ?_
                 rintro e w5 ⟨rfl, rfl⟩
                 go_wp2_with fail
                 refine (wrap_new _ _ _).mono ?_
                 rintro e w6 ⟨g6, rfl, hN⟩
                 have HN := Lib.hid (hN.after (w := w) (HB3.out.trans (HNF.out.2.2.mono HB3.out.size))); clear hN
                 go_wp2
                 exact K33.out (HH'.out.2 ⟨C1.out, c2, c3⟩) (by omega) (fun h => HSS.out (HS'.out.1 h)) _ _ ⟨g6, rfl, HN.out⟩)
        · go_wp2_with fail
          refine (wrap_new _ _ _).mono ?_
          rintro e w4 ⟨g4, rfl, hN⟩
          have HN := Lib.hid (hN.after (w := w) HB3.out); clear hN
          go_wp2
          exact K31.out (fun h => c3 (HH'.out.1 h).2.2) _ _ ⟨g4, rfl, HN.out⟩
      · go_wp2_with fail
        refine (wrap_new _ _ _).mono ?_
        rintro e w4 ⟨g4, rfl, hN⟩
        have HN := Lib.hid (hN.after (w := w) HB3.out); clear hN
        go_wp2
        exact K31.out (fun h => c2 (HH'.out.1 h).2.1) _ _ ⟨g4, rfl, HN.out⟩
    · have t1 : ((x : Int) + (y : Int) != 65535) = true := by rw [bne_iff_ne]; omega
      have C1 := Lib.hid c1; clear c1
      go_wp2_with fail
      refine (wrap_new _ _ _).mono ?_
      rintro e w4 ⟨g4, rfl, hN⟩
      have HN := Lib.hid (hN.after (w := w) HB3.out); clear hN
      go_wp2
      exact K31.out (fun h => C1.out (HH'.out.1 h).1) _ _ ⟨g4, rfl, HN.out⟩
end Go.Proofs.YtoophonmonojcaaDoor

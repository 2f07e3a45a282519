/- Several texts laid as one, in this order: Record, Lists, Scan. -/
import Derived.Test.YtoophonmonojcaaDoorGOwn
import Derived.Deep.LoopGhost
import Derived.WalkMore
/- Contracts of wal.record. -/
namespace Go.Proofs.YtoophonmonojcaaDoor
open Go.RowKit

/-- The record at the head of q: its length, its complement, its payload; and the reason why none stands there (0: one does). -/
def recLen (q : List UInt8) : Nat := (q.getD 0 0).toNat * 256 + (q.getD 1 0).toNat
def recCpl (q : List UInt8) : Nat := (q.getD 2 0).toNat * 256 + (q.getD 3 0).toNat
def recPay (q : List UInt8) : List UInt8 := (q.drop 4).take (recLen q)
def headOk (q : List UInt8) : Prop := recLen q + recCpl q = 65535 ∧ 1 ≤ recLen q ∧ recLen q ≤ 64
instance (q : List UInt8) : Decidable (headOk q) := by unfold headOk; infer_instance
def sumOk (q : List UInt8) : Prop := (q.drop (recLen q + 4)).take 4 = le4 (sum (q.take (recLen q + 4)))
instance (q : List UInt8) : Decidable (sumOk q) := by unfold sumOk; infer_instance
def recCode (q : List UInt8) : Nat :=
  if q.length < 4 then 32 else if ¬ headOk q then 31 else if q.length < recLen q + 8 then 32 else if ¬ sumOk q then 33 else 0

/-- What wal.record answers where one stands. -/
def RecOk (w : World) (q : List UInt8) (e : Ending) (w' : World) : Prop :=
  ∃ g, e = .returned (.tuple #[.slice (some ⟨g, 4, none⟩) (recLen q) (recLen q), .nilIface]) ∧ w.heap.size ≤ g ∧ Row w' g (q.take (recLen q + 4)) ∧ Below w.heap.size w w'
/-- What it answers where none does. -/
def RecBad (w : World) (at_ : Nat) (c : Nat) (e : Ending) (w' : World) : Prop :=
  ∃ g, e = .returned (.tuple #[.slice none 0 0, faultV g]) ∧ NewFault w at_ c g w'

theorem two_of_drop (q : List UInt8) (k : Nat) (h : k + 2 ≤ q.length) : num ((q.drop k).take 2) = (q.getD k 0).toNat * 256 + (q.getD (k + 1) 0).toNat := by
  have e : (q.drop k).take 2 = [q.getD k 0, q.getD (k + 1) 0] := by
    apply List.ext_getElem?
    intro i
    match i with
    | 0 => simp [List.getD_eq_getElem?_getD, List.getElem?_eq_getElem (show k < q.length by omega)]
    | 1 => simp [List.getD_eq_getElem?_getD, List.getElem?_eq_getElem (show k + 1 < q.length by omega)]
    | i + 2 => simp only [List.getElem?_take, List.getElem?_cons_succ, List.getElem?_nil]; rw [if_neg (by omega)]
  rw [e, num_two]

set_option maxHeartbeats 1000000 in
theorem record_short (b off n cap at_ : Nat) (l : List UInt8) (w : World) (hl : l.length = n) (hr : Rd w (some ⟨b, off, none⟩) l) (hat : at_ < n) (hcap : n ≤ cap) (hb : n ≤ 140737488355000) (h4 : n < at_ + 4) :
    Calls Tryd.prog 80 #[.slice (some ⟨b, off, none⟩) n cap, .int .i64 at_] w (RecBad w at_ 32) := by
  have HL := Lib.hid hl; have HR := Lib.hid (hr.cut at_)
  have hql : (l.drop at_).length = n - at_ := by simp; omega
  obtain ⟨q, hq⟩ : ∃ q, q = l.drop at_ := ⟨_, rfl⟩
  rw [← hq] at HR hql
  have HQ := Lib.hid hql; clear hl hr hq hql
  go_enter Tryd.func80, Tryd.ntmps80
  go_wp2_with fail
  refine (newReader_any _ _ _ q _ HQ.out HR.out (by omega)).mono ?_
  rintro e w1 ⟨g, gb, rfl, hg, hgb, hra, hb1⟩
  have HA := Lib.hid hra; have HB1 := Lib.hid hb1; clear hra hb1
  go_wp2_with fail
  by_cases h2 : n < at_ + 2
  · refine (u16_short g gb q 0 _ HA.out (by have := HQ.out; omega) (by omega) (by have := HQ.out; omega)).mono ?_
    rintro e w2 ⟨rfl, ge, hge, hgo, hra2, hgr⟩
    have HA2 := Lib.hid hra2; have HG2 := Lib.hid hgo; have HB2 := Lib.hid (HB1.out.grown hgr HB1.out.size (fun k hk => by cases hk; exact hg)); clear hra2 hgo hgr
    go_wp2_with fail
    refine (u16_err g gb q 0 ge _ HA2.out).mono ?_
    rintro e w3 ⟨rfl, k3, rfl⟩
    go_wp2_with fail
    refine (err_any g gb q 0 (faultV ge) _ (HA2.out.drewN k3)).mono ?_
    rintro e w3 ⟨rfl, rfl⟩
    go_wp2_with fail
    refine (Is_fault ge 0 10 10 (w2.drewN k3) HG2.out).mono ?_
    rintro e w3 ⟨rfl, rfl⟩
    go_wp2_with fail
    refine (wrap_new _ _ _).mono ?_
    rintro e w4 ⟨g4, rfl, hN⟩
    have HN := Lib.hid (hN.after (w := w) (w1 := w2.drewN k3) (below_drewN HB2.out k3)); clear hN
    go_wp2
    go_ret2
    exact ⟨g4, rfl, HN.out⟩
  · refine (u16_ok g gb q 0 _ HA.out (by have := HQ.out; omega) (by have := HQ.out; omega)).mono ?_
    rintro e w2 ⟨rfl, hra2, hgr⟩
    have HA2 := Lib.hid hra2; have HB2 := Lib.hid (HB1.out.grown hgr HB1.out.size (fun k hk => by cases hk; exact hg)); clear hra2 hgr
    go_wp2_with fail
    refine (u16_short g gb q (0 + 2) _ HA2.out (by have := HQ.out; omega) (by have := HQ.out; omega) (by have := HQ.out; omega)).mono ?_
    rintro e w3 ⟨rfl, ge, hge, hgo, hra3, hgr⟩
    have HA3 := Lib.hid hra3; have HG3 := Lib.hid hgo; have HB3 := Lib.hid (HB2.out.grown hgr HB2.out.size (fun k hk => by cases hk; exact hg)); clear hra3 hgo hgr
    go_wp2_with fail
    refine (err_any g gb q (0 + 2) (faultV ge) _ HA3.out).mono ?_
    rintro e w3 ⟨rfl, rfl⟩
    go_wp2_with fail
    refine (Is_fault ge _ 10 10 _ HG3.out).mono ?_
    rintro e w3 ⟨rfl, rfl⟩
    go_wp2_with fail
    refine (wrap_new _ _ _).mono ?_
    rintro e w4 ⟨g4, rfl, hN⟩
    have HN := Lib.hid (hN.after (w := w) HB3.out); clear hN
    go_wp2
    go_ret2
    exact ⟨g4, rfl, HN.out⟩

theorem opened_rec {w : World} {q : List UInt8} {x : Nat} {e : Ending} {w' : World} (h : Opened w (q.take (x + 8)) e w') (hx : x + 8 ≤ q.length) :
    ((q.drop (x + 4)).take 4 = le4 (sum (q.take (x + 4))) ∧ ∃ g, e = .returned (.tuple #[.slice (some ⟨g, 0, none⟩) (x + 4) (x + 4), .nilIface]) ∧ w.heap.size ≤ g ∧ Row w' g (q.take (x + 4)) ∧ Below w.heap.size w w') ∨
    (¬ (q.drop (x + 4)).take 4 = le4 (sum (q.take (x + 4))) ∧ ∃ g, e = .returned (.tuple #[.slice none 0 0, faultV g]) ∧ NewFault w (x + 4 : Nat) 11 g w') := by
  unfold Opened at h
  have e1 : (q.take (x + 8)).length - 4 = x + 4 := by simp; omega
  have e2 : (q.take (x + 8)).take (x + 4) = q.take (x + 4) := by rw [List.take_take]; congr 1; omega
  have e3 : (q.take (x + 8)).drop (x + 4) = (q.drop (x + 4)).take 4 := by rw [List.drop_take]; congr 1; omega
  rw [e1, e2, e3] at h
  exact h

set_option maxRecDepth 100000 in
set_option maxHeartbeats 2000000 in
theorem record_long (b off n cap at_ : Nat) (l : List UInt8) (w : World) (hl : l.length = n) (hr : Rd w (some ⟨b, off, none⟩) l) (hat : at_ + 4 ≤ n) (hcap : n ≤ cap) (hb : n ≤ 140737488355000) (ht : Tab w)
    (Q : Ending → World → Prop) (h31 : ¬ headOk (l.drop at_) → ∀ e w', RecBad w at_ 31 e w' → Q e w') (h32 : headOk (l.drop at_) → n - at_ < recLen (l.drop at_) + 8 → ∀ e w', RecBad w at_ 32 e w' → Q e w')
    (h33 : headOk (l.drop at_) → recLen (l.drop at_) + 8 ≤ n - at_ → ¬ sumOk (l.drop at_) → ∀ e w', RecBad w at_ 33 e w' → Q e w') (h0 : headOk (l.drop at_) → recLen (l.drop at_) + 8 ≤ n - at_ → sumOk (l.drop at_) → ∀ e w', RecOk w (l.drop at_) e w' → Q e w') :
    Calls Tryd.prog 80 #[.slice (some ⟨b, off, none⟩) n cap, .int .i64 at_] w Q := by
  have HL := Lib.hid hl; have HR := Lib.hid (hr.cut at_); have HR4 := Lib.hid (hr.at at_ 4 (by omega)); have HT := Lib.hid ht
  have hql : (l.drop at_).length = n - at_ := by simp; omega
  obtain ⟨q, hq⟩ : ∃ q, q = l.drop at_ := ⟨_, rfl⟩
  rw [← hq] at HR HR4 hql h31 h32 h33 h0
  have h4l : (q.take 4).length = 4 := by simp; omega
  obtain ⟨q4, hq4⟩ : ∃ q4, q4 = q.take 4 := ⟨_, rfl⟩
  rw [← hq4] at HR4 h4l
  have e1 : num ((q4.drop 0).take 2) = recLen q := by
    rw [hq4, two_of_drop _ 0 (by rw [← hq4]; omega), recLen]
    simp [List.getD_eq_getElem?_getD]
  have e2 : num ((q4.drop (0 + 2)).take 2) = recCpl q := by
    rw [hq4, two_of_drop _ 2 (by rw [← hq4]; omega), recCpl]
    simp [List.getD_eq_getElem?_getD]
  have hx0 : recLen q < 65536 := by unfold recLen; have := (q.getD 0 0).toNat_lt; have := (q.getD 1 0).toNat_lt; omega
  have hy0 : recCpl q < 65536 := by unfold recCpl; have := (q.getD 2 0).toNat_lt; have := (q.getD 3 0).toNat_lt; omega
  have HH : headOk q ↔ recLen q + recCpl q = 65535 ∧ 1 ≤ recLen q ∧ recLen q ≤ 64 := Iff.rfl
  have HS : sumOk q ↔ (q.drop (recLen q + 4)).take 4 = le4 (sum (q.take (recLen q + 4))) := Iff.rfl
  have HO : ∀ e w', RecOk w q e w' ↔ ∃ g, e = .returned (.tuple #[.slice (some ⟨g, 4, none⟩) (recLen q) (recLen q), .nilIface]) ∧ w.heap.size ≤ g ∧ Row w' g (q.take (recLen q + 4)) ∧ Below w.heap.size w w' := fun _ _ => Iff.rfl
  obtain ⟨x, hx⟩ : ∃ x, x = recLen q := ⟨_, rfl⟩
  obtain ⟨y, hy⟩ : ∃ y, y = recCpl q := ⟨_, rfl⟩
  rw [← hx] at e1 hx0 HH HS h32 h33 h0 HO
  rw [← hy] at e2 hy0 HH
  have E1 := Lib.hid e1; have E2 := Lib.hid e2
  have HQ := Lib.hid hql; have H4 := Lib.hid h4l; have HH' := Lib.hid HH; have HS' := Lib.hid HS; have HO' := Lib.hid HO
  have K31 := Lib.hid h31; have K32 := Lib.hid h32; have K33 := Lib.hid h33; have K0 := Lib.hid h0
  clear hl hr hq hql h4l hq4 e1 e2 hx hy HH HS HO h31 h32 h33 h0 ht
  rcases Nat.lt_or_ge (at_ + 4) n with hmin | hmin
  all_goals
    go_enter Tryd.func80, Tryd.ntmps80
    go_wp2_with fail
    first | rw [show ((at_ : Int) + 4).toNat - at_ = 4 from by omega] | rw [show n - at_ = 4 from by omega] | skip
    refine (newReader_any _ _ _ q4 _ H4.out HR4.out (by omega)).mono ?_
    rintro e w1 ⟨g, gb, rfl, hg, hgb, hra, hb1⟩
    have HA := Lib.hid hra; have HB1 := Lib.hid hb1; clear hra hb1
    go_wp2_with fail
    refine (u16_ok g gb q4 0 _ HA.out (by have := H4.out; omega) (by have := H4.out; omega)).mono ?_
    rintro e w2 ⟨rfl, hra2, hgr⟩
    have HA2 := Lib.hid hra2; have HB2 := Lib.hid (HB1.out.grown hgr HB1.out.size (fun k hk => by cases hk; exact hg)); clear hra2 hgr
    rw [E1.out]
    go_wp2_with fail
    refine (u16_ok g gb q4 (0 + 2) _ HA2.out (by have := H4.out; omega) (by have := H4.out; omega)).mono ?_
    rintro e w3 ⟨rfl, hra3, hgr⟩
    have HA3 := Lib.hid hra3; have HB3 := Lib.hid (HB2.out.grown hgr HB2.out.size (fun k hk => by cases hk; exact hg)); clear hra3 hgr
    rw [E2.out]
    go_wp2_with fail
    refine (err_any g gb q4 (0 + 2 + 2) .nilIface _ HA3.out).mono ?_
    rintro e w3' ⟨rfl, rfl⟩
    go_wp2_with fail
    refine (Is_nil 10 _).mono ?_
    rintro e w3' ⟨rfl, rfl⟩
    by_cases c1 : x + y = 65535
    · have t1 : ((x : Int) + (y : Int) != 65535) = false := by rw [bne_eq_false_iff_eq]; omega
      have C1 := Lib.hid c1; clear c1
      by_cases c2 : 1 ≤ x
      · by_cases c3 : x ≤ 64
        · by_cases c4 : n - at_ < x + 8
          · go_wp2_with fail
            refine (wrap_new _ _ _).mono ?_
            rintro e w4 ⟨g4, rfl, hN⟩
            have HN := Lib.hid (hN.after (w := w) HB3.out); clear hN
            go_wp2
            exact K32.out (HH'.out.2 ⟨C1.out, c2, c3⟩) c4 _ _ ⟨g4, rfl, HN.out⟩
          · first
            | (exfalso; omega)
            | (go_wp2_with fail
               rw [show at_ + x + 8 - at_ = x + 8 from by omega]
               refine (open_any _ _ _ (q.take (x + 8)) _ (by have := HQ.out; simp; omega) ((HR.out.take (x + 8)).step HB3.out) (by omega) (by omega) (by omega) (HT.out.step HB3.out)).mono ?_
               intro e w4 hop
               rcases opened_rec hop (by have := HQ.out; omega) with ⟨hs, g4, rfl, hg4, hrow, hb4⟩ | ⟨hs, g4, rfl, hnf⟩
               · have HSS := Lib.hid hs; have HRW := Lib.hid hrow; have HB4 := Lib.hid (HB3.out.trans (hb4.mono HB3.out.size)); have hg4' : w.heap.size ≤ g4 := Nat.le_trans HB3.out.size hg4
                 clear hs hrow hb4 hop
                 go_wp2_with fail
                 refine (Is_nil 11 _).mono ?_
                 rintro e w5 ⟨rfl, rfl⟩
                 go_wp2
                 exact K0.out (HH'.out.2 ⟨C1.out, c2, c3⟩) (by omega) (HS'.out.2 HSS.out) _ _ ((HO'.out _ _).2 ⟨g4, rfl, hg4', HRW.out, HB4.out⟩)
               · have HSS := Lib.hid hs; have HNF := Lib.hid hnf
                 clear hs hnf hop
                 go_wp2_with fail
                 refine (Is_fault g4 _ 11 11 _ HNF.out.2.1).mono ?_
                 rintro e w5 ⟨rfl, rfl⟩
                 go_wp2_with fail
                 refine (wrap_new _ _ _).mono ?_
                 rintro e w6 ⟨g6, rfl, hN⟩
                 have HN := Lib.hid (hN.after (w := w) (HB3.out.trans (HNF.out.2.2.mono HB3.out.size))); clear hN
                 go_wp2
                 exact K33.out (HH'.out.2 ⟨C1.out, c2, c3⟩) (by omega) (fun h => HSS.out (HS'.out.1 h)) _ _ ⟨g6, rfl, HN.out⟩)
        · go_wp2_with fail
          refine (wrap_new _ _ _).mono ?_
          rintro e w4 ⟨g4, rfl, hN⟩
          have HN := Lib.hid (hN.after (w := w) HB3.out); clear hN
          go_wp2
          exact K31.out (fun h => c3 (HH'.out.1 h).2.2) _ _ ⟨g4, rfl, HN.out⟩
      · go_wp2_with fail
        refine (wrap_new _ _ _).mono ?_
        rintro e w4 ⟨g4, rfl, hN⟩
        have HN := Lib.hid (hN.after (w := w) HB3.out); clear hN
        go_wp2
        exact K31.out (fun h => c2 (HH'.out.1 h).2.1) _ _ ⟨g4, rfl, HN.out⟩
    · have t1 : ((x : Int) + (y : Int) != 65535) = true := by rw [bne_iff_ne]; omega
      have C1 := Lib.hid c1; clear c1
      go_wp2_with fail
      refine (wrap_new _ _ _).mono ?_
      rintro e w4 ⟨g4, rfl, hN⟩
      have HN := Lib.hid (hN.after (w := w) HB3.out); clear hN
      go_wp2
      exact K31.out (fun h => C1.out (HH'.out.1 h).1) _ _ ⟨g4, rfl, HN.out⟩
end Go.Proofs.YtoophonmonojcaaDoor

/- Slices of byte slices that the call itself owns; the scan as a function on bytes; the contract of wal.record in one piece. -/
namespace Go.Proofs.YtoophonmonojcaaDoor
open Go.RowKit

/-- The value v is a slice of bytes that holds p: of old memory (below block L), or in a row of bytes from B on. -/
def Elem (w : World) (L B : Nat) (v : Value) (p : List UInt8) : Prop :=
  ∃ ao cap, v = .slice ao p.length cap ∧ p.length ≤ cap ∧ Rd w ao p ∧ (ao = none → cap = 0) ∧ (p ≠ [] → ∀ a, ao = some a → a.block < L ∨ (B ≤ a.block ∧ ∃ cs, w.heap[a.block]? = some (.cells cs 5 (0, 0))))
/-- Where the blocks that its bytes lie in are as they were. -/
theorem Elem.same {w w' : World} {L B : Nat} {v : Value} {p : List UInt8} (h : Elem w L B v p) (hk : ∀ k, k < w.heap.size → (k < L ∨ ∃ cs, w.heap[k]? = some (.cells cs 5 (0, 0))) → w'.heap[k]? = w.heap[k]?) : Elem w' L B v p := by
  obtain ⟨ao, cap, h1, h2, h3, h4, h5⟩ := h
  have key : p ≠ [] → ∀ a, ao = some a → w'.heap[a.block]? = w.heap[a.block]? := by
    intro hp a ha
    obtain ⟨b, off, e, hc⟩ := h3 0 (List.length_pos_iff.2 hp)
    rw [ha] at e
    cases e
    rcases h5 hp _ ha with h6 | ⟨_, h6⟩
    · exact hk _ (block_lt hc) (.inl h6)
    · exact hk _ (block_lt hc) (.inr h6)
  refine ⟨ao, cap, h1, h2, ?_, h4, fun hp a ha => ?_⟩
  · intro i hi
    obtain ⟨b, off, e, hc⟩ := h3 i hi
    exact ⟨b, off, e, (World.cell?_of_block (w := w) (a := ⟨b, off + i, none⟩) (key (fun h => by rw [h] at hi; simp at hi) ⟨b, off, none⟩ e)).trans hc⟩
  · rcases h5 hp a ha with h6 | ⟨h6, cs, h7⟩
    · exact .inl h6
    · exact .inr ⟨h6, cs, (key hp a ha).trans h7⟩
theorem Elem.keep {w w' : World} {L B : Nat} {v : Value} {p : List UInt8} (h : Elem w L B v p) (hb : Below w.heap.size w w') : Elem w' L B v p := h.same fun k hk _ => hb.block k hk
/-- Where one block from B on that is no row of bytes may have turned. -/
theorem Elem.grown {w w' : World} {L B : Nat} {v : Value} {p : List UInt8} (h : Elem w L B v p) (hL : L ≤ B) {r : Option Nat} (hg : w.grownBy w' r) (hr : ∀ g, r = some g → B ≤ g ∧ ∃ cs t fr, w.heap[g]? = some (.cells cs t fr) ∧ t ≠ 5) : Elem w' L B v p := by
  refine h.same fun k hk hor => hg.block k hk fun e => ?_
  obtain ⟨hB, cs', t, fr, h6, h7⟩ := hr _ e.symm
  rcases hor with hor | ⟨cs, hcs⟩
  · omega
  · rw [hcs] at h6
    cases h6
    exact h7 rfl

/-- The value v owns the lists ps. -/
def OwnRows (w : World) (L B : Nat) (v : Value) (ps : List (List UInt8)) : Prop :=
  ∃ vs, w.ownsRow B 27 1 v ps.length vs ∧ vs.length = ps.length ∧ ∀ (i : Nat) (x : Value) (p : List UInt8), vs[i]? = some x → ps[i]? = some p → Elem w L B x p
theorem OwnRows.nil (w : World) (L B : Nat) : OwnRows w L B (.slice none 0 0) [] := ⟨[], World.ownsRow_nil w B 27 1, rfl, fun i x p h => by simp at h⟩
theorem ownsRow_keep {w w' : World} {B e size n : Nat} {v : Value} {xs : List Value} (h : w.ownsRow B e size v n xs) (hb : Below w.heap.size w w') : w'.ownsRow B e size v n xs := by
  obtain ⟨h1, h2⟩ := h
  refine ⟨h1, ?_⟩
  rcases h2 with h2 | ⟨g, cap, cur, hv, hB, hg, r⟩
  · exact .inl h2
  · exact .inr ⟨g, cap, cur, hv, hB, (hb.block g (heap_lt hg)).trans hg, r⟩
theorem OwnRows.keep {w w' : World} {L B : Nat} {v : Value} {ps : List (List UInt8)} (h : OwnRows w L B v ps) (hb : Below w.heap.size w w') : OwnRows w' L B v ps := by
  obtain ⟨vs, h1, h2, h3⟩ := h
  exact ⟨vs, ownsRow_keep h1 hb, h2, fun i x p hx hp => (h3 i x p hx hp).keep hb⟩
theorem OwnRows.shape {w : World} {L B : Nat} {v : Value} {ps : List (List UInt8)} (h : OwnRows w L B v ps) :
    ∃ ao cap, v = .slice ao ps.length cap ∧ ps.length ≤ cap ∧ (ao = none → ps = [] ∧ cap = 0) ∧ ∀ a, ao = some a → ∃ g, a = ⟨g, 0, none⟩ ∧ B ≤ g ∧ ∃ cur, w.heap[g]? = some (.cells cur 27 (0, 0)) ∧ ∀ (i : Nat) (p : List UInt8), ps[i]? = some p → ∃ x, w.cell? ⟨g, i, none⟩ = some x ∧ Elem w L B x p := by
  obtain ⟨vs, h1, h2, h3⟩ := h
  rcases h1.2 with ⟨rfl, h0⟩ | ⟨g, cap, cur, rfl, hB, hg, hn, hm, hs, ht⟩
  · have : ps = [] := List.eq_nil_of_length_eq_zero h0
    subst this
    exact ⟨none, 0, rfl, Nat.le_refl _, fun _ => ⟨rfl, rfl⟩, fun a h => by cases h⟩
  · refine ⟨some ⟨g, 0, none⟩, cap, rfl, hn, (fun h => by cases h), fun a ha => ?_⟩
    cases ha
    refine ⟨g, rfl, hB, cur, hg, fun i p hp => ?_⟩
    have hi : i < vs.length := by rw [h2]; exact (List.getElem?_eq_some_iff.1 hp).1
    refine ⟨vs[i], ?_, h3 i _ p (List.getElem?_eq_getElem hi) hp⟩
    have e : cur.toList[i]? = vs[i]? := by
      rw [← ht, List.getElem?_take, if_pos (by omega)]
    simp only [World.cell?, hg, Option.isSome_none, Bool.false_eq_true, if_false]
    rw [← Array.getElem?_toList, e, List.getElem?_eq_getElem hi]
theorem OwnRows.cellsAre {w : World} {L B : Nat} {v : Value} {ps : List (List UInt8)} (h : OwnRows w L B v ps) : ∀ g, v.ownBlock = some g → B ≤ g ∧ ∃ cs t fr, w.heap[g]? = some (.cells cs t fr) ∧ t ≠ 5 := by
  intro g hg
  obtain ⟨vs, h1, _, _⟩ := h
  rcases h1.2 with ⟨rfl, _⟩ | ⟨g', cap, cur, rfl, hB, hg', _⟩
  · simp [Value.ownBlock] at hg
  · simp [Value.ownBlock] at hg; subst hg; exact ⟨hB, _, _, _, hg', by decide⟩
theorem OwnRows.grown {w w0 w' : World} {L B : Nat} {v : Value} {ps : List (List UInt8)} (h : OwnRows w L B v ps) (hb : Below B w0 w) (hB : B ≤ w.heap.size) (hg : w.grownBy w' v.ownBlock) : Below B w0 w' := by
  refine hb.grown hg hB fun k hk => ?_
  obtain ⟨vs, h1, _, _⟩ := h
  rcases h1.2 with ⟨rfl, _⟩ | ⟨g', cap, cur, rfl, hB', hg', _⟩
  · simp [Value.ownBlock] at hk
  · simp [Value.ownBlock] at hk; subst hk; exact hB'

/-- 'list = append(list, p)', list the call's own, p a slice of bytes of the call's own: p's value lies in a block of its own just ahead. -/
theorem wpList_appendRow {w : World} {ops : Array Oper} {rest : List Oper} {o : Oper} {a : Act} {Q : Exit → Act → World → Prop} (hgd : o.guard = none) (s x : Operand)
    (ho : o.op = .call { callee := .builtin .append, args := #[s, x], argTypes := #[43, 43] })
    (L B : Nat) (hL : L ≤ B) (v : Value) (ps : List (List UInt8)) (hs : a.eval s = v) (hown : OwnRows w L B v ps) (ad : Addr) (c2 : Nat) (hx : a.eval x = .slice (some ad) 1 c2) (pv : Value) (p : List UInt8) (hcell : w.cell? ad = some pv) (hel : Elem w L B pv p)
    (hle : (ps.length + 1) * 24 ≤ 140737488355328) (hB : B ≤ w.heap.size)
    (h : ∀ v' w', OwnRows w' L B v' (ps ++ [p]) → w.grownBy w' v.ownBlock → wpList Tryd.prog ops Q rest (a.put o.dst v') w') : wpList Tryd.prog ops Q (o :: rest) a w := by
  obtain ⟨i0, hi, hz0, hz1, hz2⟩ := info_parts Tryd.infoBytes
  have hOR := hown
  obtain ⟨vs, h1, h2, h3⟩ := hown
  refine wpList_append_own _ hgd s x 43 ho B 27 i0 (.slice none 0 0) 1 24 Tryd.underlying43 hi hz0 hz1 hz2 rfl (by decide) v ps.length vs hs h1 ad 1 c2 [pv] hx rfl ?_ ?_ (by unfold maxLen; omega) hle hB ?_
  · intro j u hj
    match j, hj with
    | 0, hj => simp at hj; subst hj; simpa [Addr.add] using hcell
  · intro u hu
    simp at hu
    subst hu
    obtain ⟨ao, cap, rfl, _⟩ := hel
    rfl
  · intro v' w' h4 h5 _
    refine h v' w' ⟨vs ++ [pv], by simpa using h4, by simp [h2], ?_⟩ h5
    intro i y q hy hq
    rcases Nat.lt_or_ge i ps.length with hlt | hge
    · rw [List.getElem?_append_left (by omega)] at hy
      rw [List.getElem?_append_left hlt] at hq
      exact (h3 i y q hy hq).grown hL h5 hOR.cellsAre
    · rw [List.getElem?_append_right (by omega)] at hy
      rw [List.getElem?_append_right hge] at hq
      rw [h2] at hy
      obtain ⟨e1, e2⟩ := List.getElem?_eq_some_iff.1 hq
      simp at e1
      have e : i - ps.length = 0 := by omega
      rw [e] at hy hq
      simp at hy hq
      subst hy; subst hq
      exact hel.grown hL h5 hOR.cellsAre

/-! ### The scan -/
theorem recLen_pos {q : List UInt8} (h : recCode q = 0) : q ≠ [] := by
  rintro rfl
  simp [recCode] at h
/-- The payloads of the good part, its length, and the reason why it ends (0: none). -/
def scan (l : List UInt8) : List (List UInt8) × Nat × Nat :=
  if l = [] then ([], 0, 0)
  else if recCode l = 0 then
    let r := scan (l.drop (recLen l + 8))
    (recPay l :: r.1, recLen l + 8 + r.2.1, r.2.2)
  else ([], 0, recCode l)
termination_by l.length
decreasing_by
  rename_i h _
  have : l.length ≠ 0 := fun e => h (List.eq_nil_of_length_eq_zero e)
  simp only [List.length_drop]
  omega

theorem scan_nil : scan [] = ([], 0, 0) := by rw [scan]; simp
theorem scan_ok {q : List UInt8} (h : recCode q = 0) : scan q = (recPay q :: (scan (q.drop (recLen q + 8))).1, recLen q + 8 + (scan (q.drop (recLen q + 8))).2.1, (scan (q.drop (recLen q + 8))).2.2) := by
  rw [scan, if_neg (recLen_pos h), if_pos h]
theorem scan_bad {q : List UInt8} (h0 : q ≠ []) (h : recCode q ≠ 0) : scan q = ([], 0, recCode q) := by
  rw [scan, if_neg h0, if_neg h]
theorem recCode_ok {q : List UInt8} (h : recCode q = 0) : 1 ≤ recLen q ∧ recLen q ≤ 64 ∧ recLen q + 8 ≤ q.length ∧ headOk q ∧ sumOk q := by
  unfold recCode at h
  by_cases h1 : q.length < 4
  · rw [if_pos h1] at h; cases h
  rw [if_neg h1] at h
  by_cases h2 : headOk q
  · rw [if_neg (by simpa using h2)] at h
    by_cases h3 : q.length < recLen q + 8
    · rw [if_pos h3] at h; cases h
    rw [if_neg h3] at h
    by_cases h4 : sumOk q
    · exact ⟨h2.2.1, h2.2.2, by omega, h2, h4⟩
    · rw [if_pos h4] at h; cases h
  · rw [if_pos h2] at h; cases h
theorem recPay_length {q : List UInt8} (h : recCode q = 0) : (recPay q).length = recLen q := by
  have := recCode_ok h
  simp [recPay]; omega
/-- The payload that wal.record hands back, as an element. -/
theorem recOk_elem {w' : World} {q : List UInt8} {g B : Nat} (h : recCode q = 0) (hr : Row w' g (q.take (recLen q + 4))) (hB : B ≤ g) : Elem w' 0 B (.slice (some ⟨g, 4, none⟩) (recLen q) (recLen q)) (recPay q) := by
  have hl := recPay_length h
  refine ⟨some ⟨g, 4, none⟩, recLen q, by rw [hl], by omega, ?_, (fun h => by cases h), fun _ a ha => ?_⟩
  · have h1 := hr.rd.cut 4
    have e : (q.take (recLen q + 4)).drop 4 = recPay q := by rw [List.drop_take, recPay]; congr 1
    rw [e] at h1
    simpa using h1
  · cases ha; exact .inr ⟨hB, _, hr⟩

/-- What wal.record answers, in one piece. -/
def Recorded (w : World) (q : List UInt8) (at_ : Nat) (e : Ending) (w' : World) : Prop :=
  (recCode q = 0 ∧ RecOk w q e w') ∨ (recCode q ≠ 0 ∧ RecBad w at_ (recCode q) e w')
theorem record_any (b off n cap at_ : Nat) (l : List UInt8) (w : World) (hl : l.length = n) (hr : Rd w (some ⟨b, off, none⟩) l) (hat : at_ < n) (hcap : n ≤ cap) (hb : n ≤ 140737488355000) (ht : Tab w) :
    Calls Tryd.prog 80 #[.slice (some ⟨b, off, none⟩) n cap, .int .i64 at_] w (Recorded w (l.drop at_) at_) := by
  have hql : (l.drop at_).length = n - at_ := by simp; omega
  rcases Nat.lt_or_ge n (at_ + 4) with h4 | h4
  · refine (record_short b off n cap at_ l w hl hr hat hcap hb h4).mono fun e w' h => .inr ?_
    have : recCode (l.drop at_) = 32 := by rw [recCode, if_pos (by omega)]
    rw [this]
    exact ⟨by decide, h⟩
  · have h5 : ¬ (l.drop at_).length < 4 := by omega
    refine record_long b off n cap at_ l w hl hr h4 hcap hb ht _ ?_ ?_ ?_ ?_
    · intro h1 e w' h
      have : recCode (l.drop at_) = 31 := by rw [recCode, if_neg h5, if_pos h1]
      exact .inr (by rw [this]; exact ⟨by decide, h⟩)
    · intro h1 h2 e w' h
      have : recCode (l.drop at_) = 32 := by rw [recCode, if_neg h5, if_neg (by simpa using h1), if_pos (by omega)]
      exact .inr (by rw [this]; exact ⟨by decide, h⟩)
    · intro h1 h2 h3 e w' h
      have : recCode (l.drop at_) = 33 := by rw [recCode, if_neg h5, if_neg (by simpa using h1), if_neg (by omega), if_pos h3]
      exact .inr (by rw [this]; exact ⟨by decide, h⟩)
    · intro h1 h2 h3 e w' h
      have : recCode (l.drop at_) = 0 := by rw [recCode, if_neg h5, if_neg (by simpa using h1), if_neg (by omega), if_neg (by simpa using h3)]
      exact .inl ⟨this, h⟩
end Go.Proofs.YtoophonmonojcaaDoor

/- The contract of wal.Scan. -/
namespace Go.Proofs.YtoophonmonojcaaDoor
open Go.RowKit

/-- What wal.Scan answers. -/
def Scanned (w : World) (l : List UInt8) (e : Ending) (w' : World) : Prop :=
  ∃ v ev, e = .returned (.tuple #[v, .int .i64 (scan l).2.1, ev]) ∧ OwnRows w' 0 w.heap.size v (scan l).1 ∧
    ((ev = .nilIface ∧ (scan l).2.2 = 0) ∨ ((scan l).2.2 ≠ 0 ∧ ∃ g, ev = faultV g ∧ w'.heap[g]? = some (faultObj (scan l).2.1 (scan l).2.2))) ∧ Below w.heap.size w w'

set_option maxHeartbeats 1000000 in
theorem scan_row (b off n cap : Nat) (l : List UInt8) (w : World) (hl : l.length = n) (hr : Rd w (some ⟨b, off, none⟩) l) (hcap : n ≤ cap) (hb : n ≤ 46000000000000) (ht : Tab w) :
    Calls Tryd.prog 30 #[.slice (some ⟨b, off, none⟩) n cap] w (Scanned w l) := by
  have HL := Lib.hid hl; have HR := Lib.hid hr; have HT := Lib.hid ht; clear hl hr ht
  go_enter Tryd.func30, Tryd.ntmps30
  go_wp2
  go_step3
  go_wp2
  go_step3
  go_wp2_with fail
  go_loopw [5, 6, 7] (fun v y i wr => ∃ (k : Nat) (ps : List (List UInt8)), k ≤ n ∧ y = .nilIface ∧ i = .int .i64 k ∧ OwnRows wr 0 w.heap.size v ps ∧ Below w.heap.size w wr ∧ ps.length * 9 ≤ k ∧
      Hid ((scan l).1 = ps ++ (scan (l.drop k)).1 ∧ (scan l).2.1 = k + (scan (l.drop k)).2.1 ∧ (scan l).2.2 = (scan (l.drop k)).2.2)) (fun _ _ i _ => n - (intOf i).toNat)
  case atStart => exact ⟨0, [], Nat.zero_le _, rfl, rfl, OwnRows.nil _ _ _, Below.refl _ _, Nat.le_refl _, by simp [Hid]⟩
  case round =>
    obtain ⟨k, ps, hk, rfl, rfl, hown, hbel, hps, hsc⟩ := hrel
    have HOWN := Lib.hid hown; have HBEL := Lib.hid hbel; clear hown hbel
    by_cases hlt : k < n
    · go_wp2_with fail
      refine (record_any b off n cap k l _ HL.out (HR.out.step HBEL.out) hlt hcap (by omega) (HT.out.step HBEL.out)).mono ?_
      obtain ⟨q, hq⟩ : ∃ q, q = l.drop k := ⟨_, rfl⟩
      have hq0 : q ≠ [] := by
        intro h0
        have h1 : q.length = n - k := by rw [hq]; have := HL.out; simp; omega
        rw [h0] at h1; simp at h1; omega
      rw [← hq] at hsc
      rw [← hq]
      have HQ := Lib.hid hq; have HQ0 := Lib.hid hq0; clear hq hq0
      rintro e w1 (⟨hc, g, rfl, hg, hrow, hb1⟩ | ⟨hc, g, rfl, hnf⟩)
      · have hB : w.heap.size ≤ g := Nat.le_trans HBEL.out.size hg
        have hel := recOk_elem hc hrow hB
        have hrl := recCode_ok hc
        have hql : q.length = n - k := by rw [HQ.out]; have := HL.out; simp; omega
        obtain ⟨r, hr⟩ : ∃ r, r = recLen q := ⟨_, rfl⟩
        rw [← hr] at hel hrl
        rw [← hr]
        have hr1 := hrl.1
        have hr2 := hrl.2.1
        have hr3 : r + 8 ≤ n - k := by have := hrl.2.2.1; omega
        have HEL := Lib.hid hel; have HC := Lib.hid hc; have HR' := Lib.hid hr
        have HOWN1 := Lib.hid (HOWN.out.keep (hb1)); have HBEL1 := Lib.hid (HBEL.out.trans (hb1.mono HBEL.out.size))
        clear hel hc hr hrl hql hrow hb1
        go_wp2_with (at_builtin; go_must (with_reducible refine wpList_appendRow rfl (.tmp 20) (.tmp 22) rfl 0 w.heap.size (Nat.zero_le _) u5 ps rfl (HOWN1.out.keep ((Below.refl _ w1).alloc (Nat.le_refl _) _)) ⟨w1.heap.size, 0, none⟩ 1 rfl _ (recPay q) (by simp) (HEL.out.keep ((Below.refl _ w1).alloc (Nat.le_refl _) _)) (by omega) (by have := HBEL1.out.size; simp; omega) ?_); intro v2 w2 ho2 hg2; have HO2 := Lib.hid ho2; have HG2 := Lib.hid hg2; clear ho2 hg2)
        go_roundw
        case rel =>
          have hB1 := HBEL1.out
          have hB2 := (HOWN1.out.keep ((Below.refl _ w1).alloc (Nat.le_refl _) (.cells #[.slice (some ⟨g, 4, none⟩) r r] 27))).grown (hB1.alloc hB1.size _) (by have := hB1.size; simp; omega) HG2.out
          have e1 : q.drop (r + 8) = l.drop (k + (r + 8)) := by rw [HQ.out, List.drop_drop]
          have e2 := scan_ok HC.out
          rw [← HR'.out, e1] at e2
          have e3 := hsc.out
          rw [e2] at e3
          dsimp only at e3
          refine ⟨k + (r + 8), ps ++ [recPay q], by omega, rfl, by go_num, HO2.out, hB2, by simp; omega, ?_⟩
          refine ⟨by rw [e3.1]; simp, by rw [e3.2.1]; omega, e3.2.2⟩
        case measure => simp [intOf]; omega
      · have HC := Lib.hid hc; have HNF := Lib.hid hnf; clear hc hnf
        go_wp2_with fail
        rw [Exit.noGoto_ret]
        go_ret3
        have e2 := scan_bad HQ0.out HC.out
        have e3 := hsc.out
        rw [e2] at e3
        simp only [List.append_nil, Nat.add_zero] at e3
        refine ⟨u5, faultV g, ?_, ?_, .inr ⟨by rw [e3.2.2]; exact HC.out, g, rfl, ?_⟩, HBEL.out.trans (HNF.out.2.2.mono HBEL.out.size)⟩
        · rw [e3.2.1]; rfl
        · rw [e3.1]; exact HOWN.out.keep HNF.out.2.2
        · rw [e3.2.1, e3.2.2]; exact HNF.out.2.1
    · obtain rfl : k = n := by omega
      go_wp2_with fail
      rw [Exit.noGoto_ret]
      go_ret3
      have e2 : l.drop k = [] := List.drop_eq_nil_of_le (by have := HL.out; omega)
      have e3 := hsc.out
      rw [e2, scan_nil] at e3
      simp only [List.append_nil, Nat.add_zero] at e3
      refine ⟨u5, .nilIface, ?_, ?_, .inl ⟨rfl, e3.2.2⟩, HBEL.out⟩
      · rw [e3.2.1]; rfl
      · rw [e3.1]; exact HOWN.out

/-- No byte: nothing to scan. -/
theorem scan_empty (ao : Option Addr) (cap : Nat) (w : World) : Calls Tryd.prog 30 #[.slice ao 0 cap] w (Scanned w []) := by
  go_enter Tryd.func30, Tryd.ntmps30
  go_wp2
  go_step3
  go_wp2
  go_step3
  go_wp2_with fail
  refine wp_loop_rounds 1 ?_
  rw [rounds_succ]
  go_wp2_with fail
  rw [Exit.noGoto_ret]
  go_ret3
  refine ⟨.slice none 0 0, .nilIface, ?_, ?_, .inl ⟨rfl, ?_⟩, Below.refl _ _⟩
  · rw [scan_nil]; rfl
  · rw [scan_nil]; exact OwnRows.nil _ _ _
  · rw [scan_nil]
theorem scan_any (ao : Option Addr) (n cap : Nat) (l : List UInt8) (w : World) (hl : l.length = n) (hr : Rd w ao l) (hcap : n ≤ cap) (hb : n ≤ 46000000000000) (ht : Tab w) :
    Calls Tryd.prog 30 #[.slice ao n cap] w (Scanned w l) := by
  rcases Nat.eq_zero_or_pos n with h0 | h0
  · subst h0
    obtain rfl : l = [] := List.eq_nil_of_length_eq_zero hl
    exact scan_empty ao cap w
  · obtain ⟨b, off, rfl, _, _⟩ := hr.some (by omega)
    exact scan_row b off n cap l w hl hr hcap hb ht
end Go.Proofs.YtoophonmonojcaaDoor

/- Several texts laid as one, in this order: Eq, EqAll, Plain03, Fixed, Fit, PlainScan, Among, Within. -/
import Derived.Test.YtoophonmonojcaaDoorGRec
import Derived.Test.YtoophonmonojcaaDoorGCrc
/- Contracts of the laws' comparison of byte lists. -/
namespace Go.Proofs.YtoophonmonojcaaDoor
open Go.RowKit

/-- The call answers v, and has only read. -/
def RetQ (w : World) (v : Value) (e : Ending) (w' : World) : Prop := e = .returned v ∧ ∃ k, w.drewN k = w'
theorem RetQ.below {w : World} {v : Value} {e : Ending} {w' : World} (h : RetQ w v e w') : e = .returned v ∧ Below w.heap.size w w' := by
  obtain ⟨h1, k, rfl⟩ := h
  exact ⟨h1, below_drewN (Below.refl _ _) k⟩

theorem drewN_two (w : World) (a b : Nat) : w.drewN (a + b) = (w.drewN a).drewN b := by simp [World.drewN, Nat.add_assoc]
theorem ne_of_take {l m : List UInt8} {k : Nat} (h : l.getD k 0 ≠ m.getD k 0) : l ≠ m := fun e => h (by rw [e])
theorem take_succ_eq {l m : List UInt8} {k : Nat} (h1 : k < l.length) (h2 : k < m.length) (h : l.take k = m.take k) (hk : l.getD k 0 = m.getD k 0) : l.take (k + 1) = m.take (k + 1) := by
  rw [take_snoc l k h1, take_snoc m k h2, h, hk]
theorem byte_neq (a b : UInt8) : ((a.toNat : Int) != (b.toNat : Int)) = !(a == b) := by
  by_cases h : a = b
  · rw [h, bne_self_eq_false, beq_self_eq_true]; rfl
  · have h1 : ¬ (a.toNat : Int) = (b.toNat : Int) := fun e => h (UInt8.toNat_inj.1 (by omega))
    rw [bne_iff_ne.2 h1, beq_eq_false_iff_ne.2 h]; rfl
set_option maxRecDepth 100000 in
set_option maxHeartbeats 1000000 in
theorem law03_eq_any (a1 a2 : Option Addr) (n1 c1 n2 c2 : Nat) (l m : List UInt8) (w : World) (h1 : l.length = n1) (h2 : m.length = n2) (r1 : Rd w a1 l) (r2 : Rd w a2 m) (hb : n1 ≤ 140737488355328) :
    Calls Tryd.prog 42 #[.slice a1 n1 c1, .slice a2 n2 c2] w (RetQ w (.bool (l == m))) := by
  by_cases hn : n1 = n2
  · subst hn
    rcases Nat.eq_zero_or_pos n1 with h0 | h0
    · subst h0
      obtain rfl : l = [] := List.eq_nil_of_length_eq_zero h1
      obtain rfl : m = [] := List.eq_nil_of_length_eq_zero h2
      clear r1 r2 h1 h2
      go_enter Tryd.func42, Tryd.ntmps42
      go_wp2
      refine wp_loop_rounds 1 ?_
      rw [rounds_succ]
      go_wp2
      go_ret
      exact ⟨rfl, 0, rfl⟩
    · obtain ⟨b1, o1, rfl, _, k1⟩ := r1.some (by omega)
      obtain ⟨b2, o2, rfl, _, k2⟩ := r2.some (by omega)
      rw [h1] at k1
      rw [h2] at k2
      have H1 := Lib.hid h1; have H2 := Lib.hid h2
      clear r1 r2 h1 h2
      go_enter Tryd.func42, Tryd.ntmps42
      go_wp2
      go_loopw [5] (fun i wr => ∃ k nq : Nat, k ≤ n1 ∧ i = .int .i64 k ∧ wr = w.drewN nq ∧ Hid (l.take k = m.take k)) (fun i _ => n1 - (intOf i).toNat)
      case atStart => exact ⟨0, 0, Nat.zero_le _, rfl, rfl, rfl⟩
      case round =>
        obtain ⟨k, nq, hk, rfl, rfl, he⟩ := hrel
        by_cases hlt : k < n1
        · have g1 := k1 k hlt
          have g2 := k2 k hlt
          clear k1 k2
          have ht := byte_neq (l.getD k 0) (m.getD k 0)
          cases hb : (l.getD k 0 == m.getD k 0)
          · rw [hb, List.getD_eq_getElem?_getD, List.getD_eq_getElem?_getD] at ht
            simp only [Bool.not_false] at ht
            have HB := Lib.hid hb; clear hb
            go_wp2
            go_quiet (fail)
            go_wp2
            go_ret
            have hne : l ≠ m := ne_of_take (by simpa using HB.out)
            exact ⟨ret_bool (by simp [hne]), _, drewN_two _ _ _⟩
          · rw [hb, List.getD_eq_getElem?_getD, List.getD_eq_getElem?_getD] at ht
            simp only [Bool.not_true] at ht
            have HB := Lib.hid hb; clear hb
            go_wp2
            go_quiet (fail)
            go_wp2
            go_roundw
            case rel =>
              refine ⟨k + 1, _, by omega, by go_num, rfl, ?_⟩
              exact take_succ_eq (by have := H1.out; omega) (by have := H2.out; omega) he.out (by simpa using HB.out)
            case measure => simp [intOf]; omega
        · obtain rfl : k = n1 := by omega
          clear k1 k2
          go_wp2
          go_ret
          have e := he.out
          rw [List.take_of_length_le (by have := H1.out; omega), List.take_of_length_le (by have := H2.out; omega)] at e
          exact ⟨ret_bool (by simp [e]), _, rfl⟩
  · have t : ((n1 : Int) != (n2 : Int)) = true := by rw [bne_iff_ne]; omega
    have hne : l ≠ m := fun e => hn (by rw [← h1, ← h2, e])
    have HN := Lib.hid hne; clear hn h1 h2 r1 r2 hne
    go_enter Tryd.func42, Tryd.ntmps42
    go_wp2
    go_ret
    exact ⟨ret_bool (by simpa using HN.out), 0, rfl⟩
set_option maxRecDepth 100000 in
set_option maxHeartbeats 1000000 in
theorem law06_eq_any (a1 a2 : Option Addr) (n1 c1 n2 c2 : Nat) (l m : List UInt8) (w : World) (h1 : l.length = n1) (h2 : m.length = n2) (r1 : Rd w a1 l) (r2 : Rd w a2 m) (hb : n1 ≤ 140737488355328) :
    Calls Tryd.prog 51 #[.slice a1 n1 c1, .slice a2 n2 c2] w (RetQ w (.bool (l == m))) := by
  by_cases hn : n1 = n2
  · subst hn
    rcases Nat.eq_zero_or_pos n1 with h0 | h0
    · subst h0
      obtain rfl : l = [] := List.eq_nil_of_length_eq_zero h1
      obtain rfl : m = [] := List.eq_nil_of_length_eq_zero h2
      clear r1 r2 h1 h2
      go_enter Tryd.func51, Tryd.ntmps51
      go_wp2
      refine wp_loop_rounds 1 ?_
      rw [rounds_succ]
      go_wp2
      go_ret
      exact ⟨rfl, 0, rfl⟩
    · obtain ⟨b1, o1, rfl, _, k1⟩ := r1.some (by omega)
      obtain ⟨b2, o2, rfl, _, k2⟩ := r2.some (by omega)
      rw [h1] at k1
      rw [h2] at k2
      have H1 := Lib.hid h1; have H2 := Lib.hid h2
      clear r1 r2 h1 h2
      go_enter Tryd.func51, Tryd.ntmps51
      go_wp2
      go_loopw [5] (fun i wr => ∃ k nq : Nat, k ≤ n1 ∧ i = .int .i64 k ∧ wr = w.drewN nq ∧ Hid (l.take k = m.take k)) (fun i _ => n1 - (intOf i).toNat)
      case atStart => exact ⟨0, 0, Nat.zero_le _, rfl, rfl, rfl⟩
      case round =>
        obtain ⟨k, nq, hk, rfl, rfl, he⟩ := hrel
        by_cases hlt : k < n1
        · have g1 := k1 k hlt
          have g2 := k2 k hlt
          clear k1 k2
          have ht := byte_neq (l.getD k 0) (m.getD k 0)
          cases hb : (l.getD k 0 == m.getD k 0)
          · rw [hb, List.getD_eq_getElem?_getD, List.getD_eq_getElem?_getD] at ht
            simp only [Bool.not_false] at ht
            have HB := Lib.hid hb; clear hb
            go_wp2
            go_quiet (fail)
            go_wp2
            go_ret
            have hne : l ≠ m := ne_of_take (by simpa using HB.out)
            exact ⟨ret_bool (by simp [hne]), _, drewN_two _ _ _⟩
          · rw [hb, List.getD_eq_getElem?_getD, List.getD_eq_getElem?_getD] at ht
            simp only [Bool.not_true] at ht
            have HB := Lib.hid hb; clear hb
            go_wp2
            go_quiet (fail)
            go_wp2
            go_roundw
            case rel =>
              refine ⟨k + 1, _, by omega, by go_num, rfl, ?_⟩
              exact take_succ_eq (by have := H1.out; omega) (by have := H2.out; omega) he.out (by simpa using HB.out)
            case measure => simp [intOf]; omega
        · obtain rfl : k = n1 := by omega
          clear k1 k2
          go_wp2
          go_ret
          have e := he.out
          rw [List.take_of_length_le (by have := H1.out; omega), List.take_of_length_le (by have := H2.out; omega)] at e
          exact ⟨ret_bool (by simp [e]), _, rfl⟩
  · have t : ((n1 : Int) != (n2 : Int)) = true := by rw [bne_iff_ne]; omega
    have hne : l ≠ m := fun e => hn (by rw [← h1, ← h2, e])
    have HN := Lib.hid hne; clear hn h1 h2 r1 r2 hne
    go_enter Tryd.func51, Tryd.ntmps51
    go_wp2
    go_ret
    exact ⟨ret_bool (by simpa using HN.out), 0, rfl⟩
end Go.Proofs.YtoophonmonojcaaDoor

/- Slices of byte slices that are read; the laws' comparison of them. -/
namespace Go.Proofs.YtoophonmonojcaaDoor
open Go.RowKit

theorem quiet_Q {P : Program} {f : FuncId} {args : Array Value} {w : World} {n : Nat} {v : Value} (h : Calls P f args (w.drewN n) (RetQ (w.drewN n) v)) :
    Calls P f args (w.drewN n) fun e w'' => e = .returned v ∧ ∃ m, w'' = w.drewN m :=
  h.mono fun _ _ ⟨he, m, hm⟩ => ⟨he, n + m, by rw [← hm, drewN_two]⟩

theorem quiet_Q2 {P : Program} {f : FuncId} {args : Array Value} {w : World} {a b : Nat} {v : Value} (h : Calls P f args (w.drewN (a + b)) (RetQ (w.drewN (a + b)) v)) :
    Calls P f args (w.drewN (a + b)) fun e w'' => e = .returned v ∧ ∃ n, w'' = w.drewN (a + n) :=
  h.mono fun _ _ ⟨he, m, hm⟩ => ⟨he, b + m, by rw [← hm, ← drewN_two, Nat.add_assoc]⟩

/-- The value v is a slice that reads as the bytes p. -/
def Sl (w : World) (v : Value) (p : List UInt8) : Prop := ∃ ao cap, v = .slice ao p.length cap ∧ p.length ≤ cap ∧ Rd w ao p ∧ (ao = none → cap = 0)
theorem Sl.step {w w' : World} {v : Value} {p : List UInt8} (h : Sl w v p) (hb : Below w.heap.size w w') : Sl w' v p := by
  obtain ⟨ao, cap, h1, h2, h3, h4⟩ := h
  exact ⟨ao, cap, h1, h2, h3.step hb, h4⟩
theorem Elem.sl {w : World} {L B : Nat} {v : Value} {p : List UInt8} (h : Elem w L B v p) : Sl w v p := by
  obtain ⟨ao, cap, h1, h2, h3, h4, _⟩ := h
  exact ⟨ao, cap, h1, h2, h3, h4⟩
/-- The cells at 'ao' are slices that read as the lists ps. -/
def RdRows (w : World) (ao : Option Addr) (ps : List (List UInt8)) : Prop :=
  ∀ i, i < ps.length → ∃ b off x, ao = some ⟨b, off, none⟩ ∧ w.cell? ⟨b, off + i, none⟩ = some x ∧ Sl w x (ps.getD i [])
theorem RdRows.step {w w' : World} {ao : Option Addr} {ps : List (List UInt8)} (h : RdRows w ao ps) (hb : Below w.heap.size w w') : RdRows w' ao ps := by
  intro i hi
  obtain ⟨b, off, x, e, hc, hs⟩ := h i hi
  exact ⟨b, off, x, e, (hb.cell (p := ⟨b, off + i, none⟩) (block_lt hc)).trans hc, hs.step hb⟩
theorem RdRows.some {w : World} {ao : Option Addr} {ps : List (List UInt8)} (h : RdRows w ao ps) (hp : 0 < ps.length) :
    ∃ b off, ao = Option.some ⟨b, off, none⟩ ∧ b < w.heap.size ∧ ∀ i, i < ps.length → ∃ x, w.cell? ⟨b, off + i, none⟩ = Option.some x ∧ Sl w x (ps.getD i []) := by
  obtain ⟨b, off, x, e, hc, _⟩ := h 0 hp
  refine ⟨b, off, e, block_lt hc, fun i hi => ?_⟩
  obtain ⟨b', off', x', e', hc', hs'⟩ := h i hi
  rw [e] at e'
  cases e'
  exact ⟨x', hc', hs'⟩
theorem OwnRows.read {w : World} {L B : Nat} {v : Value} {ps : List (List UInt8)} (h : OwnRows w L B v ps) : ∃ ao cap, v = .slice ao ps.length cap ∧ ps.length ≤ cap ∧ RdRows w ao ps ∧ (ao = none → cap = 0) := by
  obtain ⟨ao, cap, h1, h2, h3, h4⟩ := h.shape
  refine ⟨ao, cap, h1, h2, ?_, fun h => (h3 h).2⟩
  intro i hi
  cases ao with
  | none => rw [(h3 rfl).1] at hi; simp at hi
  | some a =>
    obtain ⟨g, rfl, _, cur, _, hc⟩ := h4 a rfl
    obtain ⟨x, hx, hel⟩ := hc i (ps.getD i []) (by rw [List.getD_eq_getElem?_getD, List.getElem?_eq_getElem hi]; rfl)
    exact ⟨g, 0, x, rfl, by rw [Nat.zero_add]; exact hx, hel.sl⟩
theorem RdRows.take {w : World} {ao : Option Addr} {ps : List (List UInt8)} (h : RdRows w ao ps) (m : Nat) : RdRows w ao (ps.take m) := by
  intro i hi
  simp only [List.length_take] at hi
  obtain ⟨b, off, x, e, hc, hs⟩ := h i (by omega)
  refine ⟨b, off, x, e, hc, ?_⟩
  have : (ps.take m).getD i [] = ps.getD i [] := by simp [List.getD_eq_getElem?_getD, show i < m by omega]
  rw [this]; exact hs

theorem eq_any_sl (x y : Value) (p q : List UInt8) (w : World) (hx : Sl w x p) (hy : Sl w y q) (hb : p.length ≤ 140737488355328) : Calls Tryd.prog 42 #[x, y] w (RetQ w (.bool (p == q))) := by
  obtain ⟨a1, c1, rfl, _, h1, _⟩ := hx
  obtain ⟨a2, c2, rfl, _, h2, _⟩ := hy
  exact law03_eq_any a1 a2 _ c1 _ c2 p q w rfl rfl h1 h2 hb

theorem rows_take_succ {α : Type} {l m : List α} (d : α) {k : Nat} (h1 : k < l.length) (h2 : k < m.length) (h : l.take k = m.take k) (hk : l.getD k d = m.getD k d) : l.take (k + 1) = m.take (k + 1) := by
  rw [List.take_succ_eq_append_getElem h1, List.take_succ_eq_append_getElem h2, h]
  rw [List.getD_eq_getElem?_getD, List.getD_eq_getElem?_getD, List.getElem?_eq_getElem h1, List.getElem?_eq_getElem h2] at hk
  simp only [Option.getD_some] at hk
  rw [hk]

set_option maxRecDepth 100000 in
set_option maxHeartbeats 1000000 in
theorem eqAll_any (a1 a2 : Option Addr) (n1 c1 n2 c2 : Nat) (ps qs : List (List UInt8)) (w : World) (h1 : ps.length = n1) (h2 : qs.length = n2) (r1 : RdRows w a1 ps) (r2 : RdRows w a2 qs) (hb : n1 ≤ 140737488355328)
    (hsz : ∀ p ∈ ps, p.length ≤ 140737488355328) :
    Calls Tryd.prog 36 #[.slice a1 n1 c1, .slice a2 n2 c2] w (RetQ w (.bool (ps == qs))) := by
  by_cases hn : n1 = n2
  · subst hn
    rcases Nat.eq_zero_or_pos n1 with h0 | h0
    · subst h0
      obtain rfl : ps = [] := List.eq_nil_of_length_eq_zero h1
      obtain rfl : qs = [] := List.eq_nil_of_length_eq_zero h2
      clear r1 r2 h1 h2 hsz
      go_enter Tryd.func36, Tryd.ntmps36
      go_wp2
      refine wp_loop_rounds 1 ?_
      rw [rounds_succ]
      go_wp2
      go_ret
      exact ⟨rfl, 0, rfl⟩
    · obtain ⟨b1, o1, rfl, _, k1⟩ := r1.some (by omega)
      obtain ⟨b2, o2, rfl, _, k2⟩ := r2.some (by omega)
      rw [h1] at k1
      rw [h2] at k2
      have H1 := Lib.hid h1; have H2 := Lib.hid h2; have K1 := Lib.hid k1; have K2 := Lib.hid k2; have HSZ := Lib.hid hsz
      clear r1 r2 h1 h2 k1 k2 hsz
      go_enter Tryd.func36, Tryd.ntmps36
      go_wp2
      go_loopw [5] (fun i wr => ∃ k nq : Nat, k ≤ n1 ∧ i = .int .i64 k ∧ wr = w.drewN nq ∧ Hid (ps.take k = qs.take k)) (fun i _ => n1 - (intOf i).toNat)
      case atStart => exact ⟨0, 0, Nat.zero_le _, rfl, rfl, rfl⟩
      case round =>
        obtain ⟨k, nq, hk, rfl, rfl, he⟩ := hrel
        by_cases hlt : k < n1
        · obtain ⟨x, g1, s1⟩ := K1.out k hlt
          obtain ⟨y, g2, s2⟩ := K2.out k hlt
          have hpl := HSZ.out (ps.getD k []) (by
            have := H1.out
            rw [List.getD_eq_getElem?_getD, List.getElem?_eq_getElem (by omega)]
            exact List.getElem_mem _)
          have hcall : ∀ nn : Nat, Calls Tryd.prog 42 #[x, y] (w.drewN nn) (RetQ (w.drewN nn) (.bool (ps.getD k [] == qs.getD k []))) :=
            fun nn => eq_any_sl x y _ _ _ (s1.step (below_drewN (Below.refl _ _) _)) (s2.step (below_drewN (Below.refl _ _) _)) hpl
          cases hb : (ps.getD k [] == qs.getD k [])
          all_goals
            rw [hb] at hcall
            have HB := Lib.hid hb
            have HC := Lib.hid hcall
            clear hb hcall s1 s2 hpl
          · go_wp2
            go_quiet ((go_at_call 42; exact quiet_Q2 (HC.out _)))
            go_wp2
            go_ret
            have hne : ps ≠ qs := fun e => by have := HB.out; rw [e] at this; simp at this
            exact ⟨ret_bool (by simp [hne]), _, drewN_two _ _ _⟩
          · go_wp2
            go_quiet ((go_at_call 42; exact quiet_Q2 (HC.out _)))
            go_wp2
            go_roundw
            case rel =>
              refine ⟨k + 1, _, by omega, by go_num, rfl, ?_⟩
              exact rows_take_succ [] (by have := H1.out; omega) (by have := H2.out; omega) he.out (by simpa using HB.out)
            case measure => simp [intOf]; omega
        · obtain rfl : k = n1 := by omega
          go_wp2
          go_ret
          have e := he.out
          rw [List.take_of_length_le (by have := H1.out; omega), List.take_of_length_le (by have := H2.out; omega)] at e
          exact ⟨ret_bool (by simp [e]), _, rfl⟩
  · have t : ((n1 : Int) != (n2 : Int)) = true := by rw [bne_iff_ne]; omega
    have hne : ps ≠ qs := fun e => hn (by rw [← h1, ← h2, e])
    have HN := Lib.hid hne; clear hn h1 h2 r1 r2 hne hsz
    go_enter Tryd.func36, Tryd.ntmps36
    go_wp2
    go_ret
    exact ⟨ret_bool (by simpa using HN.out), 0, rfl⟩
end Go.Proofs.YtoophonmonojcaaDoor

/- Plain laws of the records: a payload's record stands, and says its payload; joined records scanned are their payloads. -/
namespace Go.Proofs.YtoophonmonojcaaDoor

theorem u8n (x : Int) (h0 : 0 ≤ x) (h1 : x < 256) : ((u8 x).toNat : Int) = x := by rw [u8_toNat]; omega
theorem frame_parts (p r : List UInt8) : frame p ++ r = head4 p.length ++ (p ++ (le4 (sum (head4 p.length ++ p)) ++ r)) := by simp [frame, sealed]
theorem frame_recLen (p r : List UInt8) (h : p.length ≤ 64) : recLen (frame p ++ r) = p.length := by
  rw [frame_parts]
  have e0 : (head4 p.length ++ (p ++ (le4 (sum (head4 p.length ++ p)) ++ r))).getD 0 0 = u8 ((p.length : Int) / 256) := rfl
  have e1 : (head4 p.length ++ (p ++ (le4 (sum (head4 p.length ++ p)) ++ r))).getD 1 0 = u8 (p.length : Int) := rfl
  unfold recLen
  rw [e0, e1]
  have h0 := u8_toNat ((p.length : Int) / 256)
  have h1 := u8_toNat (p.length : Int)
  omega
theorem frame_recCpl (p r : List UInt8) (h : p.length ≤ 64) : recCpl (frame p ++ r) = 65535 - p.length := by
  rw [frame_parts]
  have e0 : (head4 p.length ++ (p ++ (le4 (sum (head4 p.length ++ p)) ++ r))).getD 2 0 = u8 ((65535 - (p.length : Int)) / 256) := rfl
  have e1 : (head4 p.length ++ (p ++ (le4 (sum (head4 p.length ++ p)) ++ r))).getD 3 0 = u8 (65535 - (p.length : Int)) := rfl
  unfold recCpl
  rw [e0, e1]
  have h0 := u8_toNat ((65535 - (p.length : Int)) / 256)
  have h1 := u8_toNat (65535 - (p.length : Int))
  omega
theorem frame_headOk (p r : List UInt8) (h1 : 1 ≤ p.length) (h : p.length ≤ 64) : headOk (frame p ++ r) := by
  unfold headOk
  rw [frame_recLen p r h, frame_recCpl p r h]
  omega
theorem frame_recPay (p r : List UInt8) (h : p.length ≤ 64) : recPay (frame p ++ r) = p := by
  unfold recPay
  rw [frame_recLen p r h, frame_parts]
  show (p ++ (le4 (sum (head4 p.length ++ p)) ++ r)).take p.length = p
  simp
theorem frame_take (p r : List UInt8) : (frame p ++ r).take (p.length + 4) = head4 p.length ++ p := by
  rw [frame_parts, ← List.append_assoc, List.take_append_of_le_length (by simp [head4_length]; omega), List.take_of_length_le (by simp [head4_length]; omega)]
theorem frame_sum (p r : List UInt8) : ((frame p ++ r).drop (p.length + 4)).take 4 = le4 (sum (head4 p.length ++ p)) := by
  rw [frame_parts, ← List.append_assoc, List.drop_append_of_le_length (by simp [head4_length]; omega), List.drop_eq_nil_of_le (by simp [head4_length]; omega)]
  simp [le4]
theorem frame_sumOk (p r : List UInt8) (h : p.length ≤ 64) : sumOk (frame p ++ r) := by
  unfold sumOk
  rw [frame_recLen p r h, frame_sum, frame_take]
theorem frame_recCode (p r : List UInt8) (h1 : 1 ≤ p.length) (h : p.length ≤ 64) : recCode (frame p ++ r) = 0 := by
  unfold recCode
  rw [if_neg (by simp [frame_length]; omega), if_neg (by simpa using frame_headOk p r h1 h), frame_recLen p r h, if_neg (by simp [frame_length]), if_neg (by simpa using frame_sumOk p r h)]
theorem frame_drop (p r : List UInt8) : (frame p ++ r).drop (p.length + 8) = r := by
  rw [List.drop_append_of_le_length (by rw [frame_length]; omega), List.drop_eq_nil_of_le (by rw [frame_length]; omega)]; rfl
theorem scan_frame (p r : List UInt8) (h1 : 1 ≤ p.length) (h : p.length ≤ 64) : scan (frame p ++ r) = (p :: (scan r).1, p.length + 8 + (scan r).2.1, (scan r).2.2) := by
  rw [scan_ok (frame_recCode p r h1 h), frame_recLen p r h, frame_recPay p r h, frame_drop]

/-- Payloads that may be. -/
def Fits (ps : List (List UInt8)) : Prop := ∀ p ∈ ps, 1 ≤ p.length ∧ p.length ≤ 64
/-- The records of payloads, one behind the other. -/
def joined (ps : List (List UInt8)) : List UInt8 := (ps.map frame).flatten
theorem joined_nil : joined [] = [] := rfl
theorem joined_cons (p : List UInt8) (ps : List (List UInt8)) : joined (p :: ps) = frame p ++ joined ps := by simp [joined]
theorem joined_snoc (ps : List (List UInt8)) (p : List UInt8) : joined (ps ++ [p]) = joined ps ++ frame p := by simp [joined]
theorem joined_append (ps qs : List (List UInt8)) : joined (ps ++ qs) = joined ps ++ joined qs := by simp [joined]
theorem scan_joined_append (ps : List (List UInt8)) (r : List UInt8) (h : Fits ps) : scan (joined ps ++ r) = (ps ++ (scan r).1, (joined ps).length + (scan r).2.1, (scan r).2.2) := by
  induction ps with
  | nil => simp [joined_nil]
  | cons p t ih =>
    have hp := h p (by simp)
    rw [joined_cons, List.append_assoc, scan_frame p _ hp.1 hp.2, ih (fun q hq => h q (by simp [hq]))]
    simp [frame_length]; omega
theorem scan_joined (ps : List (List UInt8)) (h : Fits ps) : scan (joined ps) = (ps, (joined ps).length, 0) := by
  have := scan_joined_append ps [] h
  rw [List.append_nil, scan_nil] at this
  simpa using this
end Go.Proofs.YtoophonmonojcaaDoor

/- The contract of jotterlaw03.fixed: it answers true. -/
namespace Go.Proofs.YtoophonmonojcaaDoor
open Go.RowKit

theorem fixed_bytes : (frame [65]).getD 0 0 = 0 ∧ (frame [65]).getD 1 0 = 1 ∧ (frame [65]).getD 2 0 = 255 ∧ (frame [65]).getD 3 0 = 254 ∧ (frame [65]).getD 4 0 = 65 := by decide +kernel
theorem scan_fixed : scan (frame [65]) = ([[65]], 9, 0) := by
  have := scan_frame [65] [] (by decide) (by decide)
  rw [List.append_nil, scan_nil] at this
  simpa using this
/-- One row: the list's value and its one element. -/
theorem OwnRows.one {w : World} {L B : Nat} {v : Value} {p : List UInt8} (h : OwnRows w L B v [p]) : ∃ g cap x, v = .slice (some ⟨g, 0, none⟩) 1 cap ∧ w.cell? ⟨g, 0, none⟩ = some x ∧ Elem w L B x p := by
  obtain ⟨ao, cap, rfl, _, h2, h3⟩ := h.shape
  cases ao with
  | none => exact absurd (h2 rfl).1 (by simp)
  | some a =>
    obtain ⟨g, rfl, _, cur, _, hc⟩ := h3 a rfl
    obtain ⟨x, hx, he⟩ := hc 0 p rfl
    exact ⟨g, cap, x, rfl, hx, he⟩

set_option maxRecDepth 100000 in
set_option maxHeartbeats 1000000 in
theorem fixed_any (w : World) (ht : Tab w) : Calls Tryd.prog 32 #[] w (RetV w (.bool true)) := by
  have HT := Lib.hid ht; clear ht
  go_enter Tryd.func32, Tryd.ntmps32
  go_wp2_with fail
  have hb0 := (Below.refl w.heap.size w).alloc (Nat.le_refl _) (.cells #[Value.int IntKind.u8 65] 5)
  have HB0 := Lib.hid hb0; clear hb0
  refine (frame_ok _ 1 1 [65] _ rfl (row_new w _ [65] rfl).rd (by omega) (by omega) (fun h => by cases h) (HT.out.step HB0.out)).mono ?_
  rintro e w1 ⟨g1, rfl, hg1, hr1, hb1⟩
  have hg1' : w.heap.size ≤ g1 := Nat.le_trans HB0.out.size hg1
  have hc := fun i hi => hr1.cell i hi
  have c0 : w1.cell? ⟨g1, 0, none⟩ = some (.int .u8 0) := by have := hc 0 (by decide); rw [fixed_bytes.1] at this; exact this
  have c1 : w1.cell? ⟨g1, 1, none⟩ = some (.int .u8 1) := by have := hc 1 (by decide); rw [fixed_bytes.2.1] at this; exact this
  have c2 : w1.cell? ⟨g1, 2, none⟩ = some (.int .u8 255) := by have := hc 2 (by decide); rw [fixed_bytes.2.2.1] at this; exact this
  have c3 : w1.cell? ⟨g1, 3, none⟩ = some (.int .u8 254) := by have := hc 3 (by decide); rw [fixed_bytes.2.2.2.1] at this; exact this
  have c4 : w1.cell? ⟨g1, 4, none⟩ = some (.int .u8 65) := by have := hc 4 (by decide); rw [fixed_bytes.2.2.2.2] at this; exact this
  have HR1 := Lib.hid hr1; have HB1 := Lib.hid (HB0.out.trans (hb1.mono HB0.out.size))
  clear hc hr1 hb1
  go_wp2_with fail
  refine (scan_any _ 9 9 (frame [65]) _ (frame_length _) HR1.out.rd (by omega) (by omega) (HT.out.step HB1.out)).mono ?_
  rintro e w2 ⟨v, ev, rfl, hv, hev, hb2⟩
  rw [scan_fixed] at hv hev
  rw [scan_fixed]
  dsimp only at hv hev
  have HB2 := Lib.hid (HB1.out.trans (hb2.mono HB1.out.size)); clear hb2
  rcases hev with ⟨rfl, _⟩ | ⟨h, _⟩
  · obtain ⟨g2, cap2, x, rfl, hx, hel⟩ := hv.one
    have HEL := Lib.hid hel; clear hel hv c0 c1 c2 c3 c4
    go_wp2_with fail
    have hsl : Sl (w2.alloc (.cells #[Value.int IntKind.u8 65] 5)) (.slice (some ⟨w2.heap.size, 0, none⟩) 1 1) [65] := ⟨_, 1, rfl, by decide, (row_new w2 _ [65] rfl).rd, (fun h => by cases h)⟩
    refine (eq_any_sl x _ [65] [65] _ (HEL.out.sl.step ((Below.refl _ w2).alloc (Nat.le_refl _) _)) hsl (by decide)).mono ?_
    intro e w3 hq
    obtain ⟨rfl, hb3⟩ := hq.below
    have HB3 := Lib.hid hb3; clear hb3 hq hsl
    go_wp2
    go_ret
    exact ⟨rfl, (HB2.out.alloc HB2.out.size _).trans (HB3.out.mono (by have := HB2.out.size; simp; omega))⟩
  · exact absurd rfl h
end Go.Proofs.YtoophonmonojcaaDoor

/- Contracts of jotterlaw03's fit and joined. -/
namespace Go.Proofs.YtoophonmonojcaaDoor
open Go.RowKit

def okLen (p : List UInt8) : Bool := decide (0 < p.length) && decide (p.length ≤ 64)
def fits (ps : List (List UInt8)) : List (List UInt8) := ps.filter okLen
theorem fits_fits (ps : List (List UInt8)) : Fits (fits ps) := by
  intro p hp
  have := (List.mem_filter.1 hp).2
  simp [okLen] at this
  omega
theorem fits_length (ps : List (List UInt8)) : (fits ps).length ≤ ps.length := List.length_filter_le _ _
theorem fits_snoc (ps : List (List UInt8)) (k : Nat) (h : k < ps.length) : fits (ps.take (k + 1)) = fits (ps.take k) ++ (if okLen (ps.getD k []) then [ps.getD k []] else []) := by
  unfold fits
  rw [List.take_succ_eq_append_getElem h, List.getD_eq_getElem?_getD, List.getElem?_eq_getElem h, List.filter_append]
  simp only [List.filter_cons, List.filter_nil, Option.getD_some]

theorem Sl.elem {w : World} {v : Value} {p : List UInt8} (h : Sl w v p) (B : Nat) : Elem w w.heap.size B v p := by
  obtain ⟨ao, cap, h1, h2, h3, h4⟩ := h
  refine ⟨ao, cap, h1, h2, h3, h4, fun hp a ha => .inl ?_⟩
  obtain ⟨b, off, e, hc⟩ := h3 0 (List.length_pos_iff.2 hp)
  rw [ha] at e
  cases e
  exact block_lt hc
theorem Elem.after {w w' : World} {L B : Nat} {v : Value} {p : List UInt8} (h : Elem w L B v p) {w0 : World} (hb : Below w.heap.size w0 w') (h0 : w0 = w) : Elem w' L B v p := h.keep (h0 ▸ hb)

/-- What fit answers. -/
def FitPost (w : World) (ps : List (List UInt8)) (e : Ending) (w' : World) : Prop := ∃ v, e = .returned v ∧ OwnRows w' w.heap.size w.heap.size v (fits ps) ∧ Below w.heap.size w w'

set_option maxRecDepth 100000 in
set_option maxHeartbeats 1000000 in
theorem fit_any (ao : Option Addr) (n cap : Nat) (ps : List (List UInt8)) (w : World) (hl : ps.length = n) (hr : RdRows w ao ps) (hb : (n + 1) * 24 ≤ 140737488355328) :
    Calls Tryd.prog 34 #[.slice ao n cap] w (FitPost w ps) := by
  rcases Nat.eq_zero_or_pos n with h0 | h0
  · subst h0
    obtain rfl : ps = [] := List.eq_nil_of_length_eq_zero hl
    clear hr hl
    go_enter Tryd.func34, Tryd.ntmps34
    go_wp2
    refine wp_loop_rounds 1 ?_
    rw [rounds_succ]
    go_wp2
    go_ret
    exact ⟨_, rfl, OwnRows.nil _ _ _, Below.refl _ _⟩
  · obtain ⟨b, off, rfl, hbw, hc⟩ := hr.some (by omega)
    rw [hl] at hc
    have HL := Lib.hid hl; have HC := Lib.hid hc; clear hl hr hc
    go_enter Tryd.func34, Tryd.ntmps34
    go_wp2
    go_loopw [3, 4] (fun v i wr => ∃ (k : Nat), k ≤ n ∧ i = .int .i64 k ∧ OwnRows wr w.heap.size w.heap.size v (fits (ps.take k)) ∧ Below w.heap.size w wr) (fun _ i _ => n - (intOf i).toNat)
    case atStart => exact ⟨0, Nat.zero_le _, rfl, OwnRows.nil _ _ _, Below.refl _ _⟩
    case round =>
      obtain ⟨k, hk, rfl, hown, hbel⟩ := hrel
      have HOWN := Lib.hid hown; have HBEL := Lib.hid hbel; clear hown hbel
      by_cases hlt : k < n
      · obtain ⟨x, hx, hs⟩ := HC.out k hlt
        obtain ⟨hc1, hf1⟩ := bcell HBEL.out
        have hsn := fits_snoc ps k (by have := HL.out; omega)
        have hfl : (fits (ps.take k)).length ≤ k := Nat.le_trans (fits_length _) (List.length_take_le _ _)
        obtain ⟨q, hq⟩ : ∃ q, q = ps.getD k [] := ⟨_, rfl⟩
        rw [← hq] at hs hsn
        have hel := hs.elem w.heap.size
        obtain ⟨ax, cx, rfl, _, _, _⟩ := hs
        obtain ⟨m, hm⟩ : ∃ m, m = q.length := ⟨_, rfl⟩
        rw [← hm] at hx hel
        have HEL := Lib.hid hel; have HSN := Lib.hid hsn; have HM := Lib.hid hm; clear hel hsn hm hq
        by_cases hm0 : 0 < m
        · by_cases hm1 : m ≤ 64
          · have hok : okLen q = true := by have := HM.out; simp [okLen]; omega
            have HOK := Lib.hid hok; clear hok
            go_wp2_with (at_builtin; go_must (with_reducible refine wpList_appendRow rfl (.tmp 25) (.tmp 30) rfl w.heap.size w.heap.size (Nat.le_refl _) u3 (fits (ps.take k)) rfl (HOWN.out.keep ((Below.refl _ wr).alloc (Nat.le_refl _) _)) ⟨wr.heap.size, 0, none⟩ 1 rfl _ q (by simp) ((HEL.out.keep HBEL.out).keep ((Below.refl _ wr).alloc (Nat.le_refl _) _)) (by omega) (by have := HBEL.out.size; simp; omega) ?_); intro v2 w2 ho2 hg2; have HO2 := Lib.hid ho2; have HG2 := Lib.hid hg2; clear ho2 hg2)
            go_roundw
            case rel =>
              have hB := HBEL.out
              refine ⟨k + 1, by omega, by go_num, ?_, ?_⟩
              · have := HSN.out
                rw [HOK.out, if_pos rfl] at this
                rw [this]; exact HO2.out
              · exact (HOWN.out.keep ((Below.refl _ wr).alloc (Nat.le_refl _) (.cells #[.slice ax m cx] 27))).grown (hB.alloc hB.size _) (by have := hB.size; simp; omega) HG2.out
            case measure => simp [intOf]; omega
          · have hok : okLen q = false := by have := HM.out; simp [okLen]; omega
            have HOK := Lib.hid hok; clear hok
            go_wp2_with fail
            go_roundw
            case rel =>
              refine ⟨k + 1, by omega, by go_num, ?_, HBEL.out⟩
              have := HSN.out
              rw [HOK.out, if_neg (by simp), List.append_nil] at this
              rw [this]; exact HOWN.out
            case measure => simp [intOf]; omega
        · have hok : okLen q = false := by have := HM.out; simp [okLen]; omega
          have HOK := Lib.hid hok; clear hok
          go_wp2_with fail
          go_roundw
          case rel =>
            refine ⟨k + 1, by omega, by go_num, ?_, HBEL.out⟩
            have := HSN.out
            rw [HOK.out, if_neg (by simp), List.append_nil] at this
            rw [this]; exact HOWN.out
          case measure => simp [intOf]; omega
      · obtain rfl : k = n := by omega
        go_wp2_with fail
        go_ret
        have h1 := HOWN.out
        rw [List.take_of_length_le (by have := HL.out; omega)] at h1
        exact ⟨_, rfl, h1, HBEL.out⟩

/-- What joined answers of payloads that all may be. -/
def JoinedPost (w : World) (ps : List (List UInt8)) (e : Ending) (w' : World) : Prop := ∃ v, e = .returned (.tuple #[v, .bool true]) ∧ Own w' w.heap.size v (joined ps) ∧ Below w.heap.size w w'
theorem joined_length_le (ps : List (List UInt8)) (h : Fits ps) : (joined ps).length ≤ 72 * ps.length := by
  induction ps with
  | nil => simp [joined_nil]
  | cons p t ih =>
    have := ih (fun q hq => h q (by simp [hq]))
    have := (h p (by simp)).2
    rw [joined_cons, List.length_append, frame_length, List.length_cons]
    omega
theorem joined_take (ps : List (List UInt8)) (k : Nat) (h : k < ps.length) : joined (ps.take (k + 1)) = joined (ps.take k) ++ frame (ps.getD k []) := by
  rw [List.take_succ_eq_append_getElem h, joined_snoc, List.getD_eq_getElem?_getD, List.getElem?_eq_getElem h]; rfl
theorem getD_mem {ps : List (List UInt8)} {k : Nat} (h : k < ps.length) : ps.getD k [] ∈ ps := by
  rw [List.getD_eq_getElem?_getD, List.getElem?_eq_getElem h]; exact List.getElem_mem _

set_option maxRecDepth 100000 in
set_option maxHeartbeats 1000000 in
theorem joined_any (ao : Option Addr) (n cap : Nat) (ps : List (List UInt8)) (w : World) (hl : ps.length = n) (hr : RdRows w ao ps) (hf : Fits ps) (hb : 72 * n ≤ 140737488355328) (ht : Tab w) :
    Calls Tryd.prog 35 #[.slice ao n cap] w (JoinedPost w ps) := by
  rcases Nat.eq_zero_or_pos n with h0 | h0
  · subst h0
    obtain rfl : ps = [] := List.eq_nil_of_length_eq_zero hl
    clear hr hl hf ht
    go_enter Tryd.func35, Tryd.ntmps35
    go_wp2
    refine wp_loop_rounds 1 ?_
    rw [rounds_succ]
    go_wp2
    go_ret2
    exact ⟨_, rfl, Own.nil _ _, Below.refl _ _⟩
  · obtain ⟨b, off, rfl, hbw, hc⟩ := hr.some (by omega)
    rw [hl] at hc
    have HL := Lib.hid hl; have HC := Lib.hid hc; have HF := Lib.hid hf; have HT := Lib.hid ht; clear hl hr hc hf ht
    go_enter Tryd.func35, Tryd.ntmps35
    go_wp2
    go_loopw [4, 5] (fun v i wr => ∃ (k : Nat), k ≤ n ∧ i = .int .i64 k ∧ Own wr w.heap.size v (joined (ps.take k)) ∧ Below w.heap.size w wr) (fun _ i _ => n - (intOf i).toNat)
    case atStart => exact ⟨0, Nat.zero_le _, rfl, Own.nil _ _, Below.refl _ _⟩
    case round =>
      obtain ⟨k, hk, rfl, hown, hbel⟩ := hrel
      have HOWN := Lib.hid hown; have HBEL := Lib.hid hbel; clear hown hbel
      by_cases hlt : k < n
      · obtain ⟨x, hx, hs⟩ := HC.out k hlt
        obtain ⟨hc1, hf1⟩ := bcell HBEL.out
        have hkl : k < ps.length := by have := HL.out; omega
        have hjt := joined_take ps k hkl
        have hfq := HF.out _ (getD_mem hkl)
        have hjl : (joined (ps.take k)).length ≤ 72 * k := by
          refine Nat.le_trans (joined_length_le _ (fun p hp => HF.out p (List.mem_of_mem_take hp))) ?_
          have := List.length_take_le k ps
          omega
        obtain ⟨q, hq⟩ : ∃ q, q = ps.getD k [] := ⟨_, rfl⟩
        rw [← hq] at hs hjt hfq
        have HJT := Lib.hid hjt
        obtain ⟨ax, cx, rfl, hqc, hrd, hnil⟩ := hs
        obtain ⟨m, hm⟩ : ∃ m, m = q.length := ⟨_, rfl⟩
        rw [← hm] at hx hfq hqc
        have HM := Lib.hid hm; have HRD := Lib.hid hrd; have HN := Lib.hid hnil
        obtain ⟨hm1, hm2⟩ := hfq
        clear hjt hkl hm hq hrd hnil
        go_wp2_with fail
        refine (frame_ok ax m cx q _ HM.out.symm (HRD.out.step HBEL.out) hm1 hm2 HN.out (HT.out.step HBEL.out)).mono ?_
        rintro e w1 ⟨g1, rfl, hg1, hr1, hb1⟩
        have HR1 := Lib.hid hr1; have HBEL1 := Lib.hid (HBEL.out.trans (hb1.mono HBEL.out.size)); have HOWN1 := Lib.hid (HOWN.out.keep hb1)
        rw [← HM.out]
        obtain ⟨hc1', hf1'⟩ := bcell HBEL1.out
        clear hr1 hb1 hc1 hf1
        go_wp2_with (at_builtin; go_must (with_reducible refine wpList_appendB rfl (.tmp 35) (.tmp 36) rfl w.heap.size u4 (joined (ps.take k)) (frame q) rfl HOWN1.out _ (m + 8) (m + 8) rfl (fun h => by cases h) (by rw [frame_length, HM.out]) HR1.out.rd (by omega) HBEL1.out.size ?_); intro v2 w2 ho2 hg2; have HO2 := Lib.hid ho2; have HG2 := Lib.hid hg2; clear ho2 hg2)
        go_roundw
        case rel =>
          refine ⟨k + 1, by omega, by go_num, ?_, Own.grown HOWN1.out HBEL1.out HBEL1.out.size HG2.out⟩
          rw [HJT.out]; exact HO2.out
        case measure => simp [intOf]; omega
      · obtain rfl : k = n := by omega
        go_wp2_with fail
        go_ret2
        have h1 := HOWN.out
        rw [List.take_of_length_le (by have := HL.out; omega)] at h1
        exact ⟨_, rfl, h1, HBEL.out⟩
end Go.Proofs.YtoophonmonojcaaDoor

/- Plain laws of the scan: what it finds is just the records at the head of the bytes; beginnings; one byte changed. -/
namespace Go.Proofs.YtoophonmonojcaaDoor

theorem u8_eq {c : UInt8} {x : Int} (h : (c.toNat : Int) = x % 256) : c = u8 x := UInt8.toNat_inj.1 (by have := u8_toNat x; omega)
/-- A list with four bytes at least, taken apart. -/
theorem four (q : List UInt8) (h : 4 ≤ q.length) : q = [q.getD 0 0, q.getD 1 0, q.getD 2 0, q.getD 3 0] ++ q.drop 4 := by
  match q, h with
  | a :: b :: c :: d :: t, _ => rfl
theorem take_four (q : List UInt8) (h : 4 ≤ q.length) : q.take 4 = [q.getD 0 0, q.getD 1 0, q.getD 2 0, q.getD 3 0] := by
  match q, h with
  | a :: b :: c :: d :: t, _ => rfl
theorem head4_num (a b c d : UInt8) (n : Nat) (hn : n = a.toNat * 256 + b.toNat) (hm : n + (c.toNat * 256 + d.toNat) = 65535) : [a, b, c, d] = head4 n := by
  have a0 := a.toNat_lt
  have a1 := b.toNat_lt
  have a2 := c.toNat_lt
  have a3 := d.toNat_lt
  have e0 : a = u8 ((n : Int) / 256) := u8_eq (by omega)
  have e1 : b = u8 (n : Int) := u8_eq (by omega)
  have e2 : c = u8 ((65535 - (n : Int)) / 256) := u8_eq (by omega)
  have e3 : d = u8 (65535 - (n : Int)) := u8_eq (by omega)
  exact congr (congrArg List.cons e0) (congr (congrArg List.cons e1) (congr (congrArg List.cons e2) (congr (congrArg List.cons e3) rfl)))
theorem head4_of (q : List UInt8) (h4 : 4 ≤ q.length) (hh : headOk q) : q.take 4 = head4 (recLen q) := by
  rw [take_four q h4]
  exact head4_num _ _ _ _ _ rfl hh.1
/-- A record that stands is the record of its payload. -/
theorem frame_of (q : List UInt8) (h : recCode q = 0) : q.take (recLen q + 8) = frame (recPay q) := by
  obtain ⟨h1, h2, h3, hh, hs⟩ := recCode_ok h
  have hp := recPay_length h
  have e4 := head4_of q (by omega) hh
  have e5 : q.take (recLen q + 4) = head4 (recLen q) ++ recPay q := by
    rw [← e4, recPay, ← List.take_add]
    congr 1
    omega
  unfold frame sealed
  rw [hp, ← e5]
  have hs' : (q.drop (recLen q + 4)).take 4 = le4 (sum (q.take (recLen q + 4))) := hs
  rw [← hs', ← List.take_add]
theorem fits_scan_aux : ∀ (n : Nat) (l : List UInt8), l.length ≤ n → Fits (scan l).1 ∧ joined (scan l).1 = l.take (scan l).2.1 ∧ (scan l).2.1 ≤ l.length ∧ ((scan l).2.2 = 0 ↔ (scan l).2.1 = l.length) ∧
    ((scan l).2.2 ≠ 0 → recCode (l.drop (scan l).2.1) = (scan l).2.2 ∧ l.drop (scan l).2.1 ≠ [])
  | n, l, hn => by
    by_cases h0 : l = []
    · subst h0
      rw [scan_nil]
      refine ⟨fun p hp => by simp at hp, rfl, by simp, by simp, fun h => absurd rfl h⟩
    · by_cases h : recCode l = 0
      · match n, hn with
        | 0, hn => exact absurd (List.eq_nil_of_length_eq_zero (by omega)) h0
        | n + 1, hn =>
          have hk := recCode_ok h
          obtain ⟨i1, i2, i3, i4, i5⟩ := fits_scan_aux n (l.drop (recLen l + 8)) (by simp; omega)
          have hp := recPay_length h
          rw [scan_ok h]
          dsimp only
          simp only [List.length_drop] at i3 i4
          refine ⟨?_, ?_, by omega, ?_, ?_⟩
          · intro p hp'
            rcases List.mem_cons.1 hp' with rfl | hp'
            · omega
            · exact i1 p hp'
          · rw [joined_cons, i2, ← frame_of l h, ← List.take_add]
          · rw [i4]; omega
          · intro hc
            rw [← List.drop_drop]
            exact i5 hc
      · rw [scan_bad h0 h]
        refine ⟨fun p hp => by simp at hp, rfl, by simp, ?_, fun _ => ⟨by simp, by simpa using h0⟩⟩
        have : l.length ≠ 0 := fun e => h0 (List.eq_nil_of_length_eq_zero e)
        simp only
        omega
theorem fits_scan (l : List UInt8) : Fits (scan l).1 ∧ joined (scan l).1 = l.take (scan l).2.1 ∧ (scan l).2.1 ≤ l.length ∧ ((scan l).2.2 = 0 ↔ (scan l).2.1 = l.length) ∧
    ((scan l).2.2 ≠ 0 → recCode (l.drop (scan l).2.1) = (scan l).2.2 ∧ l.drop (scan l).2.1 ≠ []) := fits_scan_aux l.length l (Nat.le_refl _)
theorem scan_rest (l : List UInt8) (h : (scan l).2.2 ≠ 0) : scan (l.drop (scan l).2.1) = ([], 0, (scan l).2.2) := by
  obtain ⟨h1, h2⟩ := (fits_scan l).2.2.2.2 h
  rw [scan_bad h2 (by rw [h1]; exact h), h1]

/-- How many records lie whole in the first k bytes, and where they end. -/
def Whole (ps : List (List UInt8)) (k i at_ : Nat) : Prop := i ≤ ps.length ∧ at_ = (joined (ps.take i)).length ∧ at_ ≤ k ∧ ∀ p, ps[i]? = some p → k < at_ + p.length + 8
theorem joined_split (ps : List (List UInt8)) (i : Nat) : joined ps = joined (ps.take i) ++ joined (ps.drop i) := by rw [← joined_append, List.take_append_drop]
theorem fits_take {ps : List (List UInt8)} (h : Fits ps) (i : Nat) : Fits (ps.take i) := fun p hp => h p (List.mem_of_mem_take hp)
/-- WalPrefix: a beginning of records. -/
theorem scan_prefix {ps : List (List UInt8)} (hf : Fits ps) {k i at_ : Nat} (hk : k ≤ (joined ps).length) (hw : Whole ps k i at_) :
    scan ((joined ps).take k) = (ps.take i, at_, if at_ = k then 0 else 32) := by
  obtain ⟨h1, h2, h3, h4⟩ := hw
  have e1 : (joined ps).take k = joined (ps.take i) ++ (joined (ps.drop i)).take (k - at_) := by
    rw [joined_split ps i, List.take_append, ← h2, List.take_of_length_le (by omega)]
  rw [e1, scan_joined_append _ _ (fits_take hf i), ← h2]
  by_cases hke : at_ = k
  · subst hke
    rw [Nat.sub_self, List.take_zero, scan_nil, if_pos rfl]
    simp
  · rw [if_neg hke]
    have hi : i < ps.length := by
      rcases Nat.lt_or_ge i ps.length with h | h
      · exact h
      · exfalso
        rw [List.take_of_length_le h] at h2
        omega
    have hp := h4 ps[i] (List.getElem?_eq_getElem hi)
    have hpf := hf ps[i] (List.getElem_mem hi)
    have e2 : ps.drop i = ps[i] :: ps.drop (i + 1) := (List.drop_eq_getElem_cons hi)
    obtain ⟨p, hpp⟩ : ∃ p, p = ps[i] := ⟨_, rfl⟩
    rw [← hpp] at hp hpf e2
    rw [e2, joined_cons]
    obtain ⟨m, hm⟩ : ∃ m, m = k - at_ := ⟨_, rfl⟩
    rw [← hm]
    have hm1 : m < p.length + 8 := by omega
    have hm0 : 0 < m := by omega
    have e3 : (frame p ++ joined (ps.drop (i + 1))).take m = (frame p).take m := by
      rw [List.take_append_of_le_length (by rw [frame_length]; omega)]
    rw [e3]
    have hl : ((frame p).take m).length = m := by rw [List.length_take, frame_length]; omega
    have hne : (frame p).take m ≠ [] := fun h => by rw [h] at hl; simp at hl; omega
    have hc : recCode ((frame p).take m) = 32 := by
      unfold recCode
      by_cases h4' : m < 4
      · rw [if_pos (by omega)]
      · rw [if_neg (by omega)]
        have g : ∀ j, j < 4 → ((frame p).take m).getD j 0 = (frame p ++ []).getD j 0 := by
          intro j hj
          simp [List.getD_eq_getElem?_getD, show j < m by omega]
        have hL : recLen ((frame p).take m) = recLen (frame p ++ []) := by unfold recLen; rw [g 0 (by decide), g 1 (by decide)]
        have hC : recCpl ((frame p).take m) = recCpl (frame p ++ []) := by unfold recCpl; rw [g 2 (by decide), g 3 (by decide)]
        have hH : headOk ((frame p).take m) := by
          have := frame_headOk p [] hpf.1 hpf.2
          unfold headOk at this ⊢
          rw [hL, hC]; exact this
        rw [if_neg (by simpa using hH), hL, frame_recLen p [] hpf.2, hl, if_pos hm1]
    rw [scan_bad hne (by rw [hc]; decide), hc]
    simp
end Go.Proofs.YtoophonmonojcaaDoor

/- Contracts of jotterlaw03's among and upTo. -/
namespace Go.Proofs.YtoophonmonojcaaDoor
open Go.RowKit

theorem tmod_neg (k n : Int) (hk : ¬ 0 ≤ k) (hn : 1 ≤ n) : (k.tmod n < 0 → k.tmod n + n = k % n ∧ -n < k.tmod n) ∧ (0 ≤ k.tmod n → k.tmod n = k % n) := by
  have e := Int.tmod_eq_emod (a := k) (b := n)
  have h0 := Int.emod_nonneg k (show n ≠ 0 by omega)
  have h1 := Int.emod_lt_of_pos k (show 0 < n by omega)
  have hna : (n.natAbs : Int) = n := by omega
  by_cases hd : n ∣ k
  · rw [if_pos (.inr hd)] at e
    exact ⟨fun h => by omega, fun _ => by omega⟩
  · rw [if_neg (fun h => h.elim hk hd)] at e
    have : k % n ≠ 0 := fun h => hd (Int.dvd_of_emod_eq_zero h)
    exact ⟨fun _ => by omega, fun h => by omega⟩

set_option maxRecDepth 100000 in
/-- A number from 0 to n - 1 out of any number. -/
theorem among_any (k n : Int) (w : World) (h1 : -9223372036854775808 ≤ k) (h2 : k ≤ 9223372036854775807) (h3 : 1 ≤ n) (h4 : n ≤ 1000000000000000) :
    Calls Tryd.prog 47 #[.int .i64 k, .int .i64 n] w fun e w' => e = .returned (.int .i64 (k % n)) ∧ w = w' := by
  have h0 := Int.emod_nonneg k (show n ≠ 0 by omega)
  by_cases hk : 0 ≤ k
  · go_enter Tryd.func47, Tryd.ntmps47
    go_wp2
    go_ret
    exact ⟨rfl, rfl⟩
  · have ht := tmod_neg k n hk h3
    have HT := Lib.hid ht; clear ht
    go_enter Tryd.func47, Tryd.ntmps47
    go_wp2
    · have h := HT.out.1 (by assumption)
      go_ret
      refine ⟨ret_int ?_, rfl⟩
      show wrap64 (k.tmod n + n) = k % n
      rw [← h.1]
      have h5 := h.2
      have h6 : k.tmod n < 0 := by assumption
      unfold wrap64
      omega
    · have h := HT.out.2 (by assumption)
      go_ret
      exact ⟨ret_int h, rfl⟩

/-- What upTo answers. -/
def UpToPost (w : World) (ps : List (List UInt8)) (k : Nat) (e : Ending) (w' : World) : Prop := ∃ i at_ : Nat, e = .returned (.tuple #[.int .i64 i, .int .i64 at_]) ∧ Whole ps k i at_ ∧ w = w'
theorem joined_take_length (ps : List (List UInt8)) (i : Nat) (h : i < ps.length) : (joined (ps.take (i + 1))).length = (joined (ps.take i)).length + (ps.getD i []).length + 8 := by
  rw [joined_take ps i h, List.length_append, frame_length]; omega

set_option maxRecDepth 100000 in
set_option maxHeartbeats 1000000 in
theorem upTo_any (ao : Option Addr) (n cap : Nat) (ps : List (List UInt8)) (k : Nat) (w : World) (hl : ps.length = n) (hr : RdRows w ao ps) (hf : Fits ps) (hb : n ≤ 1048576) (hk : k ≤ 1000000000) :
    Calls Tryd.prog 48 #[.slice ao n cap, .int .i64 k] w (UpToPost w ps k) := by
  rcases Nat.eq_zero_or_pos n with h0 | h0
  · subst h0
    obtain rfl : ps = [] := List.eq_nil_of_length_eq_zero hl
    clear hr hl hf
    go_enter Tryd.func48, Tryd.ntmps48
    go_wp2
    refine wp_loop_rounds 1 ?_
    rw [rounds_succ]
    go_wp2
    go_ret2
    exact ⟨0, 0, rfl, ⟨Nat.le_refl _, rfl, Nat.zero_le _, fun p hp => by simp at hp⟩, rfl⟩
  · obtain ⟨b, off, rfl, hbw, hc⟩ := hr.some (by omega)
    rw [hl] at hc
    have HL := Lib.hid hl; have HC := Lib.hid hc; have HF := Lib.hid hf; clear hl hr hc hf
    go_enter Tryd.func48, Tryd.ntmps48
    go_wp2
    go_loop [6, 7] (fun a v => ∃ (i at_ : Nat), i ≤ n ∧ v = .int .i64 i ∧ a = .int .i64 at_ ∧ at_ ≤ k ∧ Hid (at_ = (joined (ps.take i)).length)) (fun _ v => n - (intOf v).toNat)
    case atStart => exact ⟨0, 0, Nat.zero_le _, rfl, rfl, Nat.zero_le _, rfl⟩
    case round =>
      obtain ⟨i, at_, hi, rfl, rfl, hat, hj⟩ := hrel
      by_cases hlt : i < n
      · obtain ⟨x, hx, hs⟩ := HC.out i hlt
        have hil : i < ps.length := by have := HL.out; omega
        have hfq := HF.out _ (getD_mem hil)
        have hjt := joined_take_length ps i hil
        have hgi : ps[i]? = some (ps.getD i []) := by rw [List.getD_eq_getElem?_getD, List.getElem?_eq_getElem hil]; rfl
        obtain ⟨q, hq⟩ : ∃ q, q = ps.getD i [] := ⟨_, rfl⟩
        rw [← hq] at hs hfq hjt hgi
        obtain ⟨ax, cx, rfl, _, _, _⟩ := hs
        obtain ⟨m, hm⟩ : ∃ m, m = q.length := ⟨_, rfl⟩
        rw [← hm] at hx hfq hjt
        have HM := Lib.hid hm; have HJT := Lib.hid hjt; have HGI := Lib.hid hgi
        obtain ⟨hm1, hm2⟩ := hfq
        clear hm hq hjt hgi hil
        by_cases hle : at_ + m + 8 ≤ k
        · go_wp2
          go_round
          case rel =>
            refine ⟨i + 1, at_ + m + 8, by omega, by go_num, by go_num, hle, ?_⟩
            show _ = _
            rw [HJT.out, ← hj.out]
          case measure => simp [intOf]; omega
        · go_wp2
          go_ret2
          refine ⟨i, at_, rfl, ⟨by have := HL.out; omega, hj.out, hat, ?_⟩, rfl⟩
          intro p hp
          rw [HGI.out] at hp
          cases hp
          have := HM.out
          omega
      · obtain rfl : i = n := by omega
        go_wp2
        go_ret2
        refine ⟨i, at_, rfl, ⟨by have := HL.out; omega, hj.out, hat, ?_⟩, rfl⟩
        intro p hp
        have := (List.getElem?_eq_some_iff.1 hp).1
        have := HL.out
        omega
end Go.Proofs.YtoophonmonojcaaDoor

/- Contracts of jotterlaw06's within, operation, message. -/
namespace Go.Proofs.YtoophonmonojcaaDoor
open Go.RowKit

def within (v lo hi : Int) : Int := if lo ≤ v ∧ v ≤ hi then v else lo + v % (hi - lo + 1)
theorem within_ge (v lo hi : Int) (h : lo ≤ hi) : lo ≤ within v lo hi := by
  unfold within; split
  · omega
  · have := Int.emod_nonneg v (show hi - lo + 1 ≠ 0 by omega); omega
theorem within_le (v lo hi : Int) (h : lo ≤ hi) : within v lo hi ≤ hi := by
  unfold within; split
  · omega
  · have := Int.emod_lt_of_pos v (show 0 < hi - lo + 1 by omega); omega

theorem tmod_any (k n : Int) (hn : 1 ≤ n) : (k.tmod n < 0 → k.tmod n + n = k % n) ∧ (0 ≤ k.tmod n → k.tmod n = k % n) ∧ -n < k.tmod n ∧ k.tmod n < n := by
  have h0 := Int.emod_nonneg k (show n ≠ 0 by omega)
  have h1 := Int.emod_lt_of_pos k (show 0 < n by omega)
  by_cases hk : 0 ≤ k
  · have e := Int.tmod_eq_emod_of_nonneg hk (b := n)
    omega
  · have h := tmod_neg k n hk hn
    by_cases g : k.tmod n < 0
    · have := h.1 g; omega
    · have := h.2 (by omega); omega

set_option maxRecDepth 100000 in
theorem within_any (v lo hi : Int) (w : World) (h1 : -9223372036854775808 ≤ v) (h2 : v ≤ 9223372036854775807) (h3 : 0 ≤ lo) (h4 : lo ≤ hi) (h5 : hi ≤ 1000000000000000) :
    Calls Tryd.prog 24 #[.int .i64 v, .int .i64 lo, .int .i64 hi] w fun e w' => e = .returned (.int .i64 (within v lo hi)) ∧ w = w' := by
  by_cases hv : lo ≤ v ∧ v ≤ hi
  · have hv1 := hv.1
    have hv2 := hv.2
    have e : within v lo hi = v := by unfold within; rw [if_pos hv]
    rw [e]
    go_enter Tryd.func24, Tryd.ntmps24
    go_wp2
    go_ret
    exact ⟨rfl, rfl⟩
  · have e : within v lo hi = lo + v % (hi - lo + 1) := by unfold within; rw [if_neg hv]
    rw [e]
    have hm0 := Int.emod_nonneg v (show hi - lo + 1 ≠ 0 by omega)
    have hm1 := Int.emod_lt_of_pos v (show 0 < hi - lo + 1 by omega)
    have ht := tmod_any v (hi - lo + 1) (by omega)
    have hb0 := ht.2.2.1
    have hb1 := ht.2.2.2
    have HT := Lib.hid ht; clear ht
    go_enter Tryd.func24, Tryd.ntmps24
    go_wp2
    all_goals
      go_ret
      refine ⟨ret_int ?_, rfl⟩
      have h := HT.out
      first
      | (have h6 := h.1 (by assumption); omega)
      | (have h6 := h.2.1 (by assumption); omega)
      | omega
end Go.Proofs.YtoophonmonojcaaDoor

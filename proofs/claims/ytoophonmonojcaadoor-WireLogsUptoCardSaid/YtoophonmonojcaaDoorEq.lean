/- Contracts of the laws' comparison of byte lists. -/
import Derived.Test.YtoophonmonojcaaDoorScan
namespace Go.Proofs.YtoophonmonojcaaDoor
open Go.RowKit

/-- The call answers v, and has only read. -/
def RetQ (w : World) (v : Value) (e : Ending) (w' : World) : Prop := e = .returned v ∧ ∃ k, w.drewN k = w'
theorem RetQ.below {w : World} {v : Value} {e : Ending} {w' : World} (h : RetQ w v e w') : e = .returned v ∧ Below w.heap.size w w' := by
  obtain ⟨h1, k, rfl⟩ := h
  exact ⟨h1, below_drewN (Below.refl _ _) k⟩

theorem drewN_two (w : World) (a b : Nat) : w.drewN (a + b) = (w.drewN a).drewN b := by simp [World.drewN, Nat.add_assoc]
theorem ne_of_take {l m : List UInt8} {k : Nat} (h : l.getD k 0 ≠ m.getD k 0) : l ≠ m := fun e => h (by rw [e])
theorem take_succ_eq {l m : List UInt8} {k : Nat} (h1 : k < l.length) (h2 : k < m.length) (h : l.take k = m.take k) (hk : l.getD k 0 = m.getD k 0) : l.take (k + 1) = m.take (k + 1) := by
  rw [take_snoc l k h1, take_snoc m k h2, h, hk]
theorem byte_neq (a b : UInt8) : ((a.toNat : Int) != (b.toNat : Int)) = !(a == b) := by
  by_cases h : a = b
  · rw [h, bne_self_eq_false, beq_self_eq_true]; rfl
  · have h1 : ¬ (a.toNat : Int) = (b.toNat : Int) := fun e => h (UInt8.toNat_inj.1 (by omega))
    rw [bne_iff_ne.2 h1, beq_eq_false_iff_ne.2 h]; rfl
set_option maxRecDepth 100000 in
set_option maxHeartbeats 1000000 in
theorem law03_eq_any (a1 a2 : Option Addr) (n1 c1 n2 c2 : Nat) (l m : List UInt8) (w : World) (h1 : l.length = n1) (h2 : m.length = n2) (r1 : Rd w a1 l) (r2 : Rd w a2 m) (hb : n1 ≤ 140737488355328) :
    Calls Tryd.prog 42 #[.slice a1 n1 c1, .slice a2 n2 c2] w (RetQ w (.bool (l == m))) := by
  by_cases hn : n1 = n2
  · subst hn
    rcases Nat.eq_zero_or_pos n1 with h0 | h0
    · subst h0
      obtain rfl : l = [] := List.eq_nil_of_length_eq_zero h1
      obtain rfl : m = [] := List.eq_nil_of_length_eq_zero h2
      clear r1 r2 h1 h2
      go_enter Tryd.func42, Tryd.ntmps42
      go_wp2
      refine wp_loop_rounds 1 ?_
      rw [rounds_succ]
      go_wp2
      go_ret
      exact ⟨rfl, 0, rfl⟩
    · obtain ⟨b1, o1, rfl, _, k1⟩ := r1.some (by omega)
      obtain ⟨b2, o2, rfl, _, k2⟩ := r2.some (by omega)
      rw [h1] at k1
      rw [h2] at k2
      have H1 := Lib.hid h1; have H2 := Lib.hid h2
      clear r1 r2 h1 h2
      go_enter Tryd.func42, Tryd.ntmps42
      go_wp2
      go_loopw [5] (fun i wr => ∃ k nq : Nat, k ≤ n1 ∧ i = .int .i64 k ∧ wr = w.drewN nq ∧ Hid (l.take k = m.take k)) (fun i _ => n1 - (intOf i).toNat)
      case atStart => exact ⟨0, 0, Nat.zero_le _, rfl, rfl, rfl⟩
      case round =>
        obtain ⟨k, nq, hk, rfl, rfl, he⟩ := hrel
        by_cases hlt : k < n1
        · have g1 := k1 k hlt
          have g2 := k2 k hlt
          clear k1 k2
          have ht := byte_neq (l.getD k 0) (m.getD k 0)
          cases hb : (l.getD k 0 == m.getD k 0)
          · rw [hb, List.getD_eq_getElem?_getD, List.getD_eq_getElem?_getD] at ht
            simp only [Bool.not_false] at ht
            have HB := Lib.hid hb; clear hb
            go_wp2
            go_quiet (fail)
            go_wp2
            go_ret
            have hne : l ≠ m := ne_of_take (by simpa using HB.out)
            exact ⟨ret_bool (by simp [hne]), _, drewN_two _ _ _⟩
          · rw [hb, List.getD_eq_getElem?_getD, List.getD_eq_getElem?_getD] at ht
            simp only [Bool.not_true] at ht
            have HB := Lib.hid hb; clear hb
            go_wp2
            go_quiet (fail)
            go_wp2
            go_roundw
            case rel =>
              refine ⟨k + 1, _, by omega, by go_num, rfl, ?_⟩
              exact take_succ_eq (by have := H1.out; omega) (by have := H2.out; omega) he.out (by simpa using HB.out)
            case measure => simp [intOf]; omega
        · obtain rfl : k = n1 := by omega
          clear k1 k2
          go_wp2
          go_ret
          have e := he.out
          rw [List.take_of_length_le (by have := H1.out; omega), List.take_of_length_le (by have := H2.out; omega)] at e
          exact ⟨ret_bool (by simp [e]), _, rfl⟩
  · have t : ((n1 : Int) != (n2 : Int)) = true := by rw [bne_iff_ne]; omega
    have hne : l ≠ m := fun e => hn (by rw [← h1, ← h2, e])
    have HN := Lib.hid hne; clear hn h1 h2 r1 r2 hne
    go_enter Tryd.func42, Tryd.ntmps42
    go_wp2
    go_ret
    exact ⟨ret_bool (by simpa using HN.out), 0, rfl⟩
set_option maxRecDepth 100000 in
set_option maxHeartbeats 1000000 in
theorem law06_eq_any (a1 a2 : Option Addr) (n1 c1 n2 c2 : Nat) (l m : List UInt8) (w : World) (h1 : l.length = n1) (h2 : m.length = n2) (r1 : Rd w a1 l) (r2 : Rd w a2 m) (hb : n1 ≤ 140737488355328) :
    Calls Tryd.prog 51 #[.slice a1 n1 c1, .slice a2 n2 c2] w (RetQ w (.bool (l == m))) := by
  by_cases hn : n1 = n2
  · subst hn
    rcases Nat.eq_zero_or_pos n1 with h0 | h0
    · subst h0
      obtain rfl : l = [] := List.eq_nil_of_length_eq_zero h1
      obtain rfl : m = [] := List.eq_nil_of_length_eq_zero h2
      clear r1 r2 h1 h2
      go_enter Tryd.func51, Tryd.ntmps51
      go_wp2
      refine wp_loop_rounds 1 ?_
      rw [rounds_succ]
      go_wp2
      go_ret
      exact ⟨rfl, 0, rfl⟩
    · obtain ⟨b1, o1, rfl, _, k1⟩ := r1.some (by omega)
      obtain ⟨b2, o2, rfl, _, k2⟩ := r2.some (by omega)
      rw [h1] at k1
      rw [h2] at k2
      have H1 := Lib.hid h1; have H2 := Lib.hid h2
      clear r1 r2 h1 h2
      go_enter Tryd.func51, Tryd.ntmps51
      go_wp2
      go_loopw [5] (fun i wr => ∃ k nq : Nat, k ≤ n1 ∧ i = .int .i64 k ∧ wr = w.drewN nq ∧ Hid (l.take k = m.take k)) (fun i _ => n1 - (intOf i).toNat)
      case atStart => exact ⟨0, 0, Nat.zero_le _, rfl, rfl, rfl⟩
      case round =>
        obtain ⟨k, nq, hk, rfl, rfl, he⟩ := hrel
        by_cases hlt : k < n1
        · have g1 := k1 k hlt
          have g2 := k2 k hlt
          clear k1 k2
          have ht := byte_neq (l.getD k 0) (m.getD k 0)
          cases hb : (l.getD k 0 == m.getD k 0)
          · rw [hb, List.getD_eq_getElem?_getD, List.getD_eq_getElem?_getD] at ht
            simp only [Bool.not_false] at ht
            have HB := Lib.hid hb; clear hb
            go_wp2
            go_quiet (fail)
            go_wp2
            go_ret
            have hne : l ≠ m := ne_of_take (by simpa using HB.out)
            exact ⟨ret_bool (by simp [hne]), _, drewN_two _ _ _⟩
          · rw [hb, List.getD_eq_getElem?_getD, List.getD_eq_getElem?_getD] at ht
            simp only [Bool.not_true] at ht
            have HB := Lib.hid hb; clear hb
            go_wp2
            go_quiet (fail)
            go_wp2
            go_roundw
            case rel =>
              refine ⟨k + 1, _, by omega, by go_num, rfl, ?_⟩
              exact take_succ_eq (by have := H1.out; omega) (by have := H2.out; omega) he.out (by simpa using HB.out)
            case measure => simp [intOf]; omega
        · obtain rfl : k = n1 := by omega
          clear k1 k2
          go_wp2
          go_ret
          have e := he.out
          rw [List.take_of_length_le (by have := H1.out; omega), List.take_of_length_le (by have := H2.out; omega)] at e
          exact ⟨ret_bool (by simp [e]), _, rfl⟩
  · have t : ((n1 : Int) != (n2 : Int)) = true := by rw [bne_iff_ne]; omega
    have hne : l ≠ m := fun e => hn (by rw [← h1, ← h2, e])
    have HN := Lib.hid hne; clear hn h1 h2 r1 r2 hne
    go_enter Tryd.func51, Tryd.ntmps51
    go_wp2
    go_ret
    exact ⟨ret_bool (by simpa using HN.out), 0, rfl⟩
end Go.Proofs.YtoophonmonojcaaDoor

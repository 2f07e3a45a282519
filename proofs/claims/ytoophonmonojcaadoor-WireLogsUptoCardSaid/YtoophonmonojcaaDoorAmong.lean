/- Contracts of jotterlaw03's among and upTo. -/
import Derived.Test.YtoophonmonojcaaDoorFit
import Derived.Test.YtoophonmonojcaaDoorPlainScan
namespace Go.Proofs.YtoophonmonojcaaDoor
open Go.RowKit

theorem tmod_neg (k n : Int) (hk : ¬ 0 ≤ k) (hn : 1 ≤ n) : (k.tmod n < 0 → k.tmod n + n = k % n ∧ -n < k.tmod n) ∧ (0 ≤ k.tmod n → k.tmod n = k % n) := by
  have e := Int.tmod_eq_emod (a := k) (b := n)
  have h0 := Int.emod_nonneg k (show n ≠ 0 by omega)
  have h1 := Int.emod_lt_of_pos k (show 0 < n by omega)
  have hna : (n.natAbs : Int) = n := by omega
  by_cases hd : n ∣ k
  · rw [if_pos (.inr hd)] at e
    exact ⟨fun h => by omega, fun _ => by omega⟩
  · rw [if_neg (fun h => h.elim hk hd)] at e
    have : k % n ≠ 0 := fun h => hd (Int.dvd_of_emod_eq_zero h)
    exact ⟨fun _ => by omega, fun h => by omega⟩

set_option maxRecDepth 100000 in
/-- A number from 0 to n - 1 out of any number. -/
theorem among_any (k n : Int) (w : World) (h1 : -9223372036854775808 ≤ k) (h2 : k ≤ 9223372036854775807) (h3 : 1 ≤ n) (h4 : n ≤ 1000000000000000) :
    Calls Tryd.prog 47 #[.int .i64 k, .int .i64 n] w fun e w' => e = .returned (.int .i64 (k % n)) ∧ w = w' := by
  have h0 := Int.emod_nonneg k (show n ≠ 0 by omega)
  by_cases hk : 0 ≤ k
  · go_enter Tryd.func47, Tryd.ntmps47
    go_wp2
    go_ret
    exact ⟨rfl, rfl⟩
  · have ht := tmod_neg k n hk h3
    have HT := Lib.hid ht; clear ht
    go_enter Tryd.func47, Tryd.ntmps47
    go_wp2
    · have h := HT.out.1 (by assumption)
      go_ret
      refine ⟨ret_int ?_, rfl⟩
      show wrap64 (k.tmod n + n) = k % n
      rw [← h.1]
      have h5 := h.2
      have h6 : k.tmod n < 0 := by assumption
      unfold wrap64
      omega
    · have h := HT.out.2 (by assumption)
      go_ret
      exact ⟨ret_int h, rfl⟩

/-- What upTo answers. -/
def UpToPost (w : World) (ps : List (List UInt8)) (k : Nat) (e : Ending) (w' : World) : Prop := ∃ i at_ : Nat, e = .returned (.tuple #[.int .i64 i, .int .i64 at_]) ∧ Whole ps k i at_ ∧ w = w'
theorem joined_take_length (ps : List (List UInt8)) (i : Nat) (h : i < ps.length) : (joined (ps.take (i + 1))).length = (joined (ps.take i)).length + (ps.getD i []).length + 8 := by
  rw [joined_take ps i h, List.length_append, frame_length]; omega

set_option maxRecDepth 100000 in
set_option maxHeartbeats 1000000 in
theorem upTo_any (ao : Option Addr) (n cap : Nat) (ps : List (List UInt8)) (k : Nat) (w : World) (hl : ps.length = n) (hr : RdRows w ao ps) (hf : Fits ps) (hb : n ≤ 1048576) (hk : k ≤ 1000000000) :
    Calls Tryd.prog 48 #[.slice ao n cap, .int .i64 k] w (UpToPost w ps k) := by
  rcases Nat.eq_zero_or_pos n with h0 | h0
  · subst h0
    obtain rfl : ps = [] := List.eq_nil_of_length_eq_zero hl
    clear hr hl hf
    go_enter Tryd.func48, Tryd.ntmps48
    go_wp2
    refine wp_loop_rounds 1 ?_
    rw [rounds_succ]
    go_wp2
    go_ret2
    exact ⟨0, 0, rfl, ⟨Nat.le_refl _, rfl, Nat.zero_le _, fun p hp => by simp at hp⟩, rfl⟩
  · obtain ⟨b, off, rfl, hbw, hc⟩ := hr.some (by omega)
    rw [hl] at hc
    have HL := Lib.hid hl; have HC := Lib.hid hc; have HF := Lib.hid hf; clear hl hr hc hf
    go_enter Tryd.func48, Tryd.ntmps48
    go_wp2
    go_loop [6, 7] (fun a v => ∃ (i at_ : Nat), i ≤ n ∧ v = .int .i64 i ∧ a = .int .i64 at_ ∧ at_ ≤ k ∧ Hid (at_ = (joined (ps.take i)).length)) (fun _ v => n - (intOf v).toNat)
    case atStart => exact ⟨0, 0, Nat.zero_le _, rfl, rfl, Nat.zero_le _, rfl⟩
    case round =>
      obtain ⟨i, at_, hi, rfl, rfl, hat, hj⟩ := hrel
      by_cases hlt : i < n
      · obtain ⟨x, hx, hs⟩ := HC.out i hlt
        have hil : i < ps.length := by have := HL.out; omega
        have hfq := HF.out _ (getD_mem hil)
        have hjt := joined_take_length ps i hil
        have hgi : ps[i]? = some (ps.getD i []) := by rw [List.getD_eq_getElem?_getD, List.getElem?_eq_getElem hil]; rfl
        obtain ⟨q, hq⟩ : ∃ q, q = ps.getD i [] := ⟨_, rfl⟩
        rw [← hq] at hs hfq hjt hgi
        obtain ⟨ax, cx, rfl, _, _, _⟩ := hs
        obtain ⟨m, hm⟩ : ∃ m, m = q.length := ⟨_, rfl⟩
        rw [← hm] at hx hfq hjt
        have HM := Lib.hid hm; have HJT := Lib.hid hjt; have HGI := Lib.hid hgi
        obtain ⟨hm1, hm2⟩ := hfq
        clear hm hq hjt hgi hil
        by_cases hle : at_ + m + 8 ≤ k
        · go_wp2
          go_round
          case rel =>
            refine ⟨i + 1, at_ + m + 8, by omega, by go_num, by go_num, hle, ?_⟩
            show _ = _
            rw [HJT.out, ← hj.out]
          case measure => simp [intOf]; omega
        · go_wp2
          go_ret2
          refine ⟨i, at_, rfl, ⟨by have := HL.out; omega, hj.out, hat, ?_⟩, rfl⟩
          intro p hp
          rw [HGI.out] at hp
          cases hp
          have := HM.out
          omega
      · obtain rfl : i = n := by omega
        go_wp2
        go_ret2
        refine ⟨i, at_, rfl, ⟨by have := HL.out; omega, hj.out, hat, ?_⟩, rfl⟩
        intro p hp
        have := (List.getElem?_eq_some_iff.1 hp).1
        have := HL.out
        omega
end Go.Proofs.YtoophonmonojcaaDoor

/- Contracts of jotterlaw06's within, operation, message. -/
import Derived.Test.YtoophonmonojcaaDoorAmong
namespace Go.Proofs.YtoophonmonojcaaDoor
open Go.RowKit

def within (v lo hi : Int) : Int := if lo ≤ v ∧ v ≤ hi then v else lo + v % (hi - lo + 1)
theorem within_ge (v lo hi : Int) (h : lo ≤ hi) : lo ≤ within v lo hi := by
  unfold within; split
  · omega
  · have := Int.emod_nonneg v (show hi - lo + 1 ≠ 0 by omega); omega
theorem within_le (v lo hi : Int) (h : lo ≤ hi) : within v lo hi ≤ hi := by
  unfold within; split
  · omega
  · have := Int.emod_lt_of_pos v (show 0 < hi - lo + 1 by omega); omega

theorem tmod_any (k n : Int) (hn : 1 ≤ n) : (k.tmod n < 0 → k.tmod n + n = k % n) ∧ (0 ≤ k.tmod n → k.tmod n = k % n) ∧ -n < k.tmod n ∧ k.tmod n < n := by
  have h0 := Int.emod_nonneg k (show n ≠ 0 by omega)
  have h1 := Int.emod_lt_of_pos k (show 0 < n by omega)
  by_cases hk : 0 ≤ k
  · have e := Int.tmod_eq_emod_of_nonneg hk (b := n)
    omega
  · have h := tmod_neg k n hk hn
    by_cases g : k.tmod n < 0
    · have := h.1 g; omega
    · have := h.2 (by omega); omega

set_option maxRecDepth 100000 in
theorem within_any (v lo hi : Int) (w : World) (h1 : -9223372036854775808 ≤ v) (h2 : v ≤ 9223372036854775807) (h3 : 0 ≤ lo) (h4 : lo ≤ hi) (h5 : hi ≤ 1000000000000000) :
    Calls Tryd.prog 24 #[.int .i64 v, .int .i64 lo, .int .i64 hi] w fun e w' => e = .returned (.int .i64 (within v lo hi)) ∧ w = w' := by
  by_cases hv : lo ≤ v ∧ v ≤ hi
  · have hv1 := hv.1
    have hv2 := hv.2
    have e : within v lo hi = v := by unfold within; rw [if_pos hv]
    rw [e]
    go_enter Tryd.func24, Tryd.ntmps24
    go_wp2
    go_ret
    exact ⟨rfl, rfl⟩
  · have e : within v lo hi = lo + v % (hi - lo + 1) := by unfold within; rw [if_neg hv]
    rw [e]
    have hm0 := Int.emod_nonneg v (show hi - lo + 1 ≠ 0 by omega)
    have hm1 := Int.emod_lt_of_pos v (show 0 < hi - lo + 1 by omega)
    have ht := tmod_any v (hi - lo + 1) (by omega)
    have hb0 := ht.2.2.1
    have hb1 := ht.2.2.2
    have HT := Lib.hid ht; clear ht
    go_enter Tryd.func24, Tryd.ntmps24
    go_wp2
    all_goals
      go_ret
      refine ⟨ret_int ?_, rfl⟩
      have h := HT.out
      first
      | (have h6 := h.1 (by assumption); omega)
      | (have h6 := h.2.1 (by assumption); omega)
      | omega
end Go.Proofs.YtoophonmonojcaaDoor

/- One byte of a sealed body changed: its sum does not fit any more. -/
import Derived.Test.YtoophonmonojcaaDoorPlainTold
import Derived.Test.YtoophonmonojcaaDoorWireDecSpec
namespace Go.Proofs.YtoophonmonojcaaDoor
open Go.RowKit

theorem sealed_changed (l : List UInt8) (j : Nat) (hj : j < l.length + 4) (x : UInt8) (hx : x ≠ (sealed l).getD j 0) :
    ((sealed l).set j x).drop l.length ≠ le4 (sum (((sealed l).set j x).take l.length)) := by
  have hlen : (sealed l).length = l.length + 4 := by simp [sealed, le4]
  intro h
  rcases Nat.lt_or_ge j l.length with hl | hl
  · have e1 : ((sealed l).set j x).take l.length = l.set j x := by
      unfold sealed
      rw [List.set_append_left _ _ hl, List.take_left' (by simp)]
    have e2 : ((sealed l).set j x).drop l.length = le4 (sum l) := by
      unfold sealed
      rw [List.set_append_left _ _ hl, List.drop_left' (by simp)]
    rw [e1, e2] at h
    have hs := le4_inj (sum_lt l) (sum_lt _) h
    obtain ⟨s1, s2⟩ := set_split l j hl x
    rw [s2] at hs
    conv at hs => lhs; rw [s1]
    refine sum_one _ _ _ _ ?_ hs
    intro e
    apply hx
    rw [← e]
    unfold sealed
    simp [List.getD_eq_getElem?_getD, List.getElem?_append_left hl, hl]
  · have e1 : ((sealed l).set j x).take l.length = l := by
      unfold sealed
      rw [List.set_append_right _ _ hl, List.take_left' rfl]
    rw [e1] at h
    have h2 : ((sealed l).set j x)[j]? = some x := by
      rw [List.getElem?_set_self (by omega)]
    have h3 : (((sealed l).set j x).drop l.length)[j - l.length]? = some x := by
      rw [List.getElem?_drop, show l.length + (j - l.length) = j by omega, h2]
    rw [h] at h3
    apply hx
    unfold sealed
    rw [List.getD_eq_getElem?_getD, List.getElem?_append_right hl, h3]
    rfl

/-- A fine message's datagram with one byte changed is refused for its sum. -/
theorem decode_changed {m : M} (h : m.fine) (j : Nat) (hj : j < (encB m).length) (x : UInt8) (hx : x ≠ (encB m).getD j 0) : decode ((encB m).set j x) = .inl (64, ((encB m).length - 4 : Nat)) := by
  have hl : (layB m.at (shapeN m.k.toNat)).length ≤ 15 := by
    have h1 := h.1
    have h6 := h.2.1
    obtain ⟨k, hk⟩ : ∃ k : Nat, m.k.toNat = k := ⟨_, rfl⟩
    rw [hk, lay_length _ k (by omega) (by omega)]
    have hc : k = 1 ∨ k = 2 ∨ k = 3 ∨ k = 4 ∨ k = 5 ∨ k = 6 := by omega
    rcases hc with rfl | rfl | rfl | rfl | rfl | rfl <;> decide
  unfold encB at *
  obtain ⟨l, hl0⟩ : ∃ l, l = layB m.at (shapeN m.k.toNat) := ⟨_, rfl⟩
  rw [← hl0] at hl hj hx ⊢
  have hlen : (sealed l).length = l.length + 4 := by simp [sealed, le4]
  have e : ((sealed l).set j x).length = l.length + 4 := by rw [List.length_set, hlen]
  unfold decode
  rw [e, hlen, Nat.add_sub_cancel, if_neg (by omega), if_neg (by omega), if_neg (sealed_changed l j (by omega) x hx)]
end Go.Proofs.YtoophonmonojcaaDoor

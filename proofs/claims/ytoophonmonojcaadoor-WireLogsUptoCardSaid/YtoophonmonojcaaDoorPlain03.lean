/- Plain laws of the records: a payload's record stands, and says its payload; joined records scanned are their payloads. -/
import Derived.Test.YtoophonmonojcaaDoorLists
namespace Go.Proofs.YtoophonmonojcaaDoor

theorem u8n (x : Int) (h0 : 0 ≤ x) (h1 : x < 256) : ((u8 x).toNat : Int) = x := by rw [u8_toNat]; omega
theorem frame_parts (p r : List UInt8) : frame p ++ r = head4 p.length ++ (p ++ (le4 (sum (head4 p.length ++ p)) ++ r)) := by simp [frame, sealed]
theorem frame_recLen (p r : List UInt8) (h : p.length ≤ 64) : recLen (frame p ++ r) = p.length := by
  rw [frame_parts]
  have e0 : (head4 p.length ++ (p ++ (le4 (sum (head4 p.length ++ p)) ++ r))).getD 0 0 = u8 ((p.length : Int) / 256) := rfl
  have e1 : (head4 p.length ++ (p ++ (le4 (sum (head4 p.length ++ p)) ++ r))).getD 1 0 = u8 (p.length : Int) := rfl
  unfold recLen
  rw [e0, e1]
  have h0 := u8_toNat ((p.length : Int) / 256)
  have h1 := u8_toNat (p.length : Int)
  omega
theorem frame_recCpl (p r : List UInt8) (h : p.length ≤ 64) : recCpl (frame p ++ r) = 65535 - p.length := by
  rw [frame_parts]
  have e0 : (head4 p.length ++ (p ++ (le4 (sum (head4 p.length ++ p)) ++ r))).getD 2 0 = u8 ((65535 - (p.length : Int)) / 256) := rfl
  have e1 : (head4 p.length ++ (p ++ (le4 (sum (head4 p.length ++ p)) ++ r))).getD 3 0 = u8 (65535 - (p.length : Int)) := rfl
  unfold recCpl
  rw [e0, e1]
  have h0 := u8_toNat ((65535 - (p.length : Int)) / 256)
  have h1 := u8_toNat (65535 - (p.length : Int))
  omega
theorem frame_headOk (p r : List UInt8) (h1 : 1 ≤ p.length) (h : p.length ≤ 64) : headOk (frame p ++ r) := by
  unfold headOk
  rw [frame_recLen p r h, frame_recCpl p r h]
  omega
theorem frame_recPay (p r : List UInt8) (h : p.length ≤ 64) : recPay (frame p ++ r) = p := by
  unfold recPay
  rw [frame_recLen p r h, frame_parts]
  show (p ++ (le4 (sum (head4 p.length ++ p)) ++ r)).take p.length = p
  simp
theorem frame_take (p r : List UInt8) : (frame p ++ r).take (p.length + 4) = head4 p.length ++ p := by
  rw [frame_parts, ← List.append_assoc, List.take_append_of_le_length (by simp [head4_length]; omega), List.take_of_length_le (by simp [head4_length]; omega)]
theorem frame_sum (p r : List UInt8) : ((frame p ++ r).drop (p.length + 4)).take 4 = le4 (sum (head4 p.length ++ p)) := by
  rw [frame_parts, ← List.append_assoc, List.drop_append_of_le_length (by simp [head4_length]; omega), List.drop_eq_nil_of_le (by simp [head4_length]; omega)]
  simp [le4]
theorem frame_sumOk (p r : List UInt8) (h : p.length ≤ 64) : sumOk (frame p ++ r) := by
  unfold sumOk
  rw [frame_recLen p r h, frame_sum, frame_take]
theorem frame_recCode (p r : List UInt8) (h1 : 1 ≤ p.length) (h : p.length ≤ 64) : recCode (frame p ++ r) = 0 := by
  unfold recCode
  rw [if_neg (by simp [frame_length]; omega), if_neg (by simpa using frame_headOk p r h1 h), frame_recLen p r h, if_neg (by simp [frame_length]), if_neg (by simpa using frame_sumOk p r h)]
theorem frame_drop (p r : List UInt8) : (frame p ++ r).drop (p.length + 8) = r := by
  rw [List.drop_append_of_le_length (by rw [frame_length]; omega), List.drop_eq_nil_of_le (by rw [frame_length]; omega)]; rfl
theorem scan_frame (p r : List UInt8) (h1 : 1 ≤ p.length) (h : p.length ≤ 64) : scan (frame p ++ r) = (p :: (scan r).1, p.length + 8 + (scan r).2.1, (scan r).2.2) := by
  rw [scan_ok (frame_recCode p r h1 h), frame_recLen p r h, frame_recPay p r h, frame_drop]

/-- Payloads that may be. -/
def Fits (ps : List (List UInt8)) : Prop := ∀ p ∈ ps, 1 ≤ p.length ∧ p.length ≤ 64
/-- The records of payloads, one behind the other. -/
def joined (ps : List (List UInt8)) : List UInt8 := (ps.map frame).flatten
theorem joined_nil : joined [] = [] := rfl
theorem joined_cons (p : List UInt8) (ps : List (List UInt8)) : joined (p :: ps) = frame p ++ joined ps := by simp [joined]
theorem joined_snoc (ps : List (List UInt8)) (p : List UInt8) : joined (ps ++ [p]) = joined ps ++ frame p := by simp [joined]
theorem joined_append (ps qs : List (List UInt8)) : joined (ps ++ qs) = joined ps ++ joined qs := by simp [joined]
theorem scan_joined_append (ps : List (List UInt8)) (r : List UInt8) (h : Fits ps) : scan (joined ps ++ r) = (ps ++ (scan r).1, (joined ps).length + (scan r).2.1, (scan r).2.2) := by
  induction ps with
  | nil => simp [joined_nil]
  | cons p t ih =>
    have hp := h p (by simp)
    rw [joined_cons, List.append_assoc, scan_frame p _ hp.1 hp.2, ih (fun q hq => h q (by simp [hq]))]
    simp [frame_length]; omega
theorem scan_joined (ps : List (List UInt8)) (h : Fits ps) : scan (joined ps) = (ps, (joined ps).length, 0) := by
  have := scan_joined_append ps [] h
  rw [List.append_nil, scan_nil] at this
  simpa using this
end Go.Proofs.YtoophonmonojcaaDoor

/- Plain laws of the scan: what it finds is just the records at the head of the bytes; beginnings; one byte changed. -/
import Derived.Test.YtoophonmonojcaaDoorPlain03
import Derived.Test.YtoophonmonojcaaDoorCrcInj
namespace Go.Proofs.YtoophonmonojcaaDoor

theorem u8_eq {c : UInt8} {x : Int} (h : (c.toNat : Int) = x % 256) : c = u8 x := UInt8.toNat_inj.1 (by have := u8_toNat x; omega)
/-- A list with four bytes at least, taken apart. -/
theorem four (q : List UInt8) (h : 4 ≤ q.length) : q = [q.getD 0 0, q.getD 1 0, q.getD 2 0, q.getD 3 0] ++ q.drop 4 := by
  match q, h with
  | a :: b :: c :: d :: t, _ => rfl
theorem take_four (q : List UInt8) (h : 4 ≤ q.length) : q.take 4 = [q.getD 0 0, q.getD 1 0, q.getD 2 0, q.getD 3 0] := by
  match q, h with
  | a :: b :: c :: d :: t, _ => rfl
theorem head4_num (a b c d : UInt8) (n : Nat) (hn : n = a.toNat * 256 + b.toNat) (hm : n + (c.toNat * 256 + d.toNat) = 65535) : [a, b, c, d] = head4 n := by
  have a0 := a.toNat_lt
  have a1 := b.toNat_lt
  have a2 := c.toNat_lt
  have a3 := d.toNat_lt
  have e0 : a = u8 ((n : Int) / 256) := u8_eq (by omega)
  have e1 : b = u8 (n : Int) := u8_eq (by omega)
  have e2 : c = u8 ((65535 - (n : Int)) / 256) := u8_eq (by omega)
  have e3 : d = u8 (65535 - (n : Int)) := u8_eq (by omega)
  exact congr (congrArg List.cons e0) (congr (congrArg List.cons e1) (congr (congrArg List.cons e2) (congr (congrArg List.cons e3) rfl)))
theorem head4_of (q : List UInt8) (h4 : 4 ≤ q.length) (hh : headOk q) : q.take 4 = head4 (recLen q) := by
  rw [take_four q h4]
  exact head4_num _ _ _ _ _ rfl hh.1
/-- A record that stands is the record of its payload. -/
theorem frame_of (q : List UInt8) (h : recCode q = 0) : q.take (recLen q + 8) = frame (recPay q) := by
  obtain ⟨h1, h2, h3, hh, hs⟩ := recCode_ok h
  have hp := recPay_length h
  have e4 := head4_of q (by omega) hh
  have e5 : q.take (recLen q + 4) = head4 (recLen q) ++ recPay q := by
    rw [← e4, recPay, ← List.take_add]
    congr 1
    omega
  unfold frame sealed
  rw [hp, ← e5]
  have hs' : (q.drop (recLen q + 4)).take 4 = le4 (sum (q.take (recLen q + 4))) := hs
  rw [← hs', ← List.take_add]
theorem fits_scan_aux : ∀ (n : Nat) (l : List UInt8), l.length ≤ n → Fits (scan l).1 ∧ joined (scan l).1 = l.take (scan l).2.1 ∧ (scan l).2.1 ≤ l.length ∧ ((scan l).2.2 = 0 ↔ (scan l).2.1 = l.length) ∧
    ((scan l).2.2 ≠ 0 → recCode (l.drop (scan l).2.1) = (scan l).2.2 ∧ l.drop (scan l).2.1 ≠ [])
  | n, l, hn => by
    by_cases h0 : l = []
    · subst h0
      rw [scan_nil]
      refine ⟨fun p hp => by simp at hp, rfl, by simp, by simp, fun h => absurd rfl h⟩
    · by_cases h : recCode l = 0
      · match n, hn with
        | 0, hn => exact absurd (List.eq_nil_of_length_eq_zero (by omega)) h0
        | n + 1, hn =>
          have hk := recCode_ok h
          obtain ⟨i1, i2, i3, i4, i5⟩ := fits_scan_aux n (l.drop (recLen l + 8)) (by simp; omega)
          have hp := recPay_length h
          rw [scan_ok h]
          dsimp only
          simp only [List.length_drop] at i3 i4
          refine ⟨?_, ?_, by omega, ?_, ?_⟩
          · intro p hp'
            rcases List.mem_cons.1 hp' with rfl | hp'
            · omega
            · exact i1 p hp'
          · rw [joined_cons, i2, ← frame_of l h, ← List.take_add]
          · rw [i4]; omega
          · intro hc
            rw [← List.drop_drop]
            exact i5 hc
      · rw [scan_bad h0 h]
        refine ⟨fun p hp => by simp at hp, rfl, by simp, ?_, fun _ => ⟨by simp, by simpa using h0⟩⟩
        have : l.length ≠ 0 := fun e => h0 (List.eq_nil_of_length_eq_zero e)
        simp only
        omega
theorem fits_scan (l : List UInt8) : Fits (scan l).1 ∧ joined (scan l).1 = l.take (scan l).2.1 ∧ (scan l).2.1 ≤ l.length ∧ ((scan l).2.2 = 0 ↔ (scan l).2.1 = l.length) ∧
    ((scan l).2.2 ≠ 0 → recCode (l.drop (scan l).2.1) = (scan l).2.2 ∧ l.drop (scan l).2.1 ≠ []) := fits_scan_aux l.length l (Nat.le_refl _)
theorem scan_rest (l : List UInt8) (h : (scan l).2.2 ≠ 0) : scan (l.drop (scan l).2.1) = ([], 0, (scan l).2.2) := by
  obtain ⟨h1, h2⟩ := (fits_scan l).2.2.2.2 h
  rw [scan_bad h2 (by rw [h1]; exact h), h1]

/-- How many records lie whole in the first k bytes, and where they end. -/
def Whole (ps : List (List UInt8)) (k i at_ : Nat) : Prop := i ≤ ps.length ∧ at_ = (joined (ps.take i)).length ∧ at_ ≤ k ∧ ∀ p, ps[i]? = some p → k < at_ + p.length + 8
theorem joined_split (ps : List (List UInt8)) (i : Nat) : joined ps = joined (ps.take i) ++ joined (ps.drop i) := by rw [← joined_append, List.take_append_drop]
theorem fits_take {ps : List (List UInt8)} (h : Fits ps) (i : Nat) : Fits (ps.take i) := fun p hp => h p (List.mem_of_mem_take hp)
/-- WalPrefix: a beginning of records. -/
theorem scan_prefix {ps : List (List UInt8)} (hf : Fits ps) {k i at_ : Nat} (hk : k ≤ (joined ps).length) (hw : Whole ps k i at_) :
    scan ((joined ps).take k) = (ps.take i, at_, if at_ = k then 0 else 32) := by
  obtain ⟨h1, h2, h3, h4⟩ := hw
  have e1 : (joined ps).take k = joined (ps.take i) ++ (joined (ps.drop i)).take (k - at_) := by
    rw [joined_split ps i, List.take_append, ← h2, List.take_of_length_le (by omega)]
  rw [e1, scan_joined_append _ _ (fits_take hf i), ← h2]
  by_cases hke : at_ = k
  · subst hke
    rw [Nat.sub_self, List.take_zero, scan_nil, if_pos rfl]
    simp
  · rw [if_neg hke]
    have hi : i < ps.length := by
      rcases Nat.lt_or_ge i ps.length with h | h
      · exact h
      · exfalso
        rw [List.take_of_length_le h] at h2
        omega
    have hp := h4 ps[i] (List.getElem?_eq_getElem hi)
    have hpf := hf ps[i] (List.getElem_mem hi)
    have e2 : ps.drop i = ps[i] :: ps.drop (i + 1) := (List.drop_eq_getElem_cons hi)
    obtain ⟨p, hpp⟩ : ∃ p, p = ps[i] := ⟨_, rfl⟩
    rw [← hpp] at hp hpf e2
    rw [e2, joined_cons]
    obtain ⟨m, hm⟩ : ∃ m, m = k - at_ := ⟨_, rfl⟩
    rw [← hm]
    have hm1 : m < p.length + 8 := by omega
    have hm0 : 0 < m := by omega
    have e3 : (frame p ++ joined (ps.drop (i + 1))).take m = (frame p).take m := by
      rw [List.take_append_of_le_length (by rw [frame_length]; omega)]
    rw [e3]
    have hl : ((frame p).take m).length = m := by rw [List.length_take, frame_length]; omega
    have hne : (frame p).take m ≠ [] := fun h => by rw [h] at hl; simp at hl; omega
    have hc : recCode ((frame p).take m) = 32 := by
      unfold recCode
      by_cases h4' : m < 4
      · rw [if_pos (by omega)]
      · rw [if_neg (by omega)]
        have g : ∀ j, j < 4 → ((frame p).take m).getD j 0 = (frame p ++ []).getD j 0 := by
          intro j hj
          simp [List.getD_eq_getElem?_getD, show j < m by omega]
        have hL : recLen ((frame p).take m) = recLen (frame p ++ []) := by unfold recLen; rw [g 0 (by decide), g 1 (by decide)]
        have hC : recCpl ((frame p).take m) = recCpl (frame p ++ []) := by unfold recCpl; rw [g 2 (by decide), g 3 (by decide)]
        have hH : headOk ((frame p).take m) := by
          have := frame_headOk p [] hpf.1 hpf.2
          unfold headOk at this ⊢
          rw [hL, hC]; exact this
        rw [if_neg (by simpa using hH), hL, frame_recLen p [] hpf.2, hl, if_pos hm1]
    rw [scan_bad hne (by rw [hc]; decide), hc]
    simp
end Go.Proofs.YtoophonmonojcaaDoor

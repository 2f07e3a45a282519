/- Plain law of one byte changed among joined records. -/
import Derived.Test.YtoophonmonojcaaDoorPlainScan
namespace Go.Proofs.YtoophonmonojcaaDoor

theorem le4_inj {s t : Nat} (hs : s < 4294967296) (ht : t < 4294967296) (h : le4 s = le4 t) : s = t := by
  unfold le4 at h
  injection h with h0 h
  injection h with h1 h
  injection h with h2 h
  injection h with h3 _
  have k0 : ((u8 s).toNat : Int) = ((u8 t).toNat : Int) := by rw [h0]
  have k1 : ((u8 ((s : Int) / 256)).toNat : Int) = ((u8 ((t : Int) / 256)).toNat : Int) := by rw [h1]
  have k2 : ((u8 ((s : Int) / 65536)).toNat : Int) = ((u8 ((t : Int) / 65536)).toNat : Int) := by rw [h2]
  have k3 : ((u8 ((s : Int) / 16777216)).toNat : Int) = ((u8 ((t : Int) / 16777216)).toNat : Int) := by rw [h3]
  rw [u8_toNat, u8_toNat] at k0 k1 k2 k3
  omega
theorem set_split (l : List UInt8) (j : Nat) (hj : j < l.length) (x : UInt8) : l = l.take j ++ l[j] :: l.drop (j + 1) ∧ l.set j x = l.take j ++ x :: l.drop (j + 1) := by
  refine ⟨?_, List.set_eq_take_append_cons_drop .. |>.trans (by rw [if_pos hj])⟩
  rw [← List.drop_eq_getElem_cons hj, List.take_append_drop]
/-- One byte of the head changed: no head. -/
theorem head_changed (p r : List UInt8) (h1 : 1 ≤ p.length) (h : p.length ≤ 64) (j : Nat) (hj : j < 4) (x : UInt8) (hx : x ≠ (frame p ++ r).getD j 0) : ¬ headOk ((frame p ++ r).set j x) := by
  intro hh
  have e0 := frame_recLen p r h
  have e1 := frame_recCpl p r h
  obtain ⟨k1, _, _⟩ := hh
  have hl : 4 ≤ (frame p ++ r).length := by simp [frame_length]; omega
  obtain ⟨q, hq⟩ : ∃ q, q = frame p ++ r := ⟨_, rfl⟩
  rw [← hq] at e0 e1 k1 hl hx
  unfold recLen recCpl at *
  have g : ∀ i, i < 4 → (q.set j x).getD i 0 = if j = i then x else q.getD i 0 := by
    intro i hi
    rw [List.getD_eq_getElem?_getD, List.getElem?_set]
    by_cases hij : j = i
    · rw [if_pos hij, if_pos hij, if_pos (by omega)]; rfl
    · rw [if_neg hij, if_neg hij, List.getD_eq_getElem?_getD]
  rw [g 0 (by decide), g 1 (by decide), g 2 (by decide), g 3 (by decide)] at k1
  have hne : x.toNat ≠ (q.getD j 0).toNat := fun e => hx (UInt8.toNat_inj.1 e)
  rcases (by omega : j = 0 ∨ j = 1 ∨ j = 2 ∨ j = 3) with rfl | rfl | rfl | rfl
  · rw [if_pos rfl, if_neg (by decide), if_neg (by decide), if_neg (by decide)] at k1; omega
  · rw [if_neg (by decide), if_pos rfl, if_neg (by decide), if_neg (by decide)] at k1; omega
  · rw [if_neg (by decide), if_neg (by decide), if_pos rfl, if_neg (by decide)] at k1; omega
  · rw [if_neg (by decide), if_neg (by decide), if_neg (by decide), if_pos rfl] at k1; omega
theorem code_head (q : List UInt8) (h4 : 4 ≤ q.length) (h : ¬ headOk q) : recCode q = 31 := by
  unfold recCode
  rw [if_neg (by omega), if_pos h]
theorem code_sum (q : List UInt8) (h4 : 4 ≤ q.length) (hh : headOk q) (hl : recLen q + 8 ≤ q.length) (hs : ¬ sumOk q) : recCode q = 33 := by
  unfold recCode
  rw [if_neg (by omega), if_neg (by simpa using hh), if_neg (by omega), if_pos hs]
/-- A byte behind the head changed: another sum. -/
theorem sum_changed (p r : List UInt8) (h1 : 1 ≤ p.length) (h : p.length ≤ 64) (j : Nat) (hj : 4 ≤ j) (hj2 : j < p.length + 8) (x : UInt8) (hx : x ≠ (frame p ++ r).getD j 0) : recCode ((frame p ++ r).set j x) = 33 := by
  have hlen : (frame p ++ r).length = p.length + 8 + r.length := by simp [frame_length]
  have g : ∀ i, i < 4 → ((frame p ++ r).set j x).getD i 0 = (frame p ++ r).getD i 0 := by
    intro i hi
    rw [List.getD_eq_getElem?_getD, List.getElem?_set, if_neg (by omega), List.getD_eq_getElem?_getD]
  have hL : recLen ((frame p ++ r).set j x) = p.length := by rw [← frame_recLen p r h]; unfold recLen; rw [g 0 (by decide), g 1 (by decide)]
  have hC : recCpl ((frame p ++ r).set j x) = recCpl (frame p ++ r) := by unfold recCpl; rw [g 2 (by decide), g 3 (by decide)]
  have hH : headOk ((frame p ++ r).set j x) := by
    have := frame_headOk p r h1 h
    unfold headOk at this ⊢
    rw [hL, hC]
    rw [frame_recLen p r h] at this
    exact this
  refine code_sum _ (by rw [List.length_set, hlen]; omega) hH (by rw [List.length_set, hL, hlen]; omega) ?_
  intro hs
  unfold sumOk at hs
  rw [hL] at hs
  have f1 := frame_take p r
  have f2 := frame_sum p r
  obtain ⟨q, hq⟩ : ∃ q, q = frame p ++ r := ⟨_, rfl⟩
  rw [← hq] at f1 f2 hs hx hlen
  obtain ⟨s0, s1⟩ := set_split q j (by omega) x
  have hxj : x ≠ q[j]'(by omega) := by
    rw [List.getD_eq_getElem?_getD, List.getElem?_eq_getElem (by omega)] at hx
    exact hx
  rcases Nat.lt_or_ge j (p.length + 4) with hjp | hjp
  · have e1 : (q.set j x).drop (p.length + 4) = q.drop (p.length + 4) := by rw [List.drop_set, if_pos hjp]
    have e2 : (q.set j x).take (p.length + 4) = q.take j ++ x :: (q.drop (j + 1)).take (p.length + 4 - (j + 1)) := by
      rw [s1, List.take_append, List.length_take, List.take_of_length_le (by rw [List.length_take]; omega), Nat.min_eq_left (by omega)]
      rw [show p.length + 4 - j = (p.length + 4 - (j + 1)) + 1 by omega, List.take_succ_cons]
    have e3 : q.take (p.length + 4) = q.take j ++ q[j]'(by omega) :: (q.drop (j + 1)).take (p.length + 4 - (j + 1)) := by
      conv => lhs; rw [s0]
      rw [List.take_append, List.length_take, List.take_of_length_le (by rw [List.length_take]; omega), Nat.min_eq_left (by omega)]
      rw [show p.length + 4 - j = (p.length + 4 - (j + 1)) + 1 by omega, List.take_succ_cons]
    rw [e1, f2, ← f1] at hs
    have hh := le4_inj (sum_lt _) (sum_lt _) hs
    rw [e2, e3] at hh
    exact sum_one _ _ _ _ hxj.symm hh
  · have e1 : (q.set j x).take (p.length + 4) = q.take (p.length + 4) := List.take_set_of_le hjp
    rw [e1, f1, ← f2] at hs
    have h2 : ((q.set j x).drop (p.length + 4))[j - (p.length + 4)]? = some x := by
      rw [List.getElem?_drop, show p.length + 4 + (j - (p.length + 4)) = j by omega, List.getElem?_set_self (by omega)]
    have h3 : ((q.set j x).drop (p.length + 4)).take 4 = (q.drop (p.length + 4)).take 4 := hs
    have h4 := congrArg (fun l => l[j - (p.length + 4)]?) h3
    simp only [List.getElem?_take, show j - (p.length + 4) < 4 by omega, if_true] at h4
    rw [h2, List.getElem?_drop, show p.length + 4 + (j - (p.length + 4)) = j by omega, List.getElem?_eq_getElem (by omega)] at h4
    exact hxj (Option.some.inj h4)

/-- WalTold: one byte of joined records changed. -/
theorem scan_changed {ps : List (List UInt8)} (hf : Fits ps) {k i at_ : Nat} (hk : k < (joined ps).length) (hw : Whole ps k i at_) (x : UInt8) (hx : x ≠ (joined ps).getD k 0) :
    scan ((joined ps).set k x) = (ps.take i, at_, if k < at_ + 4 then 31 else 33) := by
  obtain ⟨h1, h2, h3, h4⟩ := hw
  have hi : i < ps.length := by
    rcases Nat.lt_or_ge i ps.length with h | h
    · exact h
    · exfalso
      rw [List.take_of_length_le h] at h2
      omega
  have hp := h4 ps[i] (List.getElem?_eq_getElem hi)
  have hpf := hf ps[i] (List.getElem_mem hi)
  have e2 : ps.drop i = ps[i] :: ps.drop (i + 1) := List.drop_eq_getElem_cons hi
  obtain ⟨p, hpp⟩ : ∃ p, p = ps[i] := ⟨_, rfl⟩
  rw [← hpp] at hp hpf e2
  have e0 : joined ps = joined (ps.take i) ++ (frame p ++ joined (ps.drop (i + 1))) := by rw [← joined_cons, ← e2, ← joined_split]
  obtain ⟨r, hr⟩ : ∃ r, r = joined (ps.drop (i + 1)) := ⟨_, rfl⟩
  rw [← hr] at e0
  have e1 : (joined ps).set k x = joined (ps.take i) ++ (frame p ++ r).set (k - at_) x := by
    rw [e0, List.set_append, if_neg (by omega), ← h2]
  have hx' : x ≠ (frame p ++ r).getD (k - at_) 0 := by
    rw [e0, List.getD_eq_getElem?_getD, List.getElem?_append_right (by omega), ← h2] at hx
    rw [List.getD_eq_getElem?_getD]; exact hx
  have hlen : (frame p ++ r).length = p.length + 8 + r.length := by simp [frame_length]
  have hne : (frame p ++ r).set (k - at_) x ≠ [] := fun h => by
    have := congrArg List.length h
    rw [List.length_set, hlen] at this
    simp at this
  rw [e1, scan_joined_append _ _ (fits_take hf i), ← h2]
  by_cases hh : k < at_ + 4
  · have hc := code_head _ (by rw [List.length_set, hlen]; omega) (head_changed p r hpf.1 hpf.2 (k - at_) (by omega) x hx')
    rw [scan_bad hne (by rw [hc]; decide), hc, if_pos hh]
    simp
  · have hc := sum_changed p r hpf.1 hpf.2 (k - at_) (by omega) (by omega) x hx'
    rw [scan_bad hne (by rw [hc]; decide), hc, if_neg hh]
    simp
end Go.Proofs.YtoophonmonojcaaDoor

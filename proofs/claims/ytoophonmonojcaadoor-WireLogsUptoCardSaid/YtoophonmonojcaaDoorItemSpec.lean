/- What wire's EncodeItem and DecodeItem answer, as plain Lean. -/
import Derived.Test.YtoophonmonojcaaDoorWireDecSpec
import Derived.Test.YtoophonmonojcaaDoorMsgArg
namespace Go.Proofs.YtoophonmonojcaaDoor
open Go.RowKit

def shapeI (k : Nat) : List Nat := match k with
  | 1 => [1] | 2 => [8, 9, 10, 11, 12, 13] | _ => []
def fieldsI : List Nat := [1, 8, 9, 10, 11, 12, 13]
/-- An item's numbers as a message's. -/
def It.m (x : It) : M := ⟨x.k, x.e, 0, 0, 0, 0, 0, 0, x.t, x.op⟩
def It.fine (x : It) : Prop := (x.k = 1 ∧ 1 ≤ x.e ∧ x.e ≤ 255 ∧ x.t = 0 ∧ x.op = zeroO) ∨ (x.k = 2 ∧ x.e = 0 ∧ 0 ≤ x.t ∧ x.t ≤ 4096 ∧ x.op.fine)
/-- One that may be, out of any numbers. -/
def itemOf (x : It) : It := if within x.k 1 2 = 1 then ⟨1, within x.e 1 255, 0, zeroO⟩ else ⟨2, 0, within x.t 0 4096, operate x.op⟩
theorem itemOf_fine (x : It) : (itemOf x).fine := by
  unfold itemOf
  split
  · exact .inl ⟨rfl, within_ge _ _ _ (by omega), within_le _ _ _ (by omega), rfl, rfl⟩
  · exact .inr ⟨rfl, rfl, within_ge _ _ _ (by omega), within_le _ _ _ (by omega), operate_fine _⟩
theorem itemOf_of {x : It} (h : x.fine) : itemOf x = x := by
  obtain ⟨k, e, t, o⟩ := x
  unfold itemOf
  rcases h with ⟨rfl, h1, h2, rfl, rfl⟩ | ⟨rfl, rfl, h1, h2, h3⟩
  · rw [if_pos (show within 1 1 2 = 1 by decide), within_of h1 h2]
  · rw [if_neg (show ¬within 2 1 2 = 1 by decide), within_of h1 h2, operate_of h3]
def GoodI (k : Nat) (x : It) : Prop := ∀ f ∈ fieldsI, badAt (shapeI k) x.m.at 0 f = false
theorem all7 {P : Nat → Prop} : (∀ f ∈ fieldsI, P f) ↔ P 1 ∧ P 8 ∧ P 9 ∧ P 10 ∧ P 11 ∧ P 12 ∧ P 13 := by simp [fieldsI]
theorem goodI_fine (k : Nat) (x : It) (hk : x.k = k) (h1 : 1 ≤ k) (h2 : k ≤ 2) : GoodI k x ↔ x.fine := by
  obtain ⟨mk, e, t, ⟨ok, op, oc, ol, os⟩⟩ := x
  dsimp only at hk
  subst hk
  unfold GoodI
  rw [all7]
  have hc : k = 1 ∨ k = 2 := by omega
  rcases hc with rfl | rfl
  · rw [badAt_in (by decide), badAt_out (by decide), badAt_out (by decide), badAt_out (by decide), badAt_out (by decide), badAt_out (by decide), badAt_out (by decide)]
    simp only [bnd1, M.at, It.m, It.fine, zeroO, O.mk.injEq]
    omega
  · rw [badAt_out (by decide), badAt_in (by decide), badAt_in (by decide), badAt_in (by decide), badAt_in (by decide), badAt_in (by decide), badAt_in (by decide)]
    simp only [bnd8, bnd9, bnd10, bnd11, bnd12, bnd13, M.at, It.m, It.fine, O.fine, zeroO, O.mk.injEq]
    by_cases k0 : ok = 0 <;> by_cases k1 : ok = 1 <;> simp [k0, k1] <;> omega
theorem fineI_range {x : It} (h : x.fine) (k : Nat) (hk : x.k = k) : ∀ f ∈ shapeI k, 1 ≤ f ∧ f < 14 ∧ 0 ≤ x.m.at f ∧ x.m.at f ≤ 65535 := by
  obtain ⟨mk, e, t, ⟨ok, op, oc, ol, os⟩⟩ := x
  dsimp only at hk
  subst hk
  simp only [It.fine, O.fine] at h
  have hc : k = 1 ∨ k = 2 := by omega
  rcases hc with rfl | rfl
  all_goals
    intro f hf
    simp only [shapeI, List.mem_cons, List.not_mem_nil, or_false] at hf
    first
    | (rcases hf with rfl | rfl | rfl | rfl | rfl | rfl <;> simp only [M.at, It.m] <;> omega)
    | (subst hf; simp only [M.at, It.m]; omega)
/-- An item's payload. -/
def encI (x : It) : List UInt8 := layB x.m.at (shapeI x.k.toNat)

theorem list2 {α} (l : List α) (h : l.length = 2) : ∃ a b, l = [a, b] := by
  match l, h with | [a, b], _ => exact ⟨a, b, rfl⟩
theorem list9 {α} (l : List α) (h : l.length = 9) : ∃ a b c d e f g i j, l = [a, b, c, d, e, f, g, i, j] := by
  match l, h with | [a, b, c, d, e, f, g, i, j], _ => exact ⟨a, b, c, d, e, f, g, i, j, rfl⟩
theorem layI_read (i : List UInt8) (k : Nat) (h1 : 1 ≤ k) (h6 : k ≤ 2) (hl : i.length = longOf (shapeI k)) : layB (readB i (shapeI k)) (shapeI k) = i := by
  have hc : k = 1 ∨ k = 2 := by omega
  rcases hc with rfl | rfl
  · obtain ⟨a, b, rfl⟩ := list2 i hl
    simp [layB, shapeI, fieldB, sizeL, readB, posI, u8_of, u8_num1]
  · obtain ⟨a, b, c, d, e, f, g, i', j, rfl⟩ := list9 i hl
    simp [layB, shapeI, fieldB, sizeL, readB, posI, u8_of, u8_num1, u8_num2l, u8_num2h, List.idxOf_cons]
theorem layI_length (v : Nat → Int) (k : Nat) (h1 : 1 ≤ k) (h6 : k ≤ 2) : (layB v (shapeI k)).length = longOf (shapeI k) := by
  have hc : k = 1 ∨ k = 2 := by omega
  rcases hc with rfl | rfl <;> rfl
theorem readI_lay {x : It} (h : x.fine) (k : Nat) (hk : x.k = k) : ∀ f, f < 14 → readB (layB x.m.at (shapeI k)) (shapeI k) f = x.m.at f := by
  obtain ⟨mk, e, t, ⟨ok, op, oc, ol, os⟩⟩ := x
  dsimp only at hk
  subst hk
  simp only [It.fine, O.fine, zeroO, O.mk.injEq] at h
  have hc : k = 1 ∨ k = 2 := by omega
  rcases hc with rfl | rfl
  all_goals
    apply all14
    all_goals
      simp [layB, shapeI, fieldB, sizeL, readB, posI, List.idxOf_cons, M.at, It.m]
      first
      | omega
      | (rw [num_u8 _ (by omega) (by omega)])
      | (rw [num_u16 _ (by omega) (by omega)])
      | (rw [u8_toNat]; omega)
      | skip
def It.of (v : Nat → Int) : It := ⟨v 0, v 1, v 8, ⟨v 9, v 10, v 11, v 12, v 13⟩⟩
theorem It.of_at (x : It) : It.of x.m.at = x := rfl
/-- What DecodeItem answers. -/
def itemDec (i : List UInt8) : (Int × Int) ⊕ It :=
  if i = [] then .inl (62, 0) else
  let k := (i.getD 0 0).toNat
  if k < 1 ∨ 2 < k then .inl (61, 0) else
  if i.length ≠ longOf (shapeI k) then .inl (62, i.length) else
  match badI i (shapeI k) false with
  | some j => .inl (63, posI (shapeI k) j)
  | none => .inr (It.of (readB i (shapeI k)))
theorem shapeI_in (k : Nat) : ∀ f ∈ shapeI k, f ∈ fieldsI := by
  intro f hf
  unfold shapeI at hf
  split at hf <;> simp at hf <;> simp [fieldsI] <;> omega
theorem fieldsI_lt : ∀ f ∈ fieldsI, 1 ≤ f ∧ f < 14 := by decide
theorem It.at_of (v : Nat → Int) (f : Nat) (h : f ∈ fieldsI) : (It.of v).m.at f = v f := by
  simp [fieldsI] at h
  rcases h with rfl | rfl | rfl | rfl | rfl | rfl | rfl <;> rfl
theorem may_congrI (f : Nat) (v v' : Nat → Int) (a : Int) (hf : f ∈ fieldsI) (h : ∀ f ∈ fieldsI, v f = v' f) : mayB f v a = mayB f v' a := by
  unfold mayB boundsOf
  rw [h f hf, h 9 (by decide)]
theorem badI_goodI (b : List UInt8) (k : Nat) (hk : (b.getD 0 0).toNat = k) (h1 : 1 ≤ k) (h6 : k ≤ 2) : badI b (shapeI k) false = none ↔ (It.of (readB b (shapeI k))).fine := by
  have hm : (It.of (readB b (shapeI k))).k = k := by show readB b (shapeI k) 0 = _; unfold readB; rw [if_pos rfl, hk]
  rw [badI_none, ← goodI_fine k _ hm h1 h6]
  unfold GoodI
  constructor
  · intro h f hI
    by_cases hf : f ∈ shapeI k
    · rw [badAt_in hf, ← may_nat]
      rw [may_congrI f _ (readB b (shapeI k)) _ hI (fun f h => It.at_of _ f h)]
      exact h f hf
    · rw [badAt_out hf, It.at_of _ f hI]
      unfold readB
      rw [if_neg (by have := fieldsI_lt f hI; omega), if_neg hf]
  · intro h f hf
    have := h f (shapeI_in k f hf)
    rw [badAt_in hf, ← may_nat] at this
    rw [may_congrI f _ (readB b (shapeI k)) _ (shapeI_in k f hf) (fun f h => It.at_of _ f h)] at this
    exact this
theorem fineI_kind {x : It} (h : x.fine) : ∃ k : Nat, x.k = k ∧ x.k.toNat = k ∧ 1 ≤ k ∧ k ≤ 2 := by
  rcases h with ⟨h, _⟩ | ⟨h, _⟩ <;> rw [h]
  · exact ⟨1, rfl, rfl, by omega, by omega⟩
  · exact ⟨2, rfl, rfl, by omega, by omega⟩
theorem itemDec_enc {x : It} (h : x.fine) : itemDec (encI x) = .inr x := by
  obtain ⟨k, hk, e, h1, h6⟩ := fineI_kind h
  unfold encI
  rw [e]
  have hb0 : ((layB x.m.at (shapeI k)).getD 0 0).toNat = k := by
    show (u8 x.k).toNat = k
    have := u8_toNat x.k
    omega
  have hr := readI_lay h k hk
  have hof : It.of (readB (layB x.m.at (shapeI k)) (shapeI k)) = x := by
    unfold It.of
    rw [hr 0 (by omega), hr 1 (by omega), hr 8 (by omega), hr 9 (by omega), hr 10 (by omega), hr 11 (by omega), hr 12 (by omega), hr 13 (by omega)]
    rfl
  unfold itemDec
  rw [if_neg (by unfold layB; simp)]
  dsimp only
  rw [hb0, if_neg (by omega), if_neg (by rw [layI_length _ k h1 h6]; simp)]
  rw [(badI_goodI _ k hb0 h1 h6).2 (by rw [hof]; exact h)]
  dsimp only
  rw [hof]
theorem layB_congr {l : List Nat} {v v' : Nat → Int} (h0 : v 0 = v' 0) (h : ∀ f ∈ l, v f = v' f) : layB v l = layB v' l := by
  unfold layB
  rw [h0]
  congr 1
  induction l with
  | nil => rfl
  | cons f t ih =>
    rw [List.flatMap_cons, List.flatMap_cons, ih (fun g hg => h g (by simp [hg]))]
    congr 1
    unfold fieldB
    rw [h f (by simp)]
theorem itemDec_ok {i : List UInt8} {x : It} (h : itemDec i = .inr x) : x.fine ∧ encI x = i := by
  unfold itemDec at h
  split at h
  · cases h
  dsimp only at h
  split at h
  · cases h
  split at h
  · cases h
  rename_i h0 h1 h2
  obtain ⟨k, hk⟩ : ∃ k, (i.getD 0 0).toNat = k := ⟨_, rfl⟩
  rw [hk] at h h1 h2
  split at h
  · cases h
  · rename_i hn
    cases h
    refine ⟨(badI_goodI i k hk (by omega) (by omega)).1 hn, ?_⟩
    have hkk : (It.of (readB i (shapeI k))).k.toNat = k := by
      show (readB i (shapeI k) 0).toNat = k
      unfold readB; rw [if_pos rfl, hk]; rfl
    unfold encI
    rw [hkk]
    refine Eq.trans (layB_congr ?_ ?_) (layI_read i k (by omega) (by omega) (by omega))
    · rfl
    · intro f hf; exact It.at_of _ f (shapeI_in k f hf)
theorem itemDec_err {i : List UInt8} {c a : Int} (h : itemDec i = .inl (c, a)) : 61 ≤ c ∧ c ≤ 63 ∧ 0 ≤ a ∧ a ≤ i.length := by
  unfold itemDec at h
  split at h
  · cases h; simp
  dsimp only at h
  split at h
  · cases h; simp
  split at h
  · cases h; simp
  rename_i h0 h1 h2
  split at h
  · rename_i j _
    cases h
    have := posI_le (shapeI (i.getD 0 0).toNat) j
    omega
  · cases h
end Go.Proofs.YtoophonmonojcaaDoor

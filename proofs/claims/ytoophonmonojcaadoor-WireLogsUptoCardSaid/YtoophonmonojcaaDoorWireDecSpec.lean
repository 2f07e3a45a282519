/- What wire's Decode answers, as plain Lean. -/
import Derived.Test.YtoophonmonojcaaDoorWireSpec
namespace Go.Proofs.YtoophonmonojcaaDoor
open Go.RowKit

/-- Where the i-th field of a shape stands; how long a body of it is. -/
def posI (l : List Nat) (i : Nat) : Nat := 1 + ((l.take i).map fun f => sizeL.getD f 0).sum
def longOf (l : List Nat) : Nat := 1 + (l.map fun f => sizeL.getD f 0).sum
/-- The field's number, read of the bytes. -/
def readB (b : List UInt8) (l : List Nat) (f : Nat) : Int :=
  if f = 0 then ((b.getD 0 0).toNat : Int) else if f ∈ l then ((num ((b.drop (posI l (l.idxOf f))).take (sizeL.getD f 0)) : Nat) : Int) else 0
def makerB (own : Bool) (v : Nat → Int) : Int := if own then v 2 else 0
/-- The first field that may not stand. -/
def badI (b : List UInt8) (l : List Nat) (own : Bool) : Option Nat := (List.range l.length).find? fun i => !mayB (l.getD i 0) (readB b l) (makerB own (readB b l))
/-- The message of fourteen numbers. -/
def M.of (v : Nat → Int) : M := ⟨v 0, v 1, v 2, v 3, v 4, v 5, v 6, v 7, v 8, ⟨v 9, v 10, v 11, v 12, v 13⟩⟩
theorem M.of_at (m : M) : M.of m.at = m := rfl
theorem M.at_of (v : Nat → Int) (f : Nat) (h : f < 14) : (M.of v).at f = v f := by
  have hc : f = 0 ∨ f = 1 ∨ f = 2 ∨ f = 3 ∨ f = 4 ∨ f = 5 ∨ f = 6 ∨ f = 7 ∨ f = 8 ∨ f = 9 ∨ f = 10 ∨ f = 11 ∨ f = 12 ∨ f = 13 := by omega
  rcases hc with rfl | rfl | rfl | rfl | rfl | rfl | rfl | rfl | rfl | rfl | rfl | rfl | rfl | rfl <;> rfl
theorem M.of_congr {v v' : Nat → Int} (h : ∀ f, f < 14 → v f = v' f) : M.of v = M.of v' := by
  unfold M.of
  rw [h 0 (by omega), h 1 (by omega), h 2 (by omega), h 3 (by omega), h 4 (by omega), h 5 (by omega), h 6 (by omega), h 7 (by omega), h 8 (by omega), h 9 (by omega), h 10 (by omega), h 11 (by omega), h 12 (by omega), h 13 (by omega)]

/-- What Decode answers of a body: the error's number and place, or the message. -/
def bodyOf (i : List UInt8) : (Int × Int) ⊕ M :=
  if i = [] then .inl (62, 0) else
  let k := (i.getD 0 0).toNat
  if k < 1 ∨ 6 < k then .inl (61, 0) else
  if i.length ≠ longOf (shapeN k) then .inl (62, i.length) else
  match badI i (shapeN k) (k == 2) with
  | some j => .inl (63, posI (shapeN k) j)
  | none => .inr (M.of (readB i (shapeN k)))

theorem fieldB_one (v : Nat → Int) (f : Nat) (h : sizeL.getD f 0 = 1) : fieldB v f = [u8 (v f)] := by unfold fieldB; rw [h]; rfl
theorem fieldB_two (v : Nat → Int) (f : Nat) (h : sizeL.getD f 0 = 2) : fieldB v f = [u8 (v f / 256), u8 (v f)] := by unfold fieldB; rw [if_pos h]
theorem num_u8 (x : Int) (h0 : 0 ≤ x) (h1 : x ≤ 255) : ((num [u8 x] : Nat) : Int) = x := by rw [num_one, u8_toNat]; omega
theorem num_u16 (x : Int) (h0 : 0 ≤ x) (h1 : x ≤ 65535) : ((num [u8 (x / 256), u8 x] : Nat) : Int) = x := by
  rw [num_two]
  have e1 := u8_toNat (x / 256)
  have e2 := u8_toNat x
  omega
theorem u8_num1 (a : UInt8) : u8 ((num [a] : Nat) : Int) = a := by rw [num_one, u8_of]
theorem u8_num2l (a b : UInt8) : u8 ((num [a, b] : Nat) : Int) = b := by
  rw [num_two]
  apply UInt8.toNat_inj.1
  have := u8_toNat ((a.toNat * 256 + b.toNat : Nat) : Int)
  have := b.toNat_lt
  omega
theorem u8_num2h (a b : UInt8) : u8 (((num [a, b] : Nat) : Int) / 256) = a := by
  rw [num_two]
  apply UInt8.toNat_inj.1
  have := u8_toNat (((a.toNat * 256 + b.toNat : Nat) : Int) / 256)
  have := b.toNat_lt
  have := a.toNat_lt
  omega

theorem list3 {α} (l : List α) (h : l.length = 3) : ∃ a b c, l = [a, b, c] := by
  match l, h with | [a, b, c], _ => exact ⟨a, b, c, rfl⟩
theorem list5 {α} (l : List α) (h : l.length = 5) : ∃ a b c d e, l = [a, b, c, d, e] := by
  match l, h with | [a, b, c, d, e], _ => exact ⟨a, b, c, d, e, rfl⟩
theorem list6 {α} (l : List α) (h : l.length = 6) : ∃ a b c d e f, l = [a, b, c, d, e, f] := by
  match l, h with | [a, b, c, d, e, f], _ => exact ⟨a, b, c, d, e, f, rfl⟩
theorem list15 {α} (l : List α) (h : l.length = 15) : ∃ a b c d e f g i j k m n o p q, l = [a, b, c, d, e, f, g, i, j, k, m, n, o, p, q] := by
  match l, h with | [a, b, c, d, e, f, g, i, j, k, m, n, o, p, q], _ => exact ⟨a, b, c, d, e, f, g, i, j, k, m, n, o, p, q, rfl⟩

/-- What is read of a body is written as that body. -/
theorem lay_read (i : List UInt8) (k : Nat) (h1 : 1 ≤ k) (h6 : k ≤ 6) (hl : i.length = longOf (shapeN k)) : layB (readB i (shapeN k)) (shapeN k) = i := by
  have hc : k = 1 ∨ k = 2 ∨ k = 3 ∨ k = 4 ∨ k = 5 ∨ k = 6 := by omega
  rcases hc with rfl | rfl | rfl | rfl | rfl | rfl
  · obtain ⟨a, b, c, d, e, f, rfl⟩ := list6 i hl
    simp [layB, shapeN, fieldB, sizeL, readB, posI, u8_of, u8_num1, u8_num2l, u8_num2h, List.idxOf_cons]
  · obtain ⟨a, b, c, d, e, f, g, i', j, k, m, n, o, p, q, rfl⟩ := list15 i hl
    simp [layB, shapeN, fieldB, sizeL, readB, posI, u8_of, u8_num1, u8_num2l, u8_num2h, List.idxOf_cons]
  · obtain ⟨a, b, c, d, e, rfl⟩ := list5 i hl
    simp [layB, shapeN, fieldB, sizeL, readB, posI, u8_of, u8_num1, u8_num2l, u8_num2h, List.idxOf_cons]
  · obtain ⟨a, b, c, rfl⟩ := list3 i hl
    simp [layB, shapeN, fieldB, sizeL, readB, posI, u8_of, u8_num1, List.idxOf_cons]
  · obtain ⟨a, b, c, d, e, f, g, i', j, k, m, n, o, p, q, rfl⟩ := list15 i hl
    simp [layB, shapeN, fieldB, sizeL, readB, posI, u8_of, u8_num1, u8_num2l, u8_num2h, List.idxOf_cons]
  · obtain ⟨a, b, c, d, e, rfl⟩ := list5 i hl
    simp [layB, shapeN, fieldB, sizeL, readB, posI, u8_of, u8_num1, u8_num2l, u8_num2h, List.idxOf_cons]
theorem lay_length (v : Nat → Int) (k : Nat) (h1 : 1 ≤ k) (h6 : k ≤ 6) : (layB v (shapeN k)).length = longOf (shapeN k) := by
  have hc : k = 1 ∨ k = 2 ∨ k = 3 ∨ k = 4 ∨ k = 5 ∨ k = 6 := by omega
  rcases hc with rfl | rfl | rfl | rfl | rfl | rfl <;> rfl
theorem all14 {P : Nat → Prop} (h0 : P 0) (h1 : P 1) (h2 : P 2) (h3 : P 3) (h4 : P 4) (h5 : P 5) (h6 : P 6) (h7 : P 7) (h8 : P 8) (h9 : P 9) (h10 : P 10) (h11 : P 11) (h12 : P 12) (h13 : P 13) : ∀ f, f < 14 → P f := by
  intro f h
  have hc : f = 0 ∨ f = 1 ∨ f = 2 ∨ f = 3 ∨ f = 4 ∨ f = 5 ∨ f = 6 ∨ f = 7 ∨ f = 8 ∨ f = 9 ∨ f = 10 ∨ f = 11 ∨ f = 12 ∨ f = 13 := by omega
  rcases hc with rfl | rfl | rfl | rfl | rfl | rfl | rfl | rfl | rfl | rfl | rfl | rfl | rfl | rfl <;> assumption

/-- What is written of a message is read as it was. -/
theorem read_lay {m : M} (h : m.fine) (k : Nat) (hk : m.k = k) : ∀ f, f < 14 → readB (layB m.at (shapeN k)) (shapeN k) f = m.at f := by
  have hr := fine_range h k hk
  obtain ⟨mk, e, c, ha, fi, nu, ac, re, ta, ⟨ok, op, oc, ol, os⟩⟩ := m
  dsimp only at hk
  subst hk
  simp only [M.fine, O.fine, zeroO, O.mk.injEq] at h
  have hc : k = 1 ∨ k = 2 ∨ k = 3 ∨ k = 4 ∨ k = 5 ∨ k = 6 := by omega
  rcases hc with rfl | rfl | rfl | rfl | rfl | rfl
  all_goals
    apply all14
    all_goals
      simp [layB, shapeN, fieldB, sizeL, readB, posI, List.idxOf_cons, M.at]
      first
      | omega
      | (rw [num_u8 _ (by omega) (by omega)])
      | (rw [num_u16 _ (by omega) (by omega)])
      | (rw [u8_toNat]; omega)
      | skip

theorem may_congr (f : Nat) (v v' : Nat → Int) (a : Int) (hf : f < 14) (h : ∀ f, f < 14 → v f = v' f) : mayB f v a = mayB f v' a := by
  unfold mayB boundsOf
  rw [h f hf, h 9 (by omega)]
theorem badI_none (b : List UInt8) (l : List Nat) (own : Bool) : badI b l own = none ↔ ∀ f ∈ l, mayB f (readB b l) (makerB own (readB b l)) = true := by
  unfold badI
  rw [List.find?_range_eq_none]
  constructor
  · intro h f hf
    obtain ⟨i, hi, rfl⟩ := List.mem_iff_getElem.1 hf
    have := h i hi
    simpa [List.getD_eq_getElem?_getD, hi] using this
  · intro h i hi
    have := h l[i] (List.getElem_mem hi)
    simpa [List.getD_eq_getElem?_getD, hi] using this
theorem shape_lt (k : Nat) : ∀ f ∈ shapeN k, 1 ≤ f ∧ f < 14 := by
  intro f hf
  unfold shapeN at hf
  split at hf <;> simp at hf <;> omega
theorem badI_good (b : List UInt8) (k : Nat) (hk : (b.getD 0 0).toNat = k) (h1 : 1 ≤ k) (h6 : k ≤ 6) : badI b (shapeN k) (k == 2) = none ↔ (M.of (readB b (shapeN k))).fine := by
  have hm : (M.of (readB b (shapeN k))).k = k := by show readB b (shapeN k) 0 = _; unfold readB; rw [if_pos rfl, hk]
  have hmk : makerB (k == 2) (readB b (shapeN k)) = makerOf (M.of (readB b (shapeN k))) := by
    unfold makerB makerOf
    rw [hm]
    by_cases h : k = 2
    · subst h; rfl
    · rw [if_neg (by simpa using h), if_neg (by omega)]
  rw [badI_none, ← good_fine k _ hm h1 h6, hmk]
  unfold Good
  constructor
  · intro h f h1 h2
    by_cases hf : f ∈ shapeN k
    · rw [badAt_in hf, ← may_nat]
      rw [may_congr f _ (readB b (shapeN k)) _ h2 (fun f h => M.at_of _ f h)]
      exact h f hf
    · rw [badAt_out hf, M.at_of _ f h2]
      unfold readB
      rw [if_neg (by omega), if_neg hf]
  · intro h f hf
    obtain ⟨g1, g2⟩ := shape_lt k f hf
    have := h f g1 g2
    rw [badAt_in hf, ← may_nat] at this
    rw [may_congr f _ (readB b (shapeN k)) _ g2 (fun f h => M.at_of _ f h)] at this
    exact this

/-- The bytes of a fine message's body answer that message. -/
theorem body_lay {m : M} (h : m.fine) : bodyOf (layB m.at (shapeN m.k.toNat)) = .inr m := by
  obtain ⟨k, hk⟩ : ∃ k : Nat, m.k = k := ⟨m.k.toNat, by have := h.1; omega⟩
  have h1 := h.1
  have h6 := h.2.1
  have e : m.k.toNat = k := by omega
  rw [e]
  have hb0 : ((layB m.at (shapeN k)).getD 0 0).toNat = k := by
    show (u8 m.k).toNat = k
    have := u8_toNat m.k
    omega
  have hr := read_lay h k hk
  have hof : M.of (readB (layB m.at (shapeN k)) (shapeN k)) = m := (M.of_congr hr).trans (M.of_at m)
  unfold bodyOf
  rw [if_neg (by unfold layB; simp)]
  dsimp only
  rw [hb0, if_neg (by omega), if_neg (by rw [lay_length _ k (by omega) (by omega)]; simp)]
  rw [(badI_good _ k hb0 (by omega) (by omega)).2 (by rw [hof]; exact h)]
  dsimp only
  rw [hof]
/-- A body that answers a message is that message's. -/
theorem body_ok {i : List UInt8} {m : M} (h : bodyOf i = .inr m) : m.fine ∧ layB m.at (shapeN m.k.toNat) = i := by
  unfold bodyOf at h
  split at h
  · cases h
  dsimp only at h
  split at h
  · cases h
  split at h
  · cases h
  rename_i h0 h1 h2
  obtain ⟨k, hk⟩ : ∃ k, (i.getD 0 0).toNat = k := ⟨_, rfl⟩
  rw [hk] at h h1 h2
  split at h
  · cases h
  · rename_i hn
    cases h
    refine ⟨(badI_good i k hk (by omega) (by omega)).1 hn, ?_⟩
    have hkk : (M.of (readB i (shapeN k))).k.toNat = k := by
      show (readB i (shapeN k) 0).toNat = k
      unfold readB; rw [if_pos rfl, hk]; rfl
    rw [hkk]
    have := lay_read i k (by omega) (by omega) (by omega)
    rw [← this]
    have e2 : ∀ (v v' : Nat → Int), (∀ f, f < 14 → v f = v' f) → layB v (shapeN k) = layB v' (shapeN k) := by
      intro v v' hv
      unfold layB
      rw [hv 0 (by omega)]
      congr 1
      have : ∀ l : List Nat, (∀ f ∈ l, f < 14) → l.flatMap (fieldB v) = l.flatMap (fieldB v') := by
        intro l hl
        induction l with
        | nil => rfl
        | cons f t ih =>
          rw [List.flatMap_cons, List.flatMap_cons, ih (fun g hg => hl g (by simp [hg]))]
          congr 1
          unfold fieldB
          rw [hv f (hl f (by simp))]
      exact this _ (fun f hf => (shape_lt k f hf).2)
    rw [this]
    exact (e2 _ _ (fun f hf => M.at_of _ f hf)).trans this
theorem posI_le (l : List Nat) (i : Nat) : posI l i ≤ longOf l := by
  unfold posI longOf
  have : ∀ (l : List Nat) (i : Nat), ((l.take i).map fun f => sizeL.getD f 0).sum ≤ (l.map fun f => sizeL.getD f 0).sum := by
    intro l
    induction l with
    | nil => intro i; simp
    | cons a t ih =>
      intro i
      cases i with
      | zero => simp
      | succ i => have := ih i; simp only [List.take_succ_cons, List.map_cons, List.sum_cons]; omega
  have := this l i
  omega
theorem body_err {i : List UInt8} {c a : Int} (h : bodyOf i = .inl (c, a)) : 61 ≤ c ∧ c ≤ 63 ∧ 0 ≤ a ∧ a ≤ i.length := by
  unfold bodyOf at h
  split at h
  · cases h; simp
  dsimp only at h
  split at h
  · cases h; simp
  split at h
  · cases h; simp
  rename_i h0 h1 h2
  split at h
  · rename_i j _
    cases h
    have := posI_le (shapeN (i.getD 0 0).toNat) j
    omega
  · cases h

/-- What Decode answers. -/
def decode (b : List UInt8) : (Int × Int) ⊕ M :=
  if 64 < b.length then .inl (60, 64) else if b.length < 4 then .inl (62, b.length) else
  if b.drop (b.length - 4) = le4 (sum (b.take (b.length - 4))) then bodyOf (b.take (b.length - 4)) else .inl (64, (b.length - 4 : Nat))
theorem decode_enc {m : M} (h : m.fine) : decode (encB m) = .inr m := by
  have hl : (layB m.at (shapeN m.k.toNat)).length ≤ 15 := by
    have h1 := h.1
    have h6 := h.2.1
    obtain ⟨k, hk⟩ : ∃ k : Nat, m.k.toNat = k := ⟨_, rfl⟩
    rw [hk, lay_length _ k (by omega) (by omega)]
    have hc : k = 1 ∨ k = 2 ∨ k = 3 ∨ k = 4 ∨ k = 5 ∨ k = 6 := by omega
    rcases hc with rfl | rfl | rfl | rfl | rfl | rfl <;> decide
  obtain ⟨l, hl0⟩ : ∃ l, l = layB m.at (shapeN m.k.toNat) := ⟨_, rfl⟩
  have e1 : (encB m).length = l.length + 4 := by rw [hl0]; simp [encB, sealed, le4]
  have e2 : (encB m).length - 4 = l.length := by omega
  rw [← hl0] at hl
  unfold decode
  rw [e2, if_neg (by omega), if_neg (by omega)]
  have e3 : (encB m).take l.length = l := by rw [hl0]; simp [encB, sealed]
  have e4 : (encB m).drop l.length = le4 (sum l) := by rw [hl0]; simp [encB, sealed]
  rw [e3, e4, if_pos rfl, hl0, body_lay h]
theorem decode_ok {b : List UInt8} {m : M} (h : decode b = .inr m) : m.fine ∧ encB m = b := by
  unfold decode at h
  split at h
  · cases h
  split at h
  · cases h
  split at h
  · rename_i hd
    obtain ⟨h1, h2⟩ := body_ok h
    refine ⟨h1, ?_⟩
    unfold encB sealed
    rw [h2, ← hd, List.take_append_drop]
  · cases h
theorem decode_err {b : List UInt8} {c a : Int} (h : decode b = .inl (c, a)) : 60 ≤ c ∧ c ≤ 64 ∧ 0 ≤ a ∧ a ≤ 64 ∧ a ≤ b.length := by
  unfold decode at h
  split at h
  · cases h; omega
  split at h
  · cases h; omega
  split at h
  · have := body_err h
    rw [List.length_take] at this
    omega
  · cases h; omega
end Go.Proofs.YtoophonmonojcaaDoor

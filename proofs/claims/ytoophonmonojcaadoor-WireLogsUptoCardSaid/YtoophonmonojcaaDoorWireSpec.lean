/- What wire's Encode answers, as plain Lean: which messages may stand; the laws' message is one of them. -/
import Derived.Test.YtoophonmonojcaaDoorWireLay
import Derived.Test.YtoophonmonojcaaDoorWireFlat
namespace Go.Proofs.YtoophonmonojcaaDoor
open Go.RowKit

def shapeN (k : Nat) : List Nat := match k with
  | 1 => [1, 2, 3, 4] | 2 => [1, 2, 5, 6, 8, 9, 10, 11, 12, 13] | 3 => [1, 2, 6] | 4 => [1, 2] | 5 => [1, 2, 5, 6, 7, 9, 10, 11, 12, 13] | 6 => [1, 2, 6] | _ => []
def makerOf (m : M) : Int := if m.k = 2 then m.c else 0
/-- The field may not stand. -/
def badAt (l : List Nat) (v : Nat → Int) (maker : Int) (f : Nat) : Bool := if f ∈ l then !mayB f v maker else v f != 0
/-- Each field of the message may stand. -/
def Good (k : Nat) (m : M) : Prop := ∀ f, 1 ≤ f → f < 14 → badAt (shapeN k) m.at (makerOf m) f = false
/-- A message's datagram. -/
def encB (m : M) : List UInt8 := sealed (layB m.at (shapeN m.k.toNat))

/-- An operation that may stand. -/
def O.fine (o : O) : Prop := 0 ≤ o.k ∧ o.k ≤ 2 ∧ (o.k = 0 → o.p = 0) ∧ 0 ≤ o.p ∧ o.p ≤ 4095 ∧ (o.k = 1 → 32 ≤ o.ch ∧ o.ch ≤ 126) ∧ (o.k ≠ 1 → o.ch = 0) ∧ 1 ≤ o.cl ∧ o.cl ≤ 64 ∧ 1 ≤ o.s ∧ o.s ≤ 64
/-- A message that may stand. -/
def M.fine (m : M) : Prop := 1 ≤ m.k ∧ m.k ≤ 6 ∧ 1 ≤ m.e ∧ m.e ≤ 255 ∧ 1 ≤ m.c ∧ m.c ≤ 64 ∧
  (m.k = 1 → 0 ≤ m.ha ∧ m.ha ≤ 4096 ∧ 1 ≤ m.fi ∧ m.fi ≤ 65) ∧ (m.k ≠ 1 → m.ha = 0 ∧ m.fi = 0) ∧
  (m.k = 2 ∨ m.k = 5 → 1 ≤ m.nu ∧ m.nu ≤ 4096 ∧ m.op.fine) ∧ (m.k ≠ 2 → m.k ≠ 5 → m.nu = 0 ∧ m.op = zeroO) ∧
  (m.k ≠ 1 → m.k ≠ 4 → 0 ≤ m.ac ∧ m.ac ≤ 4096) ∧ (m.k = 1 ∨ m.k = 4 → m.ac = 0) ∧
  (m.k = 2 → 0 ≤ m.ta ∧ m.ta ≤ 4096 ∧ m.op.cl = m.c) ∧ (m.k ≠ 2 → m.ta = 0) ∧ (m.k = 5 → 1 ≤ m.re ∧ m.re ≤ 4096) ∧ (m.k ≠ 5 → m.re = 0)

theorem within_of {v lo hi : Int} (h1 : lo ≤ v) (h2 : v ≤ hi) : within v lo hi = v := by unfold within; rw [if_pos ⟨h1, h2⟩]
theorem operate_fine (o : O) : (operate o).fine := by
  have k0 := within_ge o.k 0 2 (by omega); have k1 := within_le o.k 0 2 (by omega)
  have p0 := within_ge o.p 0 4095 (by omega); have p1 := within_le o.p 0 4095 (by omega)
  have c0 := within_ge o.ch 32 126 (by omega); have c1 := within_le o.ch 32 126 (by omega)
  have l0 := within_ge o.cl 1 64 (by omega); have l1 := within_le o.cl 1 64 (by omega)
  have s0 := within_ge o.s 1 64 (by omega); have s1 := within_le o.s 1 64 (by omega)
  unfold O.fine operate
  dsimp only
  refine ⟨k0, k1, fun h => by rw [if_pos h], ?_, ?_, fun h => by rw [if_pos h]; exact ⟨c0, c1⟩, fun h => by rw [if_neg h], l0, l1, s0, s1⟩
  all_goals split <;> omega
theorem operate_of {o : O} (h : o.fine) : operate o = o := by
  obtain ⟨k, p, ch, cl, s⟩ := o
  obtain ⟨h1, h2, h3, h4, h5, h6, h7, h8, h9, h10, h11⟩ := h
  dsimp only at *
  unfold operate
  simp only [within_of h1 h2, within_of h8 h9, within_of h10 h11, within_of h4 h5]
  congr 1
  · split
    · rw [h3 (by assumption)]
    · rfl
  · split
    · exact within_of (h6 (by assumption)).1 (h6 (by assumption)).2
    · rw [h7 (by assumption)]
theorem mess_fine (m : M) : (mess m).fine := by
  have k0 := within_ge m.k 1 6 (by omega); have k1 := within_le m.k 1 6 (by omega)
  have e0 := within_ge m.e 1 255 (by omega); have e1 := within_le m.e 1 255 (by omega)
  have c0 := within_ge m.c 1 64 (by omega); have c1 := within_le m.c 1 64 (by omega)
  have h0 := within_ge m.ha 0 4096 (by omega); have h1 := within_le m.ha 0 4096 (by omega)
  have f0 := within_ge m.fi 1 65 (by omega); have f1 := within_le m.fi 1 65 (by omega)
  have n0 := within_ge m.nu 1 4096 (by omega); have n1 := within_le m.nu 1 4096 (by omega)
  have a0 := within_ge m.ac 0 4096 (by omega); have a1 := within_le m.ac 0 4096 (by omega)
  have r0 := within_ge m.re 1 4096 (by omega); have r1 := within_le m.re 1 4096 (by omega)
  have t0 := within_ge m.ta 0 4096 (by omega); have t1 := within_le m.ta 0 4096 (by omega)
  have ho := operate_fine m.op
  unfold M.fine mess
  dsimp only
  refine ⟨k0, k1, e0, e1, c0, c1, fun h => ?_, fun h => ?_, fun h => ?_, fun h h' => ?_, fun h h' => ?_, fun h => ?_, fun h => ?_, fun h => ?_, fun h => ?_, fun h => ?_⟩
  · simp only [if_pos h]; exact ⟨h0, h1, f0, f1⟩
  · simp only [if_neg h]; exact ⟨trivial, trivial⟩
  · rw [if_pos h]
    refine ⟨n0, n1, ?_⟩
    rcases h with h | h
    · rw [if_pos h]
      obtain ⟨q1, q2, q3, q4, q5, q6, q7, q8, q9, q10, q11⟩ := ho
      exact ⟨q1, q2, q3, q4, q5, q6, q7, c0, c1, q10, q11⟩
    · rw [if_neg (by omega), if_pos h]; exact ho
  · rw [if_neg (by omega), if_neg h, if_neg h']; exact ⟨rfl, rfl⟩
  · rw [if_pos ⟨h, h'⟩]; exact ⟨a0, a1⟩
  · rw [if_neg (by omega)]
  · simp only [if_pos h]; exact ⟨t0, t1, trivial⟩
  · rw [if_neg h]
  · rw [if_pos h]; exact ⟨r0, r1⟩
  · rw [if_neg h]
theorem mess_of {m : M} (h : m.fine) : mess m = m := by
  obtain ⟨k, e, c, ha, fi, nu, ac, re, ta, op⟩ := m
  obtain ⟨h1, h2, h3, h4, h5, h6, h7, h8, h9, h10, h11, h12, h13, h14, h15, h16⟩ := h
  dsimp only at *
  unfold mess
  simp only [within_of h1 h2, within_of h3 h4, within_of h5 h6]
  congr 1
  · split
    · rename_i h; exact within_of (h7 h).1 (h7 h).2.1
    · rename_i h; exact (h8 h).1.symm
  · split
    · rename_i h; exact within_of (h7 h).2.2.1 (h7 h).2.2.2
    · rename_i h; exact (h8 h).2.symm
  · split
    · rename_i h; exact within_of (h9 h).1 (h9 h).2.1
    · rename_i h; exact (h10 (by omega) (by omega)).1.symm
  · split
    · rename_i h; exact within_of (h11 h.1 h.2).1 (h11 h.1 h.2).2
    · rename_i h; exact (h12 (by omega)).symm
  · split
    · rename_i h; exact within_of (h15 h).1 (h15 h).2
    · rename_i h; exact (h16 h).symm
  · split
    · rename_i h; exact within_of (h13 h).1 (h13 h).2.1
    · rename_i h; exact (h14 h).symm
  · split
    · rename_i h; rw [operate_of (h9 (.inl h)).2.2, ← (h13 h).2.2]
    · split
      · rename_i h; exact operate_of (h9 (.inr h)).2.2
      · rename_i h h'; exact (h10 h h').2.symm

theorem all13 {P : Nat → Prop} : (∀ f, 1 ≤ f → f < 14 → P f) ↔ P 1 ∧ P 2 ∧ P 3 ∧ P 4 ∧ P 5 ∧ P 6 ∧ P 7 ∧ P 8 ∧ P 9 ∧ P 10 ∧ P 11 ∧ P 12 ∧ P 13 := by
  constructor
  · intro h
    exact ⟨h 1 (by omega) (by omega), h 2 (by omega) (by omega), h 3 (by omega) (by omega), h 4 (by omega) (by omega), h 5 (by omega) (by omega), h 6 (by omega) (by omega), h 7 (by omega) (by omega), h 8 (by omega) (by omega), h 9 (by omega) (by omega), h 10 (by omega) (by omega), h 11 (by omega) (by omega), h 12 (by omega) (by omega), h 13 (by omega) (by omega)⟩
  · rintro ⟨a1, a2, a3, a4, a5, a6, a7, a8, a9, a10, a11, a12, a13⟩ f h1 h2
    have hc : f = 1 ∨ f = 2 ∨ f = 3 ∨ f = 4 ∨ f = 5 ∨ f = 6 ∨ f = 7 ∨ f = 8 ∨ f = 9 ∨ f = 10 ∨ f = 11 ∨ f = 12 ∨ f = 13 := by omega
    rcases hc with rfl | rfl | rfl | rfl | rfl | rfl | rfl | rfl | rfl | rfl | rfl | rfl | rfl <;> assumption

theorem may_nat (f : Nat) (v : Nat → Int) (maker : Int) : mayB f v maker = true ↔ (boundsOf f v maker).1 ≤ v f ∧ v f ≤ (boundsOf f v maker).2 := by unfold mayB; simp
theorem badAt_in {l : List Nat} {v : Nat → Int} {maker : Int} {f : Nat} (h : f ∈ l) : badAt l v maker f = false ↔ (boundsOf f v maker).1 ≤ v f ∧ v f ≤ (boundsOf f v maker).2 := by
  unfold badAt; rw [if_pos h, ← may_nat]; simp
theorem badAt_out {l : List Nat} {v : Nat → Int} {maker : Int} {f : Nat} (h : f ∉ l) : badAt l v maker f = false ↔ v f = 0 := by
  unfold badAt; rw [if_neg h]; simp

theorem bnd1 (v : Nat → Int) (k : Int) : boundsOf 1 v k = (1, 255) := rfl
theorem bnd2 (v : Nat → Int) (k : Int) : boundsOf 2 v k = (1, 64) := rfl
theorem bnd3 (v : Nat → Int) (k : Int) : boundsOf 3 v k = (0, 4096) := rfl
theorem bnd4 (v : Nat → Int) (k : Int) : boundsOf 4 v k = (1, 65) := rfl
theorem bnd5 (v : Nat → Int) (k : Int) : boundsOf 5 v k = (1, 4096) := rfl
theorem bnd6 (v : Nat → Int) (k : Int) : boundsOf 6 v k = (0, 4096) := rfl
theorem bnd7 (v : Nat → Int) (k : Int) : boundsOf 7 v k = (1, 4096) := rfl
theorem bnd8 (v : Nat → Int) (k : Int) : boundsOf 8 v k = (0, 4096) := rfl
theorem bnd9 (v : Nat → Int) (k : Int) : boundsOf 9 v k = (0, 2) := rfl
theorem bnd10 (v : Nat → Int) (k : Int) : boundsOf 10 v k = if v 9 = 0 then (0, 0) else (0, 4095) := rfl
theorem bnd11 (v : Nat → Int) (k : Int) : boundsOf 11 v k = if v 9 = 1 then (32, 126) else (0, 0) := rfl
theorem bnd12 (v : Nat → Int) (k : Int) : boundsOf 12 v k = if k ≠ 0 then (k, k) else (1, 64) := rfl
theorem bnd13 (v : Nat → Int) (k : Int) : boundsOf 13 v k = (1, 64) := rfl

set_option maxHeartbeats 4000000 in
/-- Just those may stand. -/
theorem good_fine (k : Nat) (m : M) (hm : m.k = k) (h1 : 1 ≤ k) (h2 : k ≤ 6) : Good k m ↔ m.fine := by
  obtain ⟨mk, e, c, ha, fi, nu, ac, re, ta, ⟨ok, op, oc, ol, os⟩⟩ := m
  dsimp only at hm
  subst hm
  unfold Good
  rw [all13]
  have hc : k = 1 ∨ k = 2 ∨ k = 3 ∨ k = 4 ∨ k = 5 ∨ k = 6 := by omega
  rcases hc with rfl | rfl | rfl | rfl | rfl | rfl
  · rw [badAt_in (by decide), badAt_in (by decide), badAt_in (by decide), badAt_in (by decide), badAt_out (by decide), badAt_out (by decide), badAt_out (by decide), badAt_out (by decide), badAt_out (by decide), badAt_out (by decide), badAt_out (by decide), badAt_out (by decide), badAt_out (by decide)]
    simp only [bnd1, bnd2, bnd3, bnd4, M.at, M.fine, zeroO, O.mk.injEq]
    omega
  · rw [badAt_in (by decide), badAt_in (by decide), badAt_out (by decide), badAt_out (by decide), badAt_in (by decide), badAt_in (by decide), badAt_out (by decide), badAt_in (by decide), badAt_in (by decide), badAt_in (by decide), badAt_in (by decide), badAt_in (by decide), badAt_in (by decide)]
    simp only [bnd1, bnd2, bnd5, bnd6, bnd8, bnd9, bnd10, bnd11, bnd12, bnd13, M.at, M.fine, O.fine, zeroO, O.mk.injEq, makerOf]
    by_cases c0 : c = 0 <;> by_cases k0 : ok = 0 <;> by_cases k1 : ok = 1 <;> simp [c0, k0, k1] <;> omega
  · rw [badAt_in (by decide), badAt_in (by decide), badAt_out (by decide), badAt_out (by decide), badAt_out (by decide), badAt_in (by decide), badAt_out (by decide), badAt_out (by decide), badAt_out (by decide), badAt_out (by decide), badAt_out (by decide), badAt_out (by decide), badAt_out (by decide)]
    simp only [bnd1, bnd2, bnd6, M.at, M.fine, zeroO, O.mk.injEq]
    omega
  · rw [badAt_in (by decide), badAt_in (by decide), badAt_out (by decide), badAt_out (by decide), badAt_out (by decide), badAt_out (by decide), badAt_out (by decide), badAt_out (by decide), badAt_out (by decide), badAt_out (by decide), badAt_out (by decide), badAt_out (by decide), badAt_out (by decide)]
    simp only [bnd1, bnd2, M.at, M.fine, zeroO, O.mk.injEq]
    omega
  · rw [badAt_in (by decide), badAt_in (by decide), badAt_out (by decide), badAt_out (by decide), badAt_in (by decide), badAt_in (by decide), badAt_in (by decide), badAt_out (by decide), badAt_in (by decide), badAt_in (by decide), badAt_in (by decide), badAt_in (by decide), badAt_in (by decide)]
    simp only [bnd1, bnd2, bnd5, bnd6, bnd7, bnd9, bnd10, bnd11, bnd12, bnd13, M.at, M.fine, O.fine, zeroO, O.mk.injEq, makerOf]
    by_cases k0 : ok = 0 <;> by_cases k1 : ok = 1 <;> simp [k0, k1] <;> omega
  · rw [badAt_in (by decide), badAt_in (by decide), badAt_out (by decide), badAt_out (by decide), badAt_out (by decide), badAt_in (by decide), badAt_out (by decide), badAt_out (by decide), badAt_out (by decide), badAt_out (by decide), badAt_out (by decide), badAt_out (by decide), badAt_out (by decide)]
    simp only [bnd1, bnd2, bnd6, M.at, M.fine, zeroO, O.mk.injEq]
    omega

theorem fine_range {m : M} (h : m.fine) (k : Nat) (hk : m.k = k) : ∀ f ∈ shapeN k, 1 ≤ f ∧ f < 14 ∧ 0 ≤ m.at f ∧ m.at f ≤ 65535 := by
  obtain ⟨mk, e, c, ha, fi, nu, ac, re, ta, ⟨ok, op, oc, ol, os⟩⟩ := m
  dsimp only at hk
  subst hk
  simp only [M.fine, O.fine] at h
  have hc : k = 1 ∨ k = 2 ∨ k = 3 ∨ k = 4 ∨ k = 5 ∨ k = 6 := by omega
  rcases hc with rfl | rfl | rfl | rfl | rfl | rfl
  all_goals
    intro f hf
    simp only [shapeN, List.mem_cons, List.not_mem_nil, or_false] at hf
    first
    | (rcases hf with rfl | rfl | rfl | rfl | rfl | rfl | rfl | rfl | rfl | rfl <;> simp only [M.at] <;> omega)
    | (rcases hf with rfl | rfl | rfl | rfl <;> simp only [M.at] <;> omega)
    | (rcases hf with rfl | rfl | rfl <;> simp only [M.at] <;> omega)
    | (rcases hf with rfl | rfl <;> simp only [M.at] <;> omega)

/-- One number set. -/
def M.set (m : M) (f : Nat) (v : Int) : M := if f = 3 then { m with ha := v } else if f = 4 then { m with fi := v } else if f = 5 then { m with nu := v } else if f = 6 then { m with ac := v } else if f = 7 then { m with re := v } else { m with ta := v }
theorem bad_low (l : List Nat) (v v' : Nat → Int) (a b : Int) (g : Nat) (h1 : 1 ≤ g) (h8 : g ≤ 8) (h : v g = v' g) : badAt l v a g = badAt l v' b g := by
  have hc : g = 1 ∨ g = 2 ∨ g = 3 ∨ g = 4 ∨ g = 5 ∨ g = 6 ∨ g = 7 ∨ g = 8 := by omega
  have hb : boundsOf g v a = boundsOf g v' b := by rcases hc with rfl | rfl | rfl | rfl | rfl | rfl | rfl | rfl <;> rfl
  unfold badAt mayB
  rw [h, hb]
theorem bad_far (l : List Nat) (v : Nat → Int) (a : Int) (g : Nat) (h1 : 3 ≤ g) (h8 : g ≤ 8) (h : v g < 0 ∨ 4096 < v g) : badAt l v a g = true := by
  have hc : g = 3 ∨ g = 4 ∨ g = 5 ∨ g = 6 ∨ g = 7 ∨ g = 8 := by omega
  unfold badAt
  split
  · rw [Bool.not_eq_true', ← Bool.not_eq_true, may_nat]
    rcases hc with rfl | rfl | rfl | rfl | rfl | rfl <;> simp only [bnd3, bnd4, bnd5, bnd6, bnd7, bnd8] <;> omega
  · simp; omega
theorem set_bad {m : M} (k : Nat) (h : Good k m) (f : Nat) (h3 : 3 ≤ f) (h8 : f ≤ 8) (v : Int) (hv : v < 0 ∨ 4096 < v) :
    (∀ g, 1 ≤ g → g < f → badAt (shapeN k) (m.set f v).at (makerOf (m.set f v)) g = false) ∧ badAt (shapeN k) (m.set f v).at (makerOf (m.set f v)) f = true ∧ (m.set f v).k = m.k ∧ (m.set f v).op = m.op := by
  have hc : f = 3 ∨ f = 4 ∨ f = 5 ∨ f = 6 ∨ f = 7 ∨ f = 8 := by omega
  refine ⟨fun g h1 hg => ?_, bad_far _ _ _ _ h3 h8 ?_, ?_⟩
  · rw [bad_low _ _ m.at _ (makerOf m) g h1 (by omega), h g h1 (by omega)]
    have hd : g = 1 ∨ g = 2 ∨ g = 3 ∨ g = 4 ∨ g = 5 ∨ g = 6 ∨ g = 7 := by omega
    rcases hc with rfl | rfl | rfl | rfl | rfl | rfl <;> rcases hd with rfl | rfl | rfl | rfl | rfl | rfl | rfl <;> first | rfl | omega
  · rcases hc with rfl | rfl | rfl | rfl | rfl | rfl <;> exact hv
  · rcases hc with rfl | rfl | rfl | rfl | rfl | rfl <;> exact ⟨rfl, rfl⟩

/-- wire.shapes holds the shapes. -/
def Shapes (w : World) : Prop := ∀ k, k < 7 → ∃ ao n cap, w.cell? ⟨0, k, none⟩ = some (.slice ao n cap) ∧ (shapeN k).length = n ∧ RdN w ao (shapeN k)
theorem Shapes.step {w w' : World} (h : Shapes w) (hb : Below w.heap.size w w') : Shapes w' := by
  intro k hk
  obtain ⟨ao, n, cap, h1, h2, h3⟩ := h k hk
  exact ⟨ao, n, cap, (hb.cell (p := ⟨0, k, none⟩) (block_lt h1)).trans h1, h2, h3.keep hb⟩
end Go.Proofs.YtoophonmonojcaaDoor

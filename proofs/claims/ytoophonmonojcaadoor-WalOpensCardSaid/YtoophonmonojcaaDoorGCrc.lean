/- Several texts laid as one, in this order: Crc, CrcInj, RefCrc. -/
import Derived.WalkKit
/- The sum of package octet as a function on numbers: a register of 32 bits, two steps of four bits a byte; no program in sight. -/
namespace Go.Proofs.YtoophonmonojcaaDoor
open Go

def table : List Nat := [0, 498536548, 997073096, 651767980, 1994146192, 1802195444, 1303535960, 1342533948, 3988292384, 4027552580, 3604390888, 3412177804, 2607071920, 2262029012, 2685067896, 3183342108]
/-- One step of four bits. -/
def q4 (r : Nat) : Nat := (r / 16) ^^^ table.getD (r % 16) 0
/-- One byte. -/
def crcStep (r : Nat) (c : UInt8) : Nat := q4 (q4 (r ^^^ c.toNat))
/-- The register behind the bytes. -/
def crcFrom (r : Nat) (l : List UInt8) : Nat := l.foldl crcStep r
/-- octet.Sum. -/
def sum (l : List UInt8) : Nat := 4294967295 - crcFrom 4294967295 l

theorem table_lt (i : Nat) : table.getD i 0 < 4294967296 := by
  rcases Nat.lt_or_ge i 16 with h | h
  · have : ∀ j : Fin 16, table.getD j.val 0 < 4294967296 := by decide
    exact this ⟨i, h⟩
  · rw [List.getD_eq_getElem?_getD, List.getElem?_eq_none (by simpa [table] using h)]; decide
theorem q4_lt {r : Nat} (h : r < 4294967296) : q4 r < 4294967296 := by
  unfold q4
  exact Nat.xor_lt_two_pow (n := 32) (by omega) (table_lt _)
theorem xor_lt32 {a b : Nat} (h : a < 4294967296) (h' : b < 4294967296) : a ^^^ b < 4294967296 := Nat.xor_lt_two_pow (n := 32) h h'
theorem byte_lt32 (c : UInt8) : c.toNat < 4294967296 := Nat.lt_trans c.toNat_lt (by decide)
theorem crcStep_lt {r : Nat} (h : r < 4294967296) (c : UInt8) : crcStep r c < 4294967296 :=
  q4_lt (q4_lt (xor_lt32 h (byte_lt32 c)))
theorem crcFrom_lt (l : List UInt8) : ∀ {r : Nat}, r < 4294967296 → crcFrom r l < 4294967296 := by
  induction l with
  | nil => intro r h; exact h
  | cons c t ih => intro r h; exact ih (crcStep_lt h c)
theorem sum_lt (l : List UInt8) : sum l < 4294967296 := by unfold sum; omega
theorem crcFrom_snoc (r : Nat) (l : List UInt8) (c : UInt8) : crcFrom r (l ++ [c]) = crcStep (crcFrom r l) c := by simp [crcFrom, List.foldl_append]
theorem crcFrom_append (r : Nat) (l m : List UInt8) : crcFrom r (l ++ m) = crcFrom (crcFrom r l) m := by simp [crcFrom, List.foldl_append]

theorem take_snoc (l : List UInt8) (k : Nat) (h : k < l.length) : l.take (k + 1) = l.take k ++ [l.getD k 0] := by
  rw [List.take_succ_eq_append_getElem h, List.getD_eq_getElem?_getD, List.getElem?_eq_getElem h]; rfl

/-! ### The same in the walk's form -/
def tabv (z : Int) : Int := ((table.getD (bits .and .u32 z 15).toNat 0 : Nat) : Int)
theorem and15 (z : Int) : bits .and .u32 z 15 = ((BitVec.ofInt 32 z).toNat % 16 : Nat) := by
  have h : (BitVec.ofInt 32 (15 : Int)).toNat = 2 ^ 4 - 1 := by decide
  have h2 : ((BitVec.ofInt 32 z).toNat &&& (2 ^ 4 - 1)) = (BitVec.ofInt 32 z).toNat % 16 := by rw [Nat.and_two_pow_sub_one_eq_mod]
  show IntKind.u32.wrap ((BitVec.ofInt 32 z &&& BitVec.ofInt 32 15).toNat : Int) = _
  rw [BitVec.toNat_and, h, h2, IntKind.wrap_u32]
  omega
theorem and15_nonneg (z : Int) : 0 ≤ bits .and .u32 z 15 := by rw [and15]; omega
theorem and15_lt (z : Int) : bits .and .u32 z 15 < 16 := by rw [and15]; omega
theorem tabv_nat (r : Nat) (h : r < 4294967296) : tabv (r : Int) = ((table.getD (r % 16) 0 : Nat) : Int) := by
  unfold tabv
  rw [and15, BitVec.ofInt_natCast, BitVec.toNat_ofNat, Nat.mod_eq_of_lt (a := r) (b := 2 ^ 32) (by omega)]
  rfl
theorem xor_nat {a b : Nat} (h : a < 4294967296) (h' : b < 4294967296) : bits .xor .u32 (a : Int) (b : Int) = ((a ^^^ b : Nat) : Int) := u32_xor_nat a b h h'
theorem xor_max {r : Nat} (h : r < 4294967296) : bits .xor .u32 IntKind.u32.max (r : Int) = ((4294967295 - r : Nat) : Int) := by
  have e : BitVec.ofInt 32 IntKind.u32.max = BitVec.allOnes 32 := by decide
  show IntKind.u32.wrap ((BitVec.ofInt 32 IntKind.u32.max ^^^ BitVec.ofInt 32 (r : Int)).toNat : Int) = _
  rw [e, BitVec.allOnes_xor, BitVec.toNat_not, BitVec.ofInt_natCast, BitVec.toNat_ofNat, Nat.mod_eq_of_lt (a := r) (b := 2 ^ 32) (by omega), IntKind.wrap_u32]
  omega
/-- The walk's round is one byte's step. -/
theorem round_step (r : Nat) (h : r < 4294967296) (c : UInt8) :
    bits .xor .u32 (bits .xor .u32 (bits .xor .u32 (r : Int) ((c.toNat : Int) % 4294967296) / 16) (tabv (bits .xor .u32 (r : Int) ((c.toNat : Int) % 4294967296))) / 16)
      (tabv (bits .xor .u32 (bits .xor .u32 (r : Int) ((c.toNat : Int) % 4294967296) / 16) (tabv (bits .xor .u32 (r : Int) ((c.toNat : Int) % 4294967296))))) = ((crcStep r c : Nat) : Int) := by
  have hc := byte_lt32 c
  rw [show (c.toNat : Int) % 4294967296 = (c.toNat : Int) by omega, xor_nat h hc]
  have hx := xor_lt32 h hc
  have one : ∀ x : Nat, x < 4294967296 → bits .xor .u32 ((x : Int) / 16) (tabv (x : Int)) = ((q4 x : Nat) : Int) := by
    intro x hx
    rw [tabv_nat x hx, show (x : Int) / 16 = ((x / 16 : Nat) : Int) by omega, xor_nat (by omega) (table_lt _)]
    rfl
  rw [one _ hx, one _ (q4_lt hx)]
  rfl
end Go.Proofs.YtoophonmonojcaaDoor

/- Plain laws of the sum: one byte changed changes it. -/
namespace Go.Proofs.YtoophonmonojcaaDoor

theorem top_table (i j : Nat) (hi : i < 16) (hj : j < 16) (h : table.getD i 0 >>> 28 = table.getD j 0 >>> 28) : i = j := by
  have key : ∀ a b : Fin 16, table.getD a.val 0 >>> 28 = table.getD b.val 0 >>> 28 → a = b := by decide
  have := key ⟨i, hi⟩ ⟨j, hj⟩ h
  exact congrArg Fin.val this
theorem q4_top {r : Nat} (h : r < 4294967296) : q4 r >>> 28 = table.getD (r % 16) 0 >>> 28 := by
  unfold q4
  rw [Nat.shiftRight_xor_distrib]
  have : (r / 16) >>> 28 = 0 := by rw [Nat.shiftRight_eq_div_pow]; exact Nat.div_eq_of_lt (by omega)
  rw [this, Nat.zero_xor]
theorem q4_inj {a b : Nat} (ha : a < 4294967296) (hb : b < 4294967296) (h : q4 a = q4 b) : a = b := by
  have h1 : a % 16 = b % 16 := top_table _ _ (Nat.mod_lt _ (by decide)) (Nat.mod_lt _ (by decide)) (by rw [← q4_top ha, ← q4_top hb, h])
  unfold q4 at h
  rw [h1] at h
  have h2 : a / 16 = b / 16 := by
    have := congrArg (· ^^^ table.getD (b % 16) 0) h
    simpa [Nat.xor_assoc] using this
  omega
theorem xor_inj_right {a b c : Nat} (h : a ^^^ b = a ^^^ c) : b = c := by
  have := congrArg (a ^^^ ·) h
  simpa [← Nat.xor_assoc] using this
theorem xor_inj_left {a b c : Nat} (h : b ^^^ a = c ^^^ a) : b = c := by
  have := congrArg (· ^^^ a) h
  simpa [Nat.xor_assoc] using this
theorem crcStep_inj_reg {a b : Nat} (c : UInt8) (ha : a < 4294967296) (hb : b < 4294967296) (h : crcStep a c = crcStep b c) : a = b := by
  unfold crcStep at h
  have h1 := xor_lt32 ha (byte_lt32 c)
  have h2 := xor_lt32 hb (byte_lt32 c)
  exact xor_inj_left (q4_inj h1 h2 (q4_inj (q4_lt h1) (q4_lt h2) h))
theorem crcStep_inj_byte {r : Nat} {c d : UInt8} (hr : r < 4294967296) (h : crcStep r c = crcStep r d) : c = d := by
  unfold crcStep at h
  have h1 := xor_lt32 hr (byte_lt32 c)
  have h2 := xor_lt32 hr (byte_lt32 d)
  exact UInt8.toNat_inj.1 (xor_inj_right (q4_inj h1 h2 (q4_inj (q4_lt h1) (q4_lt h2) h)))
theorem crcFrom_inj (l : List UInt8) : ∀ {a b : Nat}, a < 4294967296 → b < 4294967296 → crcFrom a l = crcFrom b l → a = b := by
  induction l with
  | nil => intro a b _ _ h; exact h
  | cons c t ih => intro a b ha hb h; exact crcStep_inj_reg c ha hb (ih (crcStep_lt ha c) (crcStep_lt hb c) h)
/-- One byte changed: another sum. -/
theorem sum_one (l r : List UInt8) (c d : UInt8) (h : c ≠ d) : sum (l ++ c :: r) ≠ sum (l ++ d :: r) := by
  intro e
  unfold sum at e
  have h1 := crcFrom_lt (l ++ c :: r) (r := 4294967295) (by decide)
  have h2 := crcFrom_lt (l ++ d :: r) (r := 4294967295) (by decide)
  have e1 : crcFrom 4294967295 (l ++ c :: r) = crcFrom 4294967295 (l ++ d :: r) := by omega
  rw [crcFrom_append, crcFrom_append] at e1
  have hl := crcFrom_lt l (r := 4294967295) (by decide)
  have e2 := crcFrom_inj r (crcStep_lt hl c) (crcStep_lt hl d) e1
  exact h (crcStep_inj_byte hl e2)
end Go.Proofs.YtoophonmonojcaaDoor

/- The long division of jotterref01.Sum as plain Lean: its remainder gives the program's sum. -/
namespace Go.Proofs.YtoophonmonojcaaDoor
open Go

def polyL : List Nat := [1,0,0,0,0,0,1,0,0,1,1,0,0,0,0,0,1,0,0,0,1,1,1,0,1,1,0,1,1,0,1,1,1]
def polyP : Nat := 3988292384
/-- One bit's step of the register. -/
def step0 (r : Nat) : Nat := (r / 2) ^^^ (if r % 2 = 1 then polyP else 0)
/-- The message's bits, each byte's lowest first; zeros behind it. -/
def mbit (l : List UInt8) (j : Nat) : Nat := (l.getD (j / 8) 0).toNat / 2 ^ (j % 8) % 2
/-- The register behind the first i bits. -/
def reg (l : List UInt8) : Nat → Nat
  | 0 => 4294967295
  | i + 1 => step0 (reg l i ^^^ mbit l i)

theorem xor_two (a b : Nat) : (a ^^^ b) % 2 = (a + b) % 2 := by
  have h := @Nat.xor_mod_two_eq_one a b
  rcases Nat.mod_two_eq_zero_or_one (a ^^^ b) with h0 | h0 <;> rcases Nat.mod_two_eq_zero_or_one a with ha | ha <;> rcases Nat.mod_two_eq_zero_or_one b with hb | hb <;> simp [h0, ha, hb] at h <;> omega
theorem mbit_le (l : List UInt8) (j : Nat) : mbit l j ≤ 1 := by unfold mbit; omega
theorem step0_two (y : Nat) : step0 (2 * y) = y := by
  unfold step0
  rw [if_neg (by omega), Nat.xor_zero]
  omega
theorem step0_xor (a b : Nat) : step0 (a ^^^ b) = step0 a ^^^ step0 b := by
  unfold step0
  rw [Nat.xor_div_two, xor_two]
  rcases Nat.mod_two_eq_zero_or_one a with ha | ha <;> rcases Nat.mod_two_eq_zero_or_one b with hb | hb
  · rw [if_neg (by omega), if_neg (by omega), if_neg (by omega)]; simp
  · rw [if_pos (by omega), if_neg (by omega), if_pos (by omega)]; simp [Nat.xor_assoc]
  · rw [if_pos (by omega), if_pos (by omega), if_neg (by omega), Nat.xor_zero]; ac_rfl
  · rw [if_neg (by omega), if_pos (by omega), if_pos (by omega)]
    have : a / 2 ^^^ polyP ^^^ (b / 2 ^^^ polyP) = a / 2 ^^^ b / 2 ^^^ (polyP ^^^ polyP) := by ac_rfl
    rw [this, Nat.xor_self]
theorem xor_low (x : Nat) : x ^^^ x % 2 = 2 * (x / 2) := by
  apply Nat.eq_of_testBit_eq
  intro i
  have e1 : x % 2 = x % 2 ^ 1 := by simp
  have e2 : 2 * (x / 2) = 2 ^ 1 * (x / 2 ^ 1) := by simp
  rw [e1, e2, Nat.testBit_xor, Nat.testBit_mod_two_pow, Nat.testBit_two_pow_mul, Nat.testBit_div_two_pow]
  rcases Nat.lt_or_ge i 1 with h | h
  · obtain rfl : i = 0 := by omega
    simp
  · rw [show i - 1 + 1 = i by omega]
    simp [h, show ¬ i < 1 by omega]
def stepN : Nat → Nat → Nat
  | 0, r => r
  | t + 1, r => step0 (stepN t r)
theorem stepN_xor (t a b : Nat) : stepN t (a ^^^ b) = stepN t a ^^^ stepN t b := by
  induction t with
  | zero => rfl
  | succ t ih => simp only [stepN, ih, step0_xor]
theorem stepN_add (s t r : Nat) : stepN (s + t) r = stepN s (stepN t r) := by
  induction s with
  | zero => simp [stepN]
  | succ s ih => rw [show s + 1 + t = (s + t) + 1 by omega]; simp only [stepN, ih]
theorem split16 (r : Nat) : r = (2 * (2 * (2 * (2 * (r / 16))))) ^^^ (r % 16) := by
  apply Nat.eq_of_testBit_eq
  intro i
  have e1 : r % 16 = r % 2 ^ 4 := by simp
  have e2 : 2 * (2 * (2 * (2 * (r / 16)))) = 2 ^ 4 * (r / 2 ^ 4) := by omega
  rw [e1, e2, Nat.testBit_xor, Nat.testBit_mod_two_pow, Nat.testBit_two_pow_mul, Nat.testBit_div_two_pow]
  rcases Nat.lt_or_ge i 4 with h | h
  · simp [h, show ¬ 4 ≤ i by omega]
  · rw [show i - 4 + 4 = i by omega]
    simp [h, show ¬ i < 4 by omega]
theorem low16 : ∀ i < 16, stepN 4 i = table.getD i 0 := by decide
theorem q4_steps (r : Nat) : q4 r = stepN 4 r := by
  have h : stepN 4 r = stepN 4 ((2 * (2 * (2 * (2 * (r / 16))))) ^^^ (r % 16)) := congrArg _ (split16 r)
  have h4 : stepN 4 (2 * (2 * (2 * (2 * (r / 16))))) = r / 16 := by simp only [stepN, step0_two]
  rw [h, stepN_xor, h4, low16 (r % 16) (by omega)]
  rfl
theorem crcStep_steps (r : Nat) (c : UInt8) : crcStep r c = stepN 8 (r ^^^ c.toNat) := by
  unfold crcStep
  rw [q4_steps, q4_steps, ← stepN_add]
theorem reg_byte (l : List UInt8) (k t : Nat) (ht : t ≤ 8) : reg l (8 * k + t) = stepN t (reg l (8 * k) ^^^ (l.getD k 0).toNat) ^^^ (l.getD k 0).toNat / 2 ^ t := by
  induction t with
  | zero =>
    simp only [stepN, Nat.pow_zero, Nat.div_one, Nat.add_zero]
    rw [Nat.xor_assoc, Nat.xor_self, Nat.xor_zero]
  | succ t ih =>
    have hb : mbit l (8 * k + t) = (l.getD k 0).toNat / 2 ^ t % 2 := by
      unfold mbit
      rw [show (8 * k + t) / 8 = k by omega, show (8 * k + t) % 8 = t by omega]
    rw [show 8 * k + (t + 1) = (8 * k + t) + 1 by omega, reg, ih (by omega), hb, Nat.xor_assoc, xor_low, step0_xor, step0_two, Nat.div_div_eq_div_mul, ← Nat.pow_succ]
    rfl
theorem reg_crc (l : List UInt8) (k : Nat) (hk : k ≤ l.length) : reg l (8 * k) = crcFrom 4294967295 (l.take k) := by
  induction k with
  | zero => simp [reg, crcFrom]
  | succ k ih =>
    rw [take_snoc l k hk, crcFrom_snoc, ← ih (by omega), crcStep_steps, show 8 * (k + 1) = 8 * k + 8 by omega, reg_byte l k 8 (by omega)]
    have := (l.getD k 0).toNat_lt
    rw [show (l.getD k 0).toNat / 2 ^ 8 = 0 by omega, Nat.xor_zero]
theorem reg_sum (l : List UInt8) : reg l (8 * l.length) = crcFrom 4294967295 l := by rw [reg_crc l _ (Nat.le_refl _), List.take_length]
theorem step0_lt {r : Nat} (h : r < 4294967296) : step0 r < 4294967296 := by
  unfold step0
  refine xor_lt32 (by omega) ?_
  split <;> decide
theorem reg_lt (l : List UInt8) (i : Nat) : reg l i < 4294967296 := by
  induction i with
  | zero => show 4294967295 < 4294967296; decide
  | succ i ih => exact step0_lt (xor_lt32 ih (by have := mbit_le l i; omega))

/-- What stands at place j when the first i bits are divided off. -/
def valAt (l : List UInt8) (i j : Nat) : Nat := if j < i then 0 else if j < i + 32 then (reg l i / 2 ^ (j - i) + mbit l j) % 2 else mbit l j
theorem valAt_le (l : List UInt8) (i j : Nat) : valAt l i j ≤ 1 := by
  unfold valAt
  have := mbit_le l j
  split
  · omega
  · split <;> omega
theorem poly_bit (t : Nat) (h : t < 32) : polyP / 2 ^ t % 2 = polyL.getD (t + 1) 0 := by
  have : ∀ t < 32, polyP / 2 ^ t % 2 = polyL.getD (t + 1) 0 := by decide
  exact this t h
theorem poly_le (t : Nat) : polyL.getD t 0 ≤ 1 := by
  rcases Nat.lt_or_ge t 33 with h | h
  · have : ∀ t < 33, polyL.getD t 0 ≤ 1 := by decide
    exact this t h
  · rw [List.getD_eq_getElem?_getD, List.getElem?_eq_none (by simpa [polyL] using h)]; simp
theorem xor_bit (a b t : Nat) : (a ^^^ b) / 2 ^ t % 2 = (a / 2 ^ t + b / 2 ^ t) % 2 := by
  have := Nat.xor_div_two_pow (a := a) (b := b) (n := t)
  rw [this, xor_two]
theorem valAt_head (l : List UInt8) (i : Nat) : valAt l i i = (reg l i + mbit l i) % 2 := by
  unfold valAt
  rw [if_neg (by omega), if_pos (by omega), Nat.sub_self]
  simp
/-- One step of the division. -/
theorem div_step (l : List UInt8) (i j : Nat) : valAt l (i + 1) j = if i ≤ j ∧ j < i + 33 then (valAt l i j + valAt l i i * polyL.getD (j - i) 0) % 2 else valAt l i j := by
  have hq := valAt_head l i
  have hmb := mbit_le l i
  have hmj := mbit_le l j
  have hreg : reg l (i + 1) = reg l i / 2 ^^^ (if valAt l i i = 1 then polyP else 0) := by
    rw [reg, step0, Nat.xor_div_two, show mbit l i / 2 = 0 by omega, Nat.xor_zero, xor_two, hq]
  rcases Nat.lt_or_ge j i with h1 | h1
  · rw [if_neg (by omega)]
    unfold valAt
    rw [if_pos (by omega), if_pos (by omega)]
  rcases Nat.lt_or_ge i j with h2 | h2
  · rcases Nat.lt_or_ge j (i + 33) with h3 | h3
    · obtain ⟨t, rfl⟩ : ∃ t, j = i + 1 + t := ⟨j - i - 1, by omega⟩
      rw [if_pos (by omega), show i + 1 + t - i = t + 1 by omega, ← poly_bit t (by omega)]
      have hv : valAt l (i + 1) (i + 1 + t) = (reg l (i + 1) / 2 ^ t + mbit l (i + 1 + t)) % 2 := by
        unfold valAt
        rw [if_neg (by omega), if_pos (by omega), show i + 1 + t - (i + 1) = t by omega]
      have hx := xor_bit (reg l i / 2) (if valAt l i i = 1 then polyP else 0) t
      rw [← hreg, Nat.div_div_eq_div_mul, Nat.mul_comm 2, ← Nat.pow_succ, Nat.succ_eq_add_one] at hx
      have hold : valAt l i (i + 1 + t) = (reg l i / 2 ^ (t + 1) + mbit l (i + 1 + t)) % 2 := by
        unfold valAt
        rw [if_neg (by omega)]
        split
        · rw [show i + 1 + t - i = t + 1 by omega]
        · have : t = 31 := by omega
          subst this
          have := reg_lt l i
          rw [show reg l i / 2 ^ (31 + 1) = 0 by omega]
          omega
      have hle := valAt_le l i i
      rcases Nat.eq_zero_or_pos (valAt l i i) with h0 | h0
      · rw [h0] at hx ⊢
        rw [if_neg (by omega)] at hx
        simp only [Nat.zero_div, Nat.add_zero] at hx
        omega
      · obtain h1' : valAt l i i = 1 := by omega
        rw [h1'] at hx ⊢
        rw [if_pos rfl] at hx
        omega
    · rw [if_neg (by omega)]
      unfold valAt
      rw [if_neg (by omega), if_neg (by omega), if_neg (by omega), if_neg (by omega)]
  · obtain rfl : j = i := by omega
    rw [if_pos (by omega), Nat.sub_self]
    have hle := valAt_le l j j
    have : valAt l (j + 1) j = 0 := by unfold valAt; rw [if_pos (by omega)]
    rw [this, show polyL.getD 0 0 = 1 from rfl]
    omega

/-- A row of numbers given by their places. -/
def rowF (N : Nat) (f : Nat → Nat) : List UInt8 := (List.range N).map fun j => UInt8.ofNat (f j)
theorem rowF_len (N : Nat) (f : Nat → Nat) : (rowF N f).length = N := by simp [rowF]
theorem rowF_getD (N : Nat) (f : Nat → Nat) (j : Nat) (h : j < N) : (rowF N f).getD j 0 = UInt8.ofNat (f j) := by
  simp [rowF, List.getD_eq_getElem?_getD, h]
theorem rowF_at (N : Nat) (f : Nat → Nat) (j : Nat) (h : j < N) (hf : f j ≤ 255) : ((rowF N f).getD j 0).toNat = f j := by
  rw [rowF_getD N f j h, UInt8.toNat_ofNat']
  omega
theorem rowF_congr {N : Nat} {f g : Nat → Nat} (h : ∀ j, j < N → f j = g j) : rowF N f = rowF N g := by
  unfold rowF
  apply List.map_congr_left
  intro j hj
  rw [h j (List.mem_range.1 hj)]
theorem rowF_set (N : Nat) (f : Nat → Nat) (j v : Nat) : (rowF N f).set j (UInt8.ofNat v) = rowF N fun x => if x = j then v else f x := by
  apply List.ext_getElem?
  intro i
  unfold rowF
  rw [List.getElem?_set]
  simp only [List.length_map, List.length_range, List.getElem?_map]
  rcases Nat.lt_or_ge i N with h | h
  · by_cases e : j = i
    · subst e; simp [h]
    · rw [if_neg e]; simp [h, Ne.symm e]
  · have e0 : (List.range N)[i]? = none := List.getElem?_eq_none (by simpa using h)
    by_cases e : j = i
    · subst e; simp [e0]; omega
    · rw [if_neg e, e0]; rfl
/-- The bits as they are laid: c of them. -/
def bitF (l : List UInt8) (c j : Nat) : Nat := if j < c then mbit l j else 0
/-- The first i turned. -/
def turnF (l : List UInt8) (i j : Nat) : Nat := if j < i then 1 - mbit l j else mbit l j
theorem turnF_le (l : List UInt8) (i j : Nat) : turnF l i j ≤ 1 := by unfold turnF; have := mbit_le l j; split <;> omega
theorem bitF_le (l : List UInt8) (i j : Nat) : bitF l i j ≤ 1 := by unfold bitF; have := mbit_le l j; split <;> omega
theorem mbit_far (l : List UInt8) (j : Nat) (h : 8 * l.length ≤ j) : mbit l j = 0 := by
  unfold mbit
  rw [List.getD_eq_getElem?_getD, List.getElem?_eq_none (by omega)]
  simp
theorem turnF_full (l : List UInt8) (j : Nat) : turnF l 32 j = valAt l 0 j := by
  unfold turnF valAt
  rw [if_neg (by omega : ¬ j < 0)]
  have := mbit_le l j
  split
  · rename_i h
    have e : reg l 0 / 2 ^ (j - 0) % 2 = 1 := by
      have : ∀ t < 32, 4294967295 / 2 ^ t % 2 = 1 := by decide
      exact this j h
    omega
  · rfl
/-- The first k places of the divisor laid over. -/
def overF (l : List UInt8) (i k j : Nat) : Nat := if i ≤ j ∧ j < i + k then (valAt l i j + polyL.getD (j - i) 0) % 2 else valAt l i j
theorem overF_le (l : List UInt8) (i k j : Nat) : overF l i k j ≤ 1 := by unfold overF; have := valAt_le l i j; split <;> omega
theorem overF_zero (l : List UInt8) (i j : Nat) : overF l i 0 j = valAt l i j := by unfold overF; rw [if_neg (by omega)]
theorem overF_full (l : List UInt8) (i j : Nat) (h : valAt l i i = 1) : overF l i 33 j = valAt l (i + 1) j := by
  rw [div_step, h, Nat.one_mul]; rfl
theorem val_same (l : List UInt8) (i j : Nat) (h : valAt l i i = 0) : valAt l (i + 1) j = valAt l i j := by
  rw [div_step, h, Nat.zero_mul, Nat.add_zero]
  have := valAt_le l i j
  split <;> omega
theorem overF_on (l : List UInt8) (i k j : Nat) (h : polyL.getD k 0 = 1) : overF l i (k + 1) j = if j = i + k then 1 - overF l i k (i + k) else overF l i k j := by
  unfold overF
  have := valAt_le l i (i + k)
  by_cases e : j = i + k
  · subst e
    rw [if_pos (by omega), if_pos rfl, if_neg (by omega), show i + k - i = k by omega, h]
    omega
  · rw [if_neg e]
    by_cases e2 : i ≤ j ∧ j < i + k
    · rw [if_pos (by omega), if_pos e2]
    · rw [if_neg (by omega), if_neg e2]
theorem overF_off (l : List UInt8) (i k j : Nat) (h : polyL.getD k 0 = 0) : overF l i (k + 1) j = overF l i k j := by
  unfold overF
  have := valAt_le l i j
  by_cases e : j = i + k
  · subst e
    rw [if_pos (by omega), if_neg (by omega), show i + k - i = k by omega, h]
    omega
  · by_cases e2 : i ≤ j ∧ j < i + k
    · rw [if_pos (by omega), if_pos e2]
    · rw [if_neg (by omega), if_neg e2]
theorem bitF_on (l : List UInt8) (c j : Nat) (h : mbit l c = 1) : bitF l (c + 1) j = if j = c then 1 else bitF l c j := by
  unfold bitF
  by_cases e : j = c
  · subst e; rw [if_pos (by omega), if_pos rfl, h]
  · rw [if_neg e]
    by_cases e2 : j < c
    · rw [if_pos (by omega), if_pos e2]
    · rw [if_neg (by omega), if_neg e2]
theorem bitF_off (l : List UInt8) (c j : Nat) (h : mbit l c = 0) : bitF l (c + 1) j = bitF l c j := by
  unfold bitF
  by_cases e : j = c
  · subst e; rw [if_pos (by omega), if_neg (by omega), h]
  · by_cases e2 : j < c
    · rw [if_pos (by omega), if_pos e2]
    · rw [if_neg (by omega), if_neg e2]
theorem turnF_step (l : List UInt8) (i j : Nat) : turnF l (i + 1) j = if j = i then 1 - turnF l i i else turnF l i j := by
  unfold turnF
  by_cases e : j = i
  · subst e; rw [if_pos (by omega), if_pos rfl, if_neg (by omega)]
  · rw [if_neg e]
    by_cases e2 : j < i
    · rw [if_pos (by omega), if_pos e2]
    · rw [if_neg (by omega), if_neg e2]
theorem bitF_full (l : List UInt8) (j : Nat) : bitF l (8 * l.length) j = turnF l 0 j := by
  unfold bitF turnF
  rw [if_neg (by omega : ¬ j < 0)]
  split
  · rfl
  · exact (mbit_far l j (by omega)).symm

/-- The sum of the first k bits that are none. -/
def lowPart (l : List UInt8) (k : Nat) : Nat := 2 ^ k - 1 - reg l (8 * l.length) % 2 ^ k
theorem low_zero (l : List UInt8) : lowPart l 0 = 0 := by simp [lowPart]
theorem low_end (l : List UInt8) : lowPart l 32 = sum l := by
  unfold lowPart sum
  have := reg_lt l (8 * l.length)
  rw [← reg_sum, Nat.mod_eq_of_lt (by omega)]
theorem tail_at (l : List UInt8) (k : Nat) (h : k < 32) : valAt l (8 * l.length) (8 * l.length + k) = reg l (8 * l.length) / 2 ^ k % 2 := by
  unfold valAt
  rw [if_neg (by omega), if_pos (by omega), mbit_far l _ (by omega), show 8 * l.length + k - 8 * l.length = k by omega, Nat.add_zero]
theorem low_step (l : List UInt8) (k : Nat) (h : k < 32) : lowPart l (k + 1) = lowPart l k + (if valAt l (8 * l.length) (8 * l.length + k) = 0 then 2 ^ k else 0) := by
  rw [tail_at l k h]
  unfold lowPart
  rw [Nat.mod_pow_succ]
  have h1 : reg l (8 * l.length) % 2 ^ k < 2 ^ k := Nat.mod_lt _ (Nat.two_pow_pos k)
  rw [Nat.pow_succ]
  generalize reg l (8 * l.length) % 2 ^ k = a at *
  have h2 : reg l (8 * l.length) / 2 ^ k % 2 < 2 := Nat.mod_lt _ (by omega)
  generalize reg l (8 * l.length) / 2 ^ k % 2 = b at *
  generalize 2 ^ k = p at *
  rcases Nat.eq_zero_or_pos b with hb | hb
  · subst hb; rw [if_pos rfl]; omega
  · obtain rfl : b = 1 := by omega
    rw [if_neg (by omega)]; omega
theorem low_lt (l : List UInt8) (k : Nat) (h : k ≤ 32) : lowPart l k < 4294967296 := by
  unfold lowPart
  have : 2 ^ k ≤ 2 ^ 32 := Nat.pow_le_pow_right (by omega) h
  omega
end Go.Proofs.YtoophonmonojcaaDoor

/- The sum of package octet as a function on numbers: a register of 32 bits, two steps of four bits a byte; no program in sight. -/
import Derived.WalkKit
namespace Go.Proofs.YtoophonmonojcaaDoor
open Go

def table : List Nat := [0, 498536548, 997073096, 651767980, 1994146192, 1802195444, 1303535960, 1342533948, 3988292384, 4027552580, 3604390888, 3412177804, 2607071920, 2262029012, 2685067896, 3183342108]
/-- One step of four bits. -/
def q4 (r : Nat) : Nat := (r / 16) ^^^ table.getD (r % 16) 0
/-- One byte. -/
def crcStep (r : Nat) (c : UInt8) : Nat := q4 (q4 (r ^^^ c.toNat))
/-- The register behind the bytes. -/
def crcFrom (r : Nat) (l : List UInt8) : Nat := l.foldl crcStep r
/-- octet.Sum. -/
def sum (l : List UInt8) : Nat := 4294967295 - crcFrom 4294967295 l

theorem table_lt (i : Nat) : table.getD i 0 < 4294967296 := by
  rcases Nat.lt_or_ge i 16 with h | h
  · have : ∀ j : Fin 16, table.getD j.val 0 < 4294967296 := by decide
    exact this ⟨i, h⟩
  · rw [List.getD_eq_getElem?_getD, List.getElem?_eq_none (by simpa [table] using h)]; decide
theorem q4_lt {r : Nat} (h : r < 4294967296) : q4 r < 4294967296 := by
  unfold q4
  exact Nat.xor_lt_two_pow (n := 32) (by omega) (table_lt _)
theorem xor_lt32 {a b : Nat} (h : a < 4294967296) (h' : b < 4294967296) : a ^^^ b < 4294967296 := Nat.xor_lt_two_pow (n := 32) h h'
theorem byte_lt32 (c : UInt8) : c.toNat < 4294967296 := Nat.lt_trans c.toNat_lt (by decide)
theorem crcStep_lt {r : Nat} (h : r < 4294967296) (c : UInt8) : crcStep r c < 4294967296 :=
  q4_lt (q4_lt (xor_lt32 h (byte_lt32 c)))
theorem crcFrom_lt (l : List UInt8) : ∀ {r : Nat}, r < 4294967296 → crcFrom r l < 4294967296 := by
  induction l with
  | nil => intro r h; exact h
  | cons c t ih => intro r h; exact ih (crcStep_lt h c)
theorem sum_lt (l : List UInt8) : sum l < 4294967296 := by unfold sum; omega
theorem crcFrom_snoc (r : Nat) (l : List UInt8) (c : UInt8) : crcFrom r (l ++ [c]) = crcStep (crcFrom r l) c := by simp [crcFrom, List.foldl_append]
theorem crcFrom_append (r : Nat) (l m : List UInt8) : crcFrom r (l ++ m) = crcFrom (crcFrom r l) m := by simp [crcFrom, List.foldl_append]

theorem take_snoc (l : List UInt8) (k : Nat) (h : k < l.length) : l.take (k + 1) = l.take k ++ [l.getD k 0] := by
  rw [List.take_succ_eq_append_getElem h, List.getD_eq_getElem?_getD, List.getElem?_eq_getElem h]; rfl

/-! ### The same in the walk's form -/
def tabv (z : Int) : Int := ((table.getD (bits .and .u32 z 15).toNat 0 : Nat) : Int)
theorem and15 (z : Int) : bits .and .u32 z 15 = ((BitVec.ofInt 32 z).toNat % 16 : Nat) := by
  have h : (BitVec.ofInt 32 (15 : Int)).toNat = 2 ^ 4 - 1 := by decide
  have h2 : ((BitVec.ofInt 32 z).toNat &&& (2 ^ 4 - 1)) = (BitVec.ofInt 32 z).toNat % 16 := by rw [Nat.and_two_pow_sub_one_eq_mod]
  show IntKind.u32.wrap ((BitVec.ofInt 32 z &&& BitVec.ofInt 32 15).toNat : Int) = _
  rw [BitVec.toNat_and, h, h2, IntKind.wrap_u32]
  omega
theorem and15_nonneg (z : Int) : 0 ≤ bits .and .u32 z 15 := by rw [and15]; omega
theorem and15_lt (z : Int) : bits .and .u32 z 15 < 16 := by rw [and15]; omega
theorem tabv_nat (r : Nat) (h : r < 4294967296) : tabv (r : Int) = ((table.getD (r % 16) 0 : Nat) : Int) := by
  unfold tabv
  rw [and15, BitVec.ofInt_natCast, BitVec.toNat_ofNat, Nat.mod_eq_of_lt (a := r) (b := 2 ^ 32) (by omega)]
  rfl
theorem xor_nat {a b : Nat} (h : a < 4294967296) (h' : b < 4294967296) : bits .xor .u32 (a : Int) (b : Int) = ((a ^^^ b : Nat) : Int) := u32_xor_nat a b h h'
theorem xor_max {r : Nat} (h : r < 4294967296) : bits .xor .u32 IntKind.u32.max (r : Int) = ((4294967295 - r : Nat) : Int) := by
  have e : BitVec.ofInt 32 IntKind.u32.max = BitVec.allOnes 32 := by decide
  show IntKind.u32.wrap ((BitVec.ofInt 32 IntKind.u32.max ^^^ BitVec.ofInt 32 (r : Int)).toNat : Int) = _
  rw [e, BitVec.allOnes_xor, BitVec.toNat_not, BitVec.ofInt_natCast, BitVec.toNat_ofNat, Nat.mod_eq_of_lt (a := r) (b := 2 ^ 32) (by omega), IntKind.wrap_u32]
  omega
/-- The walk's round is one byte's step. -/
theorem round_step (r : Nat) (h : r < 4294967296) (c : UInt8) :
    bits .xor .u32 (bits .xor .u32 (bits .xor .u32 (r : Int) ((c.toNat : Int) % 4294967296) / 16) (tabv (bits .xor .u32 (r : Int) ((c.toNat : Int) % 4294967296))) / 16)
      (tabv (bits .xor .u32 (bits .xor .u32 (r : Int) ((c.toNat : Int) % 4294967296) / 16) (tabv (bits .xor .u32 (r : Int) ((c.toNat : Int) % 4294967296))))) = ((crcStep r c : Nat) : Int) := by
  have hc := byte_lt32 c
  rw [show (c.toNat : Int) % 4294967296 = (c.toNat : Int) by omega, xor_nat h hc]
  have hx := xor_lt32 h hc
  have one : ∀ x : Nat, x < 4294967296 → bits .xor .u32 ((x : Int) / 16) (tabv (x : Int)) = ((q4 x : Nat) : Int) := by
    intro x hx
    rw [tabv_nat x hx, show (x : Int) / 16 = ((x / 16 : Nat) : Int) by omega, xor_nat (by omega) (table_lt _)]
    rfl
  rw [one _ hx, one _ (q4_lt hx)]
  rfl
end Go.Proofs.YtoophonmonojcaaDoor

/- Plain laws of the sum: one byte changed changes it. -/
import Derived.Test.YtoophonmonojcaaDoorCrc
namespace Go.Proofs.YtoophonmonojcaaDoor

theorem top_table (i j : Nat) (hi : i < 16) (hj : j < 16) (h : table.getD i 0 >>> 28 = table.getD j 0 >>> 28) : i = j := by
  have key : ∀ a b : Fin 16, table.getD a.val 0 >>> 28 = table.getD b.val 0 >>> 28 → a = b := by decide
  have := key ⟨i, hi⟩ ⟨j, hj⟩ h
  exact congrArg Fin.val this
theorem q4_top {r : Nat} (h : r < 4294967296) : q4 r >>> 28 = table.getD (r % 16) 0 >>> 28 := by
  unfold q4
  rw [Nat.shiftRight_xor_distrib]
  have : (r / 16) >>> 28 = 0 := by rw [Nat.shiftRight_eq_div_pow]; exact Nat.div_eq_of_lt (by omega)
  rw [this, Nat.zero_xor]
theorem q4_inj {a b : Nat} (ha : a < 4294967296) (hb : b < 4294967296) (h : q4 a = q4 b) : a = b := by
  have h1 : a % 16 = b % 16 := top_table _ _ (Nat.mod_lt _ (by decide)) (Nat.mod_lt _ (by decide)) (by rw [← q4_top ha, ← q4_top hb, h])
  unfold q4 at h
  rw [h1] at h
  have h2 : a / 16 = b / 16 := by
    have := congrArg (· ^^^ table.getD (b % 16) 0) h
    simpa [Nat.xor_assoc] using this
  omega
theorem xor_inj_right {a b c : Nat} (h : a ^^^ b = a ^^^ c) : b = c := by
  have := congrArg (a ^^^ ·) h
  simpa [← Nat.xor_assoc] using this
theorem xor_inj_left {a b c : Nat} (h : b ^^^ a = c ^^^ a) : b = c := by
  have := congrArg (· ^^^ a) h
  simpa [Nat.xor_assoc] using this
theorem crcStep_inj_reg {a b : Nat} (c : UInt8) (ha : a < 4294967296) (hb : b < 4294967296) (h : crcStep a c = crcStep b c) : a = b := by
  unfold crcStep at h
  have h1 := xor_lt32 ha (byte_lt32 c)
  have h2 := xor_lt32 hb (byte_lt32 c)
  exact xor_inj_left (q4_inj h1 h2 (q4_inj (q4_lt h1) (q4_lt h2) h))
theorem crcStep_inj_byte {r : Nat} {c d : UInt8} (hr : r < 4294967296) (h : crcStep r c = crcStep r d) : c = d := by
  unfold crcStep at h
  have h1 := xor_lt32 hr (byte_lt32 c)
  have h2 := xor_lt32 hr (byte_lt32 d)
  exact UInt8.toNat_inj.1 (xor_inj_right (q4_inj h1 h2 (q4_inj (q4_lt h1) (q4_lt h2) h)))
theorem crcFrom_inj (l : List UInt8) : ∀ {a b : Nat}, a < 4294967296 → b < 4294967296 → crcFrom a l = crcFrom b l → a = b := by
  induction l with
  | nil => intro a b _ _ h; exact h
  | cons c t ih => intro a b ha hb h; exact crcStep_inj_reg c ha hb (ih (crcStep_lt ha c) (crcStep_lt hb c) h)
/-- One byte changed: another sum. -/
theorem sum_one (l r : List UInt8) (c d : UInt8) (h : c ≠ d) : sum (l ++ c :: r) ≠ sum (l ++ d :: r) := by
  intro e
  unfold sum at e
  have h1 := crcFrom_lt (l ++ c :: r) (r := 4294967295) (by decide)
  have h2 := crcFrom_lt (l ++ d :: r) (r := 4294967295) (by decide)
  have e1 : crcFrom 4294967295 (l ++ c :: r) = crcFrom 4294967295 (l ++ d :: r) := by omega
  rw [crcFrom_append, crcFrom_append] at e1
  have hl := crcFrom_lt l (r := 4294967295) (by decide)
  have e2 := crcFrom_inj r (crcStep_lt hl c) (crcStep_lt hl d) e1
  exact h (crcStep_inj_byte hl e2)
end Go.Proofs.YtoophonmonojcaaDoor

/- Contracts of wire's bounds and may. -/
import Derived.Test.YtoophonmonojcaaDoorWireNamed
namespace Go.Proofs.YtoophonmonojcaaDoor
open Go.RowKit

/-- The least and the greatest value of a field; the fields as a function of their number. -/
def boundsOf (f : Nat) (v : Nat → Int) (maker : Int) : Int × Int :=
  if f = 1 then (1, 255) else if f = 2 then (1, 64) else if f = 3 ∨ f = 8 then (0, 4096) else if f = 4 then (1, 65) else if f = 5 then (1, 4096) else if f = 6 then (0, 4096)
  else if f = 7 then (1, 4096) else if f = 9 then (0, 2) else if f = 10 then (if v 9 = 0 then (0, 0) else (0, 4095)) else if f = 11 then (if v 9 = 1 then (32, 126) else (0, 0))
  else if f = 12 then (if maker ≠ 0 then (maker, maker) else (1, 64)) else (1, 64)

/-- A block holds the fourteen numbers. -/
def Nums (w : World) (g : Nat) (v : Nat → Int) : Prop := ∀ i, i < 14 → w.cell? ⟨g, i, none⟩ = some (.int .i64 (v i))
theorem Nums.keep {w w' : World} {g : Nat} {v : Nat → Int} (h : Nums w g v) (hb : Below w.heap.size w w') : Nums w' g v := fun i hi => (hb.cell (p := ⟨g, i, none⟩) (block_lt (h i hi))).trans (h i hi)

set_option maxRecDepth 100000 in
set_option maxHeartbeats 1000000 in
theorem bounds_any (f : Nat) (g : Nat) (v : Nat → Int) (maker : Int) (w : World) (hf : f < 14) (hf1 : 1 ≤ f) (hv : Nums w g v) :
    Calls Tryd.prog 112 #[.int .i64 f, .pointer (some ⟨g, 0, none⟩), .int .i64 maker] w fun e w' => e = .returned (.tuple #[.int .i64 (boundsOf f v maker).1, .int .i64 (boundsOf f v maker).2]) ∧ w = w' := by
  have h9 := hv 9 (by omega)
  have hc : f = 1 ∨ f = 2 ∨ f = 3 ∨ f = 4 ∨ f = 5 ∨ f = 6 ∨ f = 7 ∨ f = 8 ∨ f = 9 ∨ f = 10 ∨ f = 11 ∨ f = 12 ∨ f = 13 := by omega
  rcases hc with rfl | rfl | rfl | rfl | rfl | rfl | rfl | rfl | rfl | rfl | rfl | rfl | rfl
  case inr.inr.inr.inr.inr.inr.inr.inr.inr.inl =>
    by_cases hk : v 9 = 0
    · have hd : (v 9 == 0) = true := by simp [hk]
      go_enter Tryd.func112, Tryd.ntmps112
      go_wp2
      go_ret2
      exact ⟨by simp [boundsOf, hk], rfl⟩
    · have hd : (v 9 == 0) = false := by simp [hk]
      go_enter Tryd.func112, Tryd.ntmps112
      go_wp2
      go_ret2
      exact ⟨by simp [boundsOf, hk], rfl⟩
  case inr.inr.inr.inr.inr.inr.inr.inr.inr.inr.inl =>
    by_cases hk : v 9 = 1
    · have hd : (v 9 == 1) = true := by simp [hk]
      go_enter Tryd.func112, Tryd.ntmps112
      go_wp2
      go_ret2
      exact ⟨by simp [boundsOf, hk], rfl⟩
    · have hd : (v 9 == 1) = false := by simp [hk]
      go_enter Tryd.func112, Tryd.ntmps112
      go_wp2
      go_ret2
      exact ⟨by simp [boundsOf, hk], rfl⟩
  case inr.inr.inr.inr.inr.inr.inr.inr.inr.inr.inr.inl =>
    by_cases hk : maker = 0
    · have hd : (maker != 0) = false := by simp [hk]
      go_enter Tryd.func112, Tryd.ntmps112
      go_wp2
      go_ret2
      exact ⟨by simp [boundsOf, hk], rfl⟩
    · have hd : (maker != 0) = true := by simp [hk]
      go_enter Tryd.func112, Tryd.ntmps112
      go_wp2
      go_ret2
      exact ⟨by simp [boundsOf, hk], rfl⟩
  all_goals
    go_enter Tryd.func112, Tryd.ntmps112
    go_wp2
    go_ret2
    exact ⟨by simp [boundsOf], rfl⟩

/-- May the field's value stand? -/
def mayB (f : Nat) (v : Nat → Int) (maker : Int) : Bool := decide ((boundsOf f v maker).1 ≤ v f) && decide (v f ≤ (boundsOf f v maker).2)

set_option maxRecDepth 100000 in
set_option maxHeartbeats 1000000 in
theorem may_any (f : Nat) (g : Nat) (v : Nat → Int) (maker : Int) (w : World) (hf : f < 14) (hf1 : 1 ≤ f) (hv : Nums w g v) :
    Calls Tryd.prog 77 #[.int .i64 f, .pointer (some ⟨g, 0, none⟩), .int .i64 maker] w fun e w' => e = .returned (.bool (mayB f v maker)) ∧ w = w' := by
  have hx := hv f hf
  have HV := Lib.hid hv; clear hv
  obtain ⟨lo, hi, hb⟩ : ∃ lo hi, boundsOf f v maker = (lo, hi) := ⟨_, _, rfl⟩
  have hm : mayB f v maker = (decide (lo ≤ v f) && decide (v f ≤ hi)) := by unfold mayB; rw [hb]
  rw [hm]
  have HB := Lib.hid hb; clear hb hm
  go_enter Tryd.func77, Tryd.ntmps77
  go_wp2_with fail
  refine (bounds_any f g v maker _ hf hf1 HV.out).mono ?_
  rintro e w1 ⟨rfl, rfl⟩
  rw [HB.out]
  dsimp only
  go_wp2
  all_goals
    go_ret
    exact ⟨by simp [*] <;> omega, rfl⟩
end Go.Proofs.YtoophonmonojcaaDoor

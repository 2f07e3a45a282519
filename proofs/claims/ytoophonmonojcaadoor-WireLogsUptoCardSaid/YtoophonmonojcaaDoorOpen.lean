/- Contracts of octet.Seal, octet.Open and api.Wrap. -/
import Derived.Test.YtoophonmonojcaaDoorSum
namespace Go.Proofs.YtoophonmonojcaaDoor
open Go.RowKit

theorem wrap_any (at_ code : Int) (w : World) : Calls Tryd.prog 74 #[.int .i64 at_, .int .i64 code] w fun e w' => e = .returned (faultV w.heap.size) ∧ w.alloc (faultObj at_ code) = w' := by
  go_enter Tryd.func74, Tryd.ntmps74
  go_wp2
  go_ret
  exact ⟨rfl, rfl⟩

/-- The same, the world left open. -/
theorem wrap_new (at_ code : Int) (w : World) : Calls Tryd.prog 74 #[.int .i64 at_, .int .i64 code] w fun e w' => ∃ g, e = .returned (faultV g) ∧ NewFault w at_ code g w' :=
  (wrap_any at_ code w).mono fun _ _ ⟨h1, h2⟩ => ⟨_, h1, h2 ▸ newFault_alloc w at_ code⟩

/-- The four bytes of a sum, the lowest first. -/
def le4 (s : Nat) : List UInt8 := [u8 s, u8 (s / 256), u8 (s / 65536), u8 (s / 16777216)]
def sealed (l : List UInt8) : List UInt8 := l ++ le4 (sum l)

set_option maxHeartbeats 400000 in
theorem seal_any (ao : Option Addr) (n cap : Nat) (l : List UInt8) (w : World) (hl : l.length = n) (hr : Rd w ao l) (hn : n ≤ 140737488355000) (ht : Tab w) :
    Calls Tryd.prog 71 #[.slice ao n cap] w (NewRow w (sealed l)) := by
  have HL := Lib.hid hl; have HR := Lib.hid hr; have HT := Lib.hid ht; clear hl hr ht
  have hs := sum_lt l
  have HS : ∃ s, s = sum l := ⟨_, rfl⟩
  obtain ⟨s, hs0⟩ := HS
  rw [← hs0] at hs
  have HS := Lib.hid hs0; clear hs0
  go_enter Tryd.func71, Tryd.ntmps71
  go_wp2_with (go_at_call 106; refine (sum_any _ _ _ l _ HL.out HR.out (by omega) HT.out).mono ?_; rintro e w' ⟨rfl, rfl⟩; rw [← HS.out])
  refine (with_any _ _ _ _ 4 4 l (le4 s) _ HL.out rfl (HR.out.step ((Below.refl _ w).alloc (Nat.le_refl _) _)) (row_new w _ (le4 s) ?_).rd (by omega)).mono ?_
  · simp only [le4, List.map_cons, List.map_nil, bv_u8]
    rw [Int.emod_eq_of_lt (a := (s : Int) / 16777216) (by omega) (by omega)]
  intro e w' hN
  obtain ⟨g, rfl, h2, h3, h4⟩ := hN.after ((Below.refl _ w).alloc (Nat.le_refl _) _)
  go_wp2
  go_ret
  rw [sealed, ← HS.out]
  exact ⟨g, ret_slice (by simp) (by simp), h2, h3, h4⟩

set_option maxHeartbeats 400000 in
/-- Fewer than four bytes. -/
theorem open_short (ao : Option Addr) (n cap : Nat) (w : World) (h : n < 4) :
    Calls Tryd.prog 118 #[.slice ao n cap] w fun e w' => e = .returned (.tuple #[.slice none 0 0, faultV w.heap.size]) ∧ w.alloc (faultObj n 10) = w' := by
  go_enter Tryd.func118, Tryd.ntmps118
  go_wp2_with (go_at_call 74; refine (wrap_any _ _ _).mono ?_; rintro e w' ⟨rfl, rfl⟩)
  go_ret2
  exact ⟨rfl, rfl⟩

theorem le4_getD (s i : Nat) (hi : i < 4) : (((le4 s).getD i 0).toNat : Int) = (s : Int) / 2 ^ (8 * i) % 256 := by
  match i, hi with
  | 0, _ => simp [le4, u8_toNat]
  | 1, _ => simp [le4, u8_toNat]
  | 2, _ => simp [le4, u8_toNat]
  | 3, _ => simp [le4, u8_toNat]
theorem drop_eq_le4 (l : List UInt8) (k s : Nat) (hl : l.length = k + 4) : l.drop k = le4 s ↔ ∀ i, i < 4 → l.getD (k + i) 0 = (le4 s).getD i 0 := by
  constructor
  · intro h i _
    rw [← h]; simp [List.getD_eq_getElem?_getD]
  · intro h
    apply List.ext_getElem?
    intro i
    rcases Nat.lt_or_ge i 4 with hi | hi
    · have h1 := h i hi
      have e1 : i < (l.drop k).length := by simp; omega
      have e2 : i < (le4 s).length := by simp [le4]; omega
      rw [List.getD_eq_getElem?_getD, List.getD_eq_getElem?_getD, ← List.getElem?_drop, List.getElem?_eq_getElem e1, List.getElem?_eq_getElem e2] at h1
      rw [List.getElem?_eq_getElem e1, List.getElem?_eq_getElem e2]
      exact congrArg some h1
    · rw [List.getElem?_eq_none (by simp; omega), List.getElem?_eq_none (by simp [le4]; omega)]

/-- What octet.Open answers of four bytes or more. -/
def Opened (w : World) (l : List UInt8) (e : Ending) (w' : World) : Prop :=
  (l.drop (l.length - 4) = le4 (sum (l.take (l.length - 4))) ∧ ∃ g, e = .returned (.tuple #[.slice (some ⟨g, 0, none⟩) (l.length - 4) (l.length - 4), .nilIface]) ∧ w.heap.size ≤ g ∧ Row w' g (l.take (l.length - 4)) ∧ Below w.heap.size w w') ∨
  (l.drop (l.length - 4) ≠ le4 (sum (l.take (l.length - 4))) ∧ ∃ g, e = .returned (.tuple #[.slice none 0 0, faultV g]) ∧ NewFault w (l.length - 4 : Nat) 11 g w')

set_option maxHeartbeats 1000000 in
theorem open_any (ao : Option Addr) (n cap : Nat) (l : List UInt8) (w : World) (hl : l.length = n) (hr : Rd w ao l) (h4 : 4 ≤ n) (hn : n ≤ cap) (hcap : n ≤ 140737488355000) (ht : Tab w) :
    Calls Tryd.prog 118 #[.slice ao n cap] w (Opened w l) := by
  obtain ⟨k, rfl⟩ : ∃ k, n = k + 4 := ⟨n - 4, by omega⟩
  clear h4
  obtain ⟨b, off, rfl, hbw, hc⟩ := hr.some (by omega)
  obtain ⟨s, hs0⟩ : ∃ s, s = sum (l.take k) := ⟨_, rfl⟩
  have hs := sum_lt (l.take k)
  rw [← hs0] at hs
  have hcell : ∀ i, i < 4 → w.cell? ⟨b, off + (k + i), none⟩ = some (.int .u8 ((l.getD (k + i) 0).toNat : Int)) := fun i hi => hc (k + i) (by omega)
  have hrk : Rd w (some ⟨b, off, none⟩) (l.take k) := by
    have := hr.sub 0 k cap (by omega) (by omega)
    simpa [sub, Addr.add] using this
  have HL := Lib.hid hl; have HR := Lib.hid hrk; have HT := Lib.hid ht; have HS := Lib.hid hs0; clear hl ht hc hr hrk hs0
  go_enter Tryd.func118, Tryd.ntmps118
  go_wp2_with (go_at_call 106; refine (sum_any _ _ _ (l.take k) _ (by have := HL.out; simp; omega) HR.out (by omega) HT.out).mono ?_; rintro e w' ⟨rfl, rfl⟩; rw [← HS.out])
  go_loopw [20] (fun v wr => ∃ j nq : Nat, j ≤ 4 ∧ v = .int .i64 j ∧ wr = w.drewN nq ∧ Hid (∀ i, i < j → l.getD (k + i) 0 = (le4 s).getD i 0)) (fun v _ => 4 - (intOf v).toNat)
  case atStart => exact ⟨0, 0, by omega, rfl, rfl, fun i hi => by omega⟩
  case round =>
    obtain ⟨j, nq, hj, rfl, rfl, hm⟩ := hrel
    by_cases hlt : j < 4
    · have hcc := hcell j hlt
      have hle := le4_getD s j hlt
      have HLE := Lib.hid hle
      clear hcell hle
      by_cases heq : l.getD (k + j) 0 = (le4 s).getD j 0
      · have HEQ := Lib.hid heq
        have htest : (((l[k + j]?.getD 0).toNat : Int) != (s : Int) / 2 ^ (8 * j) % 256) = false := by rw [← List.getD_eq_getElem?_getD, heq, HLE.out]; simp
        clear heq
        go_wp2
        go_quiet (fail)
        go_wp2
        go_roundw
        case rel =>
          refine ⟨j + 1, _, by omega, by go_num, rfl, ?_⟩
          intro i hi
          rcases Nat.lt_or_ge i j with h | h
          · exact hm.out i h
          · obtain rfl : i = j := by omega
            exact HEQ.out
        case measure => simp [intOf]; omega
      · have HNE := Lib.hid heq
        have htest : (((l[k + j]?.getD 0).toNat : Int) != (s : Int) / 2 ^ (8 * j) % 256) = true := by
          rw [← List.getD_eq_getElem?_getD, bne_iff_ne, ← HLE.out]
          intro h
          exact heq (UInt8.toNat_inj.1 (by omega))
        clear heq
        go_wp2
        go_quiet (fail)
        go_wp2_with (go_at_call 74; refine (wrap_any _ _ _).mono ?_; rintro e w' ⟨rfl, rfl⟩)
        go_ret2
        have hl := HL.out
        have e4 : l.length - 4 = k := by omega
        refine .inr ⟨?_, w.heap.size, ?_, ?_⟩
        · rw [e4, ← HS.out]
          intro h
          exact HNE.out ((drop_eq_le4 l k s hl).1 h j hlt)
        · rfl
        · rw [e4]
          exact (newFault_alloc _ _ _).after (below_drewN (Below.refl _ _) _)
    · obtain rfl : j = 4 := by omega
      clear hcell
      go_wp2_with fail
      refine (with_any _ _ _ _ 0 0 (l.take k) [] _ (by have := HL.out; simp; omega) rfl (HR.out.step (below_drewN (Below.refl _ _) _)) (Rd.nil _ _) (by omega)).mono ?_
      intro e w' hN
      obtain ⟨g, rfl, h2, h3, h4⟩ := hN.after (below_drewN (Below.refl _ _) _)
      have e0 := HL.out
      have e1 : (l.take k ++ []).length = k := by simp; omega
      rw [e1]
      go_wp2
      go_ret2
      have e4 : l.length - 4 = k := by omega
      refine .inl ⟨?_, g, ?_, h2, ?_, h4⟩
      · rw [e4, ← HS.out]
        exact (drop_eq_le4 l k s HL.out).2 hm.out
      · rw [e4]; rfl
      · rw [e4]; simpa using h3
end Go.Proofs.YtoophonmonojcaaDoor

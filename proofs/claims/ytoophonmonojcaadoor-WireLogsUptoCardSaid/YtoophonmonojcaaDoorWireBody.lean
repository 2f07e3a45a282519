/- Contract of wire's body. -/
import Derived.Test.YtoophonmonojcaaDoorWireDecSpec
import Derived.Test.YtoophonmonojcaaDoorIs
namespace Go.Proofs.YtoophonmonojcaaDoor
open Go.RowKit

/-- A body, or the error's number and place. -/
def innerOf (b : List UInt8) : (Int × Int) ⊕ List UInt8 :=
  if 64 < b.length then .inl (60, 64) else if b.length < 4 then .inl (62, b.length) else
  if b.drop (b.length - 4) = le4 (sum (b.take (b.length - 4))) then (if b.take (b.length - 4) = [] then .inl (62, 0) else .inr (b.take (b.length - 4))) else .inl (64, (b.length - 4 : Nat))
def BodyPost (w : World) (b : List UInt8) (e : Ending) (w' : World) : Prop := match innerOf b with
  | .inl (c, a) => ∃ g, e = .returned (.tuple #[.slice none 0 0, faultV g]) ∧ NewFault w a c g w'
  | .inr l => ∃ g, e = .returned (.tuple #[.slice (some ⟨g, 0, none⟩) l.length l.length, .nilIface]) ∧ w.heap.size ≤ g ∧ Row w' g l ∧ Below w.heap.size w w'
theorem BodyPost.err {w : World} {b : List UInt8} {e : Ending} {w' : World} (c a : Int) (g : Nat) (h : innerOf b = .inl (c, a)) (he : e = .returned (.tuple #[.slice none 0 0, faultV g])) (hn : NewFault w a c g w') : BodyPost w b e w' := by
  unfold BodyPost; rw [h]; exact ⟨g, he, hn⟩

theorem body_long (ao : Option Addr) (n cap : Nat) (b : List UInt8) (w : World) (hl : b.length = n) (hn : 64 < n) (hb : n ≤ 9223372036854775807) : Calls Tryd.prog 100 #[.slice ao n cap] w (BodyPost w b) := by
  have hi : innerOf b = .inl (60, 64) := by unfold innerOf; rw [if_pos (by omega)]
  have HI := Lib.hid hi; clear hi hl
  go_enter Tryd.func100, Tryd.ntmps100
  go_wp2_with fail
  refine (wrap_any _ _ _).mono ?_
  rintro e w1 ⟨rfl, rfl⟩
  go_wp2
  go_ret2
  exact BodyPost.err _ _ _ HI.out rfl (newFault_alloc _ _ _)

theorem newFault_at (w : World) (a c : Int) (g : Nat) (hg : g = w.heap.size) : NewFault w a c g (w.alloc (faultObj a c)) := by subst hg; exact newFault_alloc w a c
theorem fault_cell {w : World} {g : Nat} {a c : Int} (h : w.heap[g]? = some (faultObj a c)) : w.cell? ⟨g, 0, none⟩ = some (.int .i64 a) := by simp [World.cell?, h, faultObj]

set_option maxHeartbeats 1000000 in
/-- Where Open refuses. -/
theorem body_fault (ao : Option Addr) (n cap : Nat) (b : List UInt8) (w : World) (c a c' : Int) (hn : n ≤ 64) (hc : (c = 10 ∧ c' = 62) ∨ (c = 11 ∧ c' = 64)) (hi : innerOf b = .inl (c', a))
    (ho : Calls Tryd.prog 118 #[.slice ao n cap] w fun e w' => ∃ g, e = .returned (.tuple #[.slice none 0 0, faultV g]) ∧ NewFault w a c g w') (hE : EType w) : Calls Tryd.prog 100 #[.slice ao n cap] w (BodyPost w b) := by
  have HI := Lib.hid hi; have HO := Lib.hid ho; have HE := Lib.hid hE; clear hi ho hE
  rcases hc with ⟨rfl, rfl⟩ | ⟨rfl, rfl⟩
  all_goals
    go_enter Tryd.func100, Tryd.ntmps100
    go_wp2_with fail
    refine HO.out.mono ?_
    rintro e w1 ⟨g, rfl, hN⟩
    have HN := Lib.hid hN; clear hN
    go_wp2_with fail
    refine (as_fault_fault g _ (.pointer none) _ (by simp) (by simp) ((HE.out.step HN.out.2.2).alloc _)).mono ?_
    intro e w2 h
    obtain ⟨rfl, hc, hb⟩ := h.fresh
    have hc' := hc.out
    have HB := Lib.hid hb
    have HG := Lib.hid ((hb.block g (heap_lt HN.out.2.1)).trans HN.out.2.1)
    have hg0 := fault_cell HG.out
    clear hc h hb
    go_wp2_with fail
    refine (Is_fault g _ _ 10 _ HG.out).mono ?_
    rintro e w3 ⟨rfl, rfl⟩
    go_wp2_with fail
    refine (wrap_any _ _ _).mono ?_
    rintro e w4 ⟨rfl, rfl⟩
    go_wp2
    go_ret2
    exact BodyPost.err _ _ _ HI.out rfl ((newFault_alloc _ _ _).after (HN.out.2.2.trans (HB.out.mono HN.out.2.2.size)))

theorem body_short (ao : Option Addr) (n cap : Nat) (b : List UInt8) (w : World) (hl : b.length = n) (hn : n < 4) (hE : EType w) : Calls Tryd.prog 100 #[.slice ao n cap] w (BodyPost w b) := by
  refine body_fault ao n cap b w 10 n 62 (by omega) (.inl ⟨rfl, rfl⟩) ?_ ?_ hE
  · unfold innerOf; rw [if_neg (by omega), if_pos (by omega), hl]
  · refine (open_short ao n cap w hn).mono ?_
    rintro e w' ⟨rfl, rfl⟩
    exact ⟨_, rfl, newFault_alloc _ _ _⟩

set_option maxHeartbeats 1000000 in
theorem body_any (ao : Option Addr) (n cap : Nat) (b : List UInt8) (w : World) (hl : b.length = n) (hr : Rd w ao b) (hcap : n ≤ cap) (hb : n ≤ 9223372036854775807) (ht : Tab w) (hE : EType w) : Calls Tryd.prog 100 #[.slice ao n cap] w (BodyPost w b) := by
  rcases Nat.lt_or_ge 64 n with h64 | h64
  · exact body_long ao n cap b w hl h64 hb
  rcases Nat.lt_or_ge n 4 with h4 | h4
  · exact body_short ao n cap b w hl h4 hE
  have hop := open_any ao n cap b w hl hr h4 hcap (by omega) ht
  by_cases hs : b.drop (b.length - 4) = le4 (sum (b.take (b.length - 4)))
  · by_cases h0 : b.take (b.length - 4) = []
    · have hi : innerOf b = .inl (62, 0) := by unfold innerOf; rw [if_neg (by omega), if_neg (by omega), if_pos hs, if_pos h0]
      have hn4 : n - 4 = 0 := by
        have := congrArg List.length h0
        simp at this
        omega
      have ho : Calls Tryd.prog 118 #[.slice ao n cap] w fun e w' => ∃ g, e = .returned (.tuple #[.slice (some ⟨g, 0, none⟩) 0 0, .nilIface]) ∧ Below w.heap.size w w' := by
        refine hop.mono ?_
        rintro e w' (⟨_, g, rfl, h1, h2, h3⟩ | ⟨hx, _⟩)
        · rw [hl, hn4]; exact ⟨g, rfl, h3⟩
        · exact absurd hs hx
      have HI := Lib.hid hi; have HO := Lib.hid ho
      clear hi ho hop hs h0 hl hr ht hE
      go_enter Tryd.func100, Tryd.ntmps100
      go_wp2_with fail
      refine HO.out.mono ?_
      rintro e w1 ⟨g, rfl, hB⟩
      have HB := Lib.hid hB; clear hB
      go_wp2_with fail
      refine (as_nil _ _).mono ?_
      rintro e w2 ⟨rfl, rfl⟩
      go_wp2_with fail
      refine (wrap_any _ _ _).mono ?_
      rintro e w4 ⟨rfl, rfl⟩
      go_wp2
      go_ret2
      exact BodyPost.err _ _ _ HI.out rfl ((newFault_at _ _ _ _ (by simp)).after (HB.out.alloc HB.out.size _))
    · have hi : innerOf b = .inr (b.take (b.length - 4)) := by unfold innerOf; rw [if_neg (by omega), if_neg (by omega), if_pos hs, if_neg h0]
      have hn4 : 0 < n - 4 := by
        have : (b.take (b.length - 4)).length ≠ 0 := fun h => h0 (List.eq_nil_of_length_eq_zero h)
        simp at this
        omega
      obtain ⟨k, hk⟩ : ∃ k, n - 4 = k := ⟨_, rfl⟩
      have hkl : (b.take (b.length - 4)).length = k := by simp; omega
      have ho : Calls Tryd.prog 118 #[.slice ao n cap] w fun e w' => ∃ g, e = .returned (.tuple #[.slice (some ⟨g, 0, none⟩) k k, .nilIface]) ∧ w.heap.size ≤ g ∧ Row w' g (b.take (b.length - 4)) ∧ Below w.heap.size w w' := by
        refine hop.mono ?_
        rintro e w' (⟨_, g, rfl, h1, h2, h3⟩ | ⟨hx, _⟩)
        · rw [show b.length - 4 = k by omega]
          rw [show b.length - 4 = k by omega] at h2
          exact ⟨g, rfl, h1, h2, h3⟩
        · exact absurd hs hx
      have HI := Lib.hid hi; have HO := Lib.hid ho; have HKL := Lib.hid hkl
      rw [hk] at hn4
      have hk64 : k ≤ 64 := by omega
      clear hi ho hop hs h0 hl hr ht hE hk hkl
      go_enter Tryd.func100, Tryd.ntmps100
      go_wp2_with fail
      refine HO.out.mono ?_
      rintro e w1 ⟨g, rfl, hg, hR, hB⟩
      have HB := Lib.hid hB; have HG := Lib.hid hg; have HR := Lib.hid hR; clear hB hg hR
      go_wp2_with fail
      refine (as_nil _ _).mono ?_
      rintro e w2 ⟨rfl, rfl⟩
      go_wp2
      go_ret2
      unfold BodyPost
      rw [HI.out]
      exact ⟨g, by rw [HKL.out]; rfl, HG.out, HR.out.below ((Below.refl _ _).alloc (Nat.le_refl _) _) HR.out.lt, HB.out.alloc HB.out.size _⟩
  · have hi : innerOf b = .inl (64, (b.length - 4 : Nat)) := by unfold innerOf; rw [if_neg (by omega), if_neg (by omega), if_neg hs]
    refine body_fault ao n cap b w 11 _ 64 h64 (.inr ⟨rfl, rfl⟩) hi ?_ hE
    refine hop.mono ?_
    rintro e w' (⟨hx, _⟩ | ⟨_, g, rfl, hN⟩)
    · exact absurd hx hs
    · exact ⟨g, rfl, hN⟩

theorem decode_inner (b : List UInt8) : decode b = match innerOf b with
    | .inl x => .inl x
    | .inr l => bodyOf l := by
  unfold decode innerOf
  split
  · rfl
  split
  · rfl
  split
  · by_cases h : b.take (b.length - 4) = []
    · rw [if_pos h]
      show bodyOf _ = .inl (62, 0)
      rw [h]; rfl
    · rw [if_neg h]
  · rfl
end Go.Proofs.YtoophonmonojcaaDoor

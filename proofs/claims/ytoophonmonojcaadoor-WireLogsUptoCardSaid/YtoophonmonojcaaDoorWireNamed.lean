/- Contracts of wire's named, bounds, may. -/
import Derived.Test.YtoophonmonojcaaDoorWithin
namespace Go.Proofs.YtoophonmonojcaaDoor
open Go.RowKit

/-- The cells of a slice of numbers whose address is 'ao' read as 'l'. -/
def RdN (w : World) (ao : Option Addr) (l : List Nat) : Prop :=
  ∀ i, i < l.length → ∃ b off, ao = some ⟨b, off, none⟩ ∧ w.cell? ⟨b, off + i, none⟩ = some (.int .i64 ((l.getD i 0 : Nat) : Int))
theorem RdN.some {w : World} {ao : Option Addr} {l : List Nat} (h : RdN w ao l) (hp : 0 < l.length) :
    ∃ b off, ao = Option.some ⟨b, off, none⟩ ∧ b < w.heap.size ∧ ∀ i, i < l.length → w.cell? ⟨b, off + i, none⟩ = Option.some (Value.int .i64 ((l.getD i 0 : Nat) : Int)) := by
  obtain ⟨b, off, rfl, hc⟩ := h 0 hp
  refine ⟨b, off, rfl, block_lt hc, fun i hi => ?_⟩
  obtain ⟨b', off', e, hc'⟩ := h i hi
  cases e
  exact hc'
theorem RdN.keep {w w' : World} {ao : Option Addr} {l : List Nat} (h : RdN w ao l) (hb : Below w.heap.size w w') : RdN w' ao l := by
  intro i hi
  obtain ⟨b, off, rfl, hc⟩ := h i hi
  exact ⟨b, off, rfl, (hb.cell (p := ⟨b, off + i, none⟩) (block_lt hc)).trans hc⟩

set_option maxRecDepth 100000 in
theorem named_any (ao : Option Addr) (n cap : Nat) (l : List Nat) (f : Nat) (w : World) (hl : l.length = n) (hr : RdN w ao l) (hb : n ≤ 1000000) :
    Calls Tryd.prog 76 #[.slice ao n cap, .int .i64 f] w fun e w' => e = .returned (.bool (decide (f ∈ l))) ∧ w = w' := by
  rcases Nat.eq_zero_or_pos n with h0 | h0
  · subst h0
    obtain rfl : l = [] := List.eq_nil_of_length_eq_zero hl
    go_enter Tryd.func76, Tryd.ntmps76
    go_wp2
    refine wp_loop_rounds 1 ?_
    rw [rounds_succ]
    go_wp2
    go_ret
    exact ⟨by simp, rfl⟩
  · obtain ⟨b, off, rfl, hbw, hc⟩ := hr.some (by omega)
    rw [hl] at hc
    have HL := Lib.hid hl; have HC := Lib.hid hc; clear hl hr hc
    go_enter Tryd.func76, Tryd.ntmps76
    go_wp2
    go_loopw [6, 9] (fun _ i wr => ∃ (k : Nat), k ≤ n ∧ i = .int .i64 k ∧ f ∉ l.take k ∧ wr = w) (fun _ i _ => n - (intOf i).toNat)
    case atStart => exact ⟨0, Nat.zero_le _, rfl, by simp, rfl⟩
    case round =>
      obtain ⟨k, hk, rfl, hnot, rfl⟩ := hrel
      have HNOT := Lib.hid hnot; clear hnot
      by_cases hlt : k < n
      · have hx := HC.out k hlt
        have hkl : k < l.length := by have := HL.out; omega
        have hg : l.getD k 0 = l[k] := by simp [List.getD_eq_getElem?_getD, hkl]
        by_cases he : l[k] = f
        · have HM := Lib.hid (show f ∈ l by rw [← he]; exact List.getElem_mem hkl)
          have hd : (((l[k]?.getD 0 : Nat) : Int) == (f : Int)) = true := by simp [hkl, he]
          clear he hg hkl
          go_wp2
          go_ret
          exact ⟨by simp [HM.out], rfl⟩
        · have HN := Lib.hid (show f ∉ l.take (k + 1) by
            rw [List.take_succ_eq_append_getElem hkl, List.mem_append]
            rintro (h | h)
            · exact HNOT.out h
            · simp at h; exact he h.symm)
          have hd : (((l[k]?.getD 0 : Nat) : Int) == (f : Int)) = false := by simp [hkl]; omega
          clear he hg hkl
          go_wp2
          exact ⟨⟨k + 1, by omega, by go_num, HN.out, trivial⟩, by simp [intOf]; omega⟩
      · obtain rfl : k = n := by omega
        go_wp2
        go_ret
        have h := HNOT.out
        rw [List.take_of_length_le (by have := HL.out; omega)] at h
        exact ⟨by simp [h], rfl⟩
end Go.Proofs.YtoophonmonojcaaDoor

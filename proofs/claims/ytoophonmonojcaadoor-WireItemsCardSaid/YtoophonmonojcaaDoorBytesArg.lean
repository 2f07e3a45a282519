/- A []byte argument opened for the walks, and what its bulk bounds. -/
import Derived.Test.YtoophonmonojcaaDoorRowsArg
namespace Go.Proofs.YtoophonmonojcaaDoor
open Go.ChangeShapes Go.WideShapes Go.ChangeAt Go.RowKit Go.Deep

theorem bytes_open {H : Type} {enc : TypeId × Value → H} {W : World} {v : Value} {d : DataW H} {p : List MemPlace} (h : DataW.Trod enc Tryd.prog W 0 (fun _ => true) true 27 v d p) (hv : ∃ a n c, v = .slice a n c) :
    ∃ ao n cap l, v = .slice ao n cap ∧ l.length = n ∧ Rd W ao l ∧ n + 1 ≤ Rows.uptoBulk d ∧ n ≤ cap ∧ (ao = none → cap = 0) := by
  obtain ⟨a0, n0, c0, rfl⟩ := hv
  obtain ⟨fuel, hf⟩ := h
  rcases open_ints Tryd.underlying27 Tryd.underlying5 cellsU8 hf with ⟨hcs, hx⟩ | ⟨a, len, cap, zs, hcs, _, hl, hm, hlen, hx, hz, hw⟩
  · simp [Value.cells] at hcs
    obtain ⟨rfl, rfl, rfl⟩ := hcs
    exact ⟨none, 0, 0, [], rfl, rfl, fun i hi => by simp at hi, by have := bulk_one d; omega, Nat.le_refl _, fun _ => rfl⟩
  · simp [Value.cells] at hcs
    obtain ⟨rfl, rfl, rfl⟩ := hcs
    simp only [if_true] at hlen
    simp only [Prod.mk.injEq] at hx
    obtain ⟨rfl, _⟩ := hx
    refine ⟨some a, n0, c0, (zs.take n0).map u8, rfl, by simp; omega, rd_of_ints (by omega) hw (fun a' ha c hcc => by cases ha; exact hz c (by omega)) (fun h => by cases h), ?_, hl, fun h => by cases h⟩
    rw [← bulk_slice]
    have := bulk_length (lits (H := H) .u8 (zs.take n0))
    simp only [lits, List.length_map, List.length_take] at this ⊢
    omega
end Go.Proofs.YtoophonmonojcaaDoor

/- A []byte argument opened, with the greatest length that the model knows. -/
import Derived.Test.YtoophonmonojcaaDoorBytesArg
namespace Go.Proofs.YtoophonmonojcaaDoor
open Go.ChangeShapes Go.WideShapes Go.ChangeAt Go.RowKit Go.Deep

theorem bytes_open2 {H : Type} {enc : TypeId × Value → H} {W : World} {v : Value} {d : DataW H} {p : List MemPlace} (h : DataW.Trod enc Tryd.prog W 0 (fun _ => true) true 27 v d p) (hv : ∃ a n c, v = .slice a n c) :
    ∃ ao n cap l, v = .slice ao n cap ∧ l.length = n ∧ Rd W ao l ∧ n + 1 ≤ Rows.uptoBulk d ∧ n ≤ cap ∧ (ao = none → cap = 0) ∧ n ≤ 9223372036854775807 := by
  have hx : ∀ a n c, v = .slice a n c → n ≤ 9223372036854775807 := by
    intro a n c hv
    subst hv
    obtain ⟨fuel, hf⟩ := h
    rcases open_ints Tryd.underlying27 Tryd.underlying5 cellsU8 hf with ⟨hcs, _⟩ | ⟨_, len, cap, _, hcs, _, hl, hm, _⟩
    · simp [Value.cells] at hcs
      omega
    · simp [Value.cells] at hcs
      unfold maxLen at hm
      omega
  obtain ⟨ao, n, cap, l, rfl, h1, h2, h3, h4, h5⟩ := bytes_open h hv
  exact ⟨ao, n, cap, l, rfl, h1, h2, h3, h4, h5, hx _ _ _ rfl⟩
end Go.Proofs.YtoophonmonojcaaDoor

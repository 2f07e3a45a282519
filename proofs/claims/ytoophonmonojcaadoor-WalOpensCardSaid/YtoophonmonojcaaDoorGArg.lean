/- Several texts laid as one, in this order: RowsArg, BytesArg, BytesArg2, BytesArg3. -/
import Derived.Test.YtoophonmonojcaaDoorKit
import Derived.SizedLaws
/- A [][]byte argument opened for the walks, and what its bulk bounds. -/
namespace Go.Proofs.YtoophonmonojcaaDoor
open Go.ChangeShapes Go.WideShapes Go.ChangeAt Go.RowKit Go.Deep

theorem bulk_one {H : Type} (d : DataW H) : 1 ≤ Rows.uptoBulk d := by
  cases d with
  | lit l => cases l <;> simp [Rows.uptoBulk]
  | nil => simp [Rows.uptoBulk]
  | ptr d => simp [Rows.uptoBulk]
  | slice elems spare => simp [Rows.uptoBulk]
  | agg parts => simp [Rows.uptoBulk]
  | iface t d => simp [Rows.uptoBulk]
  | map entries => simp [Rows.uptoBulk]
  | held h => simp [Rows.uptoBulk]
theorem bulk_mem {H : Type} {d : DataW H} {l : List (DataW H)} (h : d ∈ l) : Rows.uptoBulk d ≤ Rows.uptoBulkAll l := by
  induction l with
  | nil => cases h
  | cons x r ih =>
    simp only [Rows.uptoBulkAll]
    cases List.mem_cons.1 h with
    | inl e => subst e; omega
    | inr e => have := ih e; omega
theorem bulk_length {H : Type} (l : List (DataW H)) : l.length ≤ Rows.uptoBulkAll l := by
  induction l with
  | nil => simp [Rows.uptoBulkAll]
  | cons x r ih => have := bulk_one x; simp only [Rows.uptoBulkAll, List.length_cons]; omega
theorem bulk_slice {H : Type} (elems spare : List (DataW H)) : Rows.uptoBulkAll elems + Rows.uptoBulkAll spare + 1 = Rows.uptoBulk (.slice elems spare) := by simp [Rows.uptoBulk]
theorem bulk_two {H : Type} (a b : DataW H) : Rows.uptoBulkAll [a, b] = Rows.uptoBulk a + Rows.uptoBulk b := by simp [Rows.uptoBulkAll]
theorem bulk_bound {H : Type} {l : List (DataW H)} (hk : Rows.uptoSmall H l = true) : Rows.uptoBulkAll l ≤ 1048576 := of_decide_eq_true hk

/-- The byte of an integer that is one. -/
theorem byte_of {z : Int} (h : (Lit.int .u8 z).wf = true) : ((u8 z).toNat : Int) = z := by
  have hb := bounds_u8 h
  rw [u8_toNat]; omega

theorem spot_none {w : World} {a : Addr} {v : Value} (h : w.cell? a = some v) : a = ⟨a.block, a.off, none⟩ := by
  obtain ⟨b, o, s⟩ := a
  cases s with
  | none => rfl
  | some x =>
    unfold World.cell? at h
    split at h <;> simp at h
theorem add_plain (b o i : Nat) : (⟨b, o, none⟩ : Addr).add i = ⟨b, o + i, none⟩ := by unfold Addr.add; split <;> simp_all
theorem rd_of_ints {w : World} {ao : Option Addr} {zs : List Int} {n : Nat} (hn : n ≤ zs.length) (hw : ∀ z ∈ zs, (Lit.int .u8 z).wf = true) (h : ∀ a, ao = some a → ∀ c, c < n → w.cell? (a.add c) = some (.int .u8 (zs.getD c 0))) (h0 : ao = none → n = 0) :
    Rd w ao ((zs.take n).map u8) := by
  intro i hi
  simp only [List.length_map, List.length_take] at hi
  cases ao with
  | none => have := h0 rfl; omega
  | some a =>
    have hc := h a rfl
    have hs := spot_none (hc 0 (by omega))
    have hz : a.add 0 = a := by simp [Addr.add]
    rw [hz] at hs
    refine ⟨a.block, a.off, by rw [← hs], ?_⟩
    have := hc i (by omega)
    rw [hs, add_plain] at this
    rw [this]
    have hi2 : i < zs.length := by omega
    have hm : zs.getD i 0 = zs[i] := by simp [List.getD_eq_getElem?_getD, hi2]
    have hg : ((zs.take n).map u8).getD i 0 = u8 zs[i] := by
      simp [List.getD_eq_getElem?_getD, show i < n by omega, hi2]
    rw [hg, hm, byte_of (hw _ (List.getElem_mem hi2))]

theorem rows_open {H : Type} {enc : TypeId × Value → H} {W : World} {v : Value} {d : DataW H} {p : List MemPlace} (h : DataW.Trod enc Tryd.prog W 0 (fun _ => true) true 43 v d p) (hv : ∃ a n c, v = .slice a n c) :
    ∃ ao n cap ps, v = .slice ao n cap ∧ ps.length = n ∧ RdRows W ao ps ∧ n + 1 ≤ Rows.uptoBulk d ∧ ∀ q ∈ ps, q.length ≤ Rows.uptoBulk d := by
  obtain ⟨a0, n0, c0, rfl⟩ := hv
  obtain ⟨fuel, hf⟩ := h
  rcases open_int_rows Tryd.underlying43 Tryd.underlying27 Tryd.underlying5 cellsBytes cellsU8 hf with ⟨hcs, hx⟩ | ⟨a, len, cap, A, L, C, Z, hcs, _, hl, hm, hx, hr⟩
  · simp [Value.cells] at hcs
    obtain ⟨rfl, rfl, rfl⟩ := hcs
    exact ⟨none, 0, 0, [], rfl, rfl, fun i hi => by simp at hi, by have := bulk_one d; omega, fun q hq => by simp at hq⟩
  · simp [Value.cells] at hcs
    obtain ⟨rfl, rfl, rfl⟩ := hcs
    simp only [Prod.mk.injEq] at hx
    obtain ⟨rfl, _⟩ := hx
    have hsz : ∀ r, r < n0 → L r ≤ Rows.uptoBulk (DataW.slice ((List.range n0).map fun r => intRow (H := H) .u8 (A r) (L r) (Z r)) ((List.range (c0 - n0)).map fun j => intRow .u8 (A (n0 + j)) (L (n0 + j)) (Z (n0 + j)))) := by
      intro r hr'
      have h1 := bulk_mem (H := H) (d := intRow .u8 (A r) (L r) (Z r)) (l := (List.range n0).map fun r => intRow (H := H) .u8 (A r) (L r) (Z r)) (List.mem_map.2 ⟨r, List.mem_range.2 hr', rfl⟩)
      rw [← bulk_slice]
      have h2 : L r ≤ Rows.uptoBulk (intRow (H := H) .u8 (A r) (L r) (Z r)) := by
        obtain ⟨_, k1, _, k2, _, k3, _⟩ := hr r (by omega)
        unfold intRow
        cases hA : A r with
        | none => have := k3 hA; omega
        | some a' =>
          have := bulk_slice (lits (H := H) .u8 ((Z r).take (L r))) (lits .u8 ((Z r).drop (L r)))
          have h3 := bulk_length (lits (H := H) .u8 ((Z r).take (L r)))
          simp only [lits, List.length_map, List.length_take] at h3
          simp only [lits] at this h3 ⊢
          omega
      omega
    have hps : ∀ i, i < n0 → ((List.range n0).map fun r => ((Z r).take (L r)).map u8).getD i [] = ((Z i).take (L i)).map u8 := by
      intro i hi
      simp [List.getD_eq_getElem?_getD, hi]
    refine ⟨some a, n0, c0, (List.range n0).map fun r => ((Z r).take (L r)).map u8, rfl, by simp, ?_, ?_, ?_⟩
    · intro i hi
      simp only [List.length_map, List.length_range] at hi
      obtain ⟨hc, k1, _, k2, k4, k3, k5⟩ := hr i (by omega)
      have hs0 := (hr 0 (by omega)).1
      have hz : a.add 0 = a := by simp [Addr.add]
      rw [hz] at hs0
      have hs := spot_none hs0
      rw [hs, add_plain] at hc
      refine ⟨a.block, a.off, _, by rw [← hs], hc, ?_⟩
      rw [hps i hi]
      refine ⟨A i, C i, ?_, ?_, ?_, k3⟩
      · simp; omega
      · simp; omega
      · exact rd_of_ints (by omega) k4 (fun a' ha c hcc => (k5 a' ha).2 c (by omega)) (fun h => by have := k3 h; omega)
    · rw [← bulk_slice]
      have := bulk_length ((List.range n0).map fun r => intRow (H := H) .u8 (A r) (L r) (Z r))
      simp only [List.length_map, List.length_range] at this
      omega
    · intro q hq
      obtain ⟨r, hr', rfl⟩ := List.mem_map.1 hq
      have := hsz r (List.mem_range.1 hr')
      simp only [List.length_map, List.length_take]
      omega
end Go.Proofs.YtoophonmonojcaaDoor

/- A []byte argument opened for the walks, and what its bulk bounds. -/
namespace Go.Proofs.YtoophonmonojcaaDoor
open Go.ChangeShapes Go.WideShapes Go.ChangeAt Go.RowKit Go.Deep

theorem bytes_open {H : Type} {enc : TypeId × Value → H} {W : World} {v : Value} {d : DataW H} {p : List MemPlace} (h : DataW.Trod enc Tryd.prog W 0 (fun _ => true) true 27 v d p) (hv : ∃ a n c, v = .slice a n c) :
    ∃ ao n cap l, v = .slice ao n cap ∧ l.length = n ∧ Rd W ao l ∧ n + 1 ≤ Rows.uptoBulk d ∧ n ≤ cap ∧ (ao = none → cap = 0) := by
  obtain ⟨a0, n0, c0, rfl⟩ := hv
  obtain ⟨fuel, hf⟩ := h
  rcases open_ints Tryd.underlying27 Tryd.underlying5 cellsU8 hf with ⟨hcs, hx⟩ | ⟨a, len, cap, zs, hcs, _, hl, hm, hlen, hx, hz, hw⟩
  · simp [Value.cells] at hcs
    obtain ⟨rfl, rfl, rfl⟩ := hcs
    exact ⟨none, 0, 0, [], rfl, rfl, fun i hi => by simp at hi, by have := bulk_one d; omega, Nat.le_refl _, fun _ => rfl⟩
  · simp [Value.cells] at hcs
    obtain ⟨rfl, rfl, rfl⟩ := hcs
    simp only [if_true] at hlen
    simp only [Prod.mk.injEq] at hx
    obtain ⟨rfl, _⟩ := hx
    refine ⟨some a, n0, c0, (zs.take n0).map u8, rfl, by simp; omega, rd_of_ints (by omega) hw (fun a' ha c hcc => by cases ha; exact hz c (by omega)) (fun h => by cases h), ?_, hl, fun h => by cases h⟩
    rw [← bulk_slice]
    have := bulk_length (lits (H := H) .u8 (zs.take n0))
    simp only [lits, List.length_map, List.length_take] at this ⊢
    omega
end Go.Proofs.YtoophonmonojcaaDoor

/- A []byte argument opened, with the greatest length that the model knows. -/
namespace Go.Proofs.YtoophonmonojcaaDoor
open Go.ChangeShapes Go.WideShapes Go.ChangeAt Go.RowKit Go.Deep

theorem bytes_open2 {H : Type} {enc : TypeId × Value → H} {W : World} {v : Value} {d : DataW H} {p : List MemPlace} (h : DataW.Trod enc Tryd.prog W 0 (fun _ => true) true 27 v d p) (hv : ∃ a n c, v = .slice a n c) :
    ∃ ao n cap l, v = .slice ao n cap ∧ l.length = n ∧ Rd W ao l ∧ n + 1 ≤ Rows.uptoBulk d ∧ n ≤ cap ∧ (ao = none → cap = 0) ∧ n ≤ 9223372036854775807 := by
  have hx : ∀ a n c, v = .slice a n c → n ≤ 9223372036854775807 := by
    intro a n c hv
    subst hv
    obtain ⟨fuel, hf⟩ := h
    rcases open_ints Tryd.underlying27 Tryd.underlying5 cellsU8 hf with ⟨hcs, _⟩ | ⟨_, len, cap, _, hcs, _, hl, hm, _⟩
    · simp [Value.cells] at hcs
      omega
    · simp [Value.cells] at hcs
      unfold maxLen at hm
      omega
  obtain ⟨ao, n, cap, l, rfl, h1, h2, h3, h4, h5⟩ := bytes_open h hv
  exact ⟨ao, n, cap, l, rfl, h1, h2, h3, h4, h5, hx _ _ _ rfl⟩
end Go.Proofs.YtoophonmonojcaaDoor

/- A []byte argument opened, within the reach of every row. -/
namespace Go.Proofs.YtoophonmonojcaaDoor
open Go.ChangeShapes Go.WideShapes Go.ChangeAt Go.RowKit Go.Deep

theorem bytesU8 : Tryd.prog.bytesOf 5 = 1 := by kernel_rfl
theorem bytes_open3 {H : Type} {enc : TypeId × Value → H} {W : World} {v : Value} {d : DataW H} {p : List MemPlace} (h : DataW.Trod enc Tryd.prog W 0 (fun _ => true) true 27 v d p) (hv : ∃ a n c, v = .slice a n c)
    (hs : ∀ elems spare, d = .slice elems spare → (elems.length + spare.length) * Tryd.prog.bytesOf 5 ≤ reachBytes) :
    ∃ ao n cap l, v = .slice ao n cap ∧ l.length = n ∧ Rd W ao l ∧ n ≤ 140737488351232 ∧ n ≤ cap ∧ (ao = none → cap = 0) := by
  obtain ⟨a0, n0, c0, rfl⟩ := hv
  obtain ⟨fuel, hf⟩ := h
  rcases open_ints Tryd.underlying27 Tryd.underlying5 cellsU8 hf with ⟨hcs, hx⟩ | ⟨a, len, cap, zs, hcs, _, hl, hm, hlen, hx, hz, hw⟩
  · simp [Value.cells] at hcs
    obtain ⟨rfl, rfl, rfl⟩ := hcs
    exact ⟨none, 0, 0, [], rfl, rfl, fun i hi => by simp at hi, by omega, Nat.le_refl _, fun _ => rfl⟩
  · simp [Value.cells] at hcs
    obtain ⟨rfl, rfl, rfl⟩ := hcs
    simp only [if_true] at hlen
    simp only [Prod.mk.injEq] at hx
    obtain ⟨rfl, _⟩ := hx
    refine ⟨some a, n0, c0, (zs.take n0).map u8, rfl, by simp; omega, rd_of_ints (by omega) hw (fun a' ha c hcc => by cases ha; exact hz c (by omega)) (fun h => by cases h), ?_, hl, fun h => by cases h⟩
    have := hs _ _ rfl
    rw [bytesU8] at this
    simp only [lits, List.length_map, List.length_take, reachBytes] at this
    omega
end Go.Proofs.YtoophonmonojcaaDoor

/- Contracts of wire's long and pick. -/
import Derived.Test.YtoophonmonojcaaDoorWireDecSpec
import Derived.Test.YtoophonmonojcaaDoorNumber
import Derived.Laws.ResultCell
import Derived.Laws.Tables
import Derived.Great.BuildSlice
namespace Go.Proofs.YtoophonmonojcaaDoor
open Go.RowKit

theorem size_le (f : Nat) (h : f < 14) : sizeL.getD f 0 = 1 ∨ sizeL.getD f 0 = 2 := by
  have hc : f = 0 ∨ f = 1 ∨ f = 2 ∨ f = 3 ∨ f = 4 ∨ f = 5 ∨ f = 6 ∨ f = 7 ∨ f = 8 ∨ f = 9 ∨ f = 10 ∨ f = 11 ∨ f = 12 ∨ f = 13 := by omega
  rcases hc with h | h | h | h | h | h | h | h | h | h | h | h | h | h <;> subst h <;> decide
theorem posI_succ (l : List Nat) (i : Nat) (h : i < l.length) : posI l (i + 1) = posI l i + sizeL.getD (l.getD i 0) 0 := by
  unfold posI
  rw [List.take_succ_eq_append_getElem h, List.map_append, List.sum_append]
  have e : l.getD i 0 = l[i] := by simp [List.getD_eq_getElem?_getD, h]
  rw [e]
  simp only [List.map_cons, List.map_nil, List.sum_cons, List.sum_nil]
  omega
theorem posI_all (l : List Nat) : posI l l.length = longOf l := by unfold posI longOf; rw [List.take_length]
theorem posI_bound (l : List Nat) (i : Nat) (h : ∀ f ∈ l, f < 14) : posI l i ≤ 1 + 2 * l.length := by
  have := posI_le l i
  have : ∀ l : List Nat, (∀ f ∈ l, f < 14) → longOf l ≤ 1 + 2 * l.length := by
    intro l
    induction l with
    | nil => intro _; decide
    | cons a t ih =>
      intro h
      have h1 := ih (fun f hf => h f (by simp [hf]))
      have h2 := size_le a (h a (by simp))
      unfold longOf at *
      simp only [List.map_cons, List.sum_cons, List.length_cons]
      omega
  have := this l h
  omega

set_option maxRecDepth 100000 in
theorem long_any (ao : Option Addr) (n cap : Nat) (l : List Nat) (w : World) (hl : l.length = n) (hr : RdN w ao l) (h0 : 0 < n) (hn : n ≤ 14) (hs : Sizes w) (hp : ∀ f ∈ l, f < 14) :
    Calls Tryd.prog 81 #[.slice ao n cap] w fun e w' => e = .returned (.int .i64 (longOf l : Nat)) ∧ w = w' := by
  obtain ⟨b, off, rfl, hbw, hc⟩ := hr.some (by omega)
  rw [hl] at hc
  have HL := Lib.hid hl; have HC := Lib.hid hc; have HS := Lib.hid hs; have HP := Lib.hid hp
  clear hl hr hc hs hp
  go_enter Tryd.func81, Tryd.ntmps81
  go_wp2
  go_loopw [3, 5, 8] (fun s _ i wr => ∃ (k x : Nat), k ≤ n ∧ i = .int .i64 k ∧ s = .int .i64 x ∧ Hid (x = posI l k) ∧ x ≤ 29 ∧ wr = w) (fun _ _ i _ => n - (intOf i).toNat)
  case atStart => exact ⟨0, 1, Nat.zero_le _, rfl, rfl, rfl, by omega, rfl⟩
  case round =>
    obtain ⟨k, x, hk, rfl, rfl, hx, hx29, rfl⟩ := hrel
    by_cases hlt : k < n
    · have hxc := HC.out k hlt
      obtain ⟨f, hf⟩ : ∃ f, f = l.getD k 0 := ⟨_, rfl⟩
      have hkl : k < l.length := by have := HL.out; omega
      have hfm : f ∈ l := by rw [hf, List.getD_eq_getElem?_getD, List.getElem?_eq_getElem hkl]; exact List.getElem_mem hkl
      have p2 := HP.out f hfm
      have hsz := HS.out f p2
      rw [← hf] at hxc
      have hnx : posI l (k + 1) = x + sizeL.getD f 0 := by rw [posI_succ l k hkl, ← hf, ← hx.out]
      have hb29 := posI_bound l (k + 1) HP.out
      have hll := HL.out
      rw [hll, hnx] at hb29
      have HNX := Lib.hid hnx
      obtain ⟨z, hz⟩ : ∃ z, z = sizeL.getD f 0 := ⟨_, rfl⟩
      rw [← hz] at hsz HNX hb29
      have hsw := block_lt hsz
      have q1 : (0 : Int) ≤ (f : Int) := by omega
      have q2 : (f : Int) < 14 := by omega
      clear hkl hf hfm hnx hz hll
      go_wp2
      exact ⟨⟨k + 1, x + z, by omega, by go_num, by go_num, HNX.out.symm, by omega, trivial⟩, by simp [intOf]; omega⟩
    · obtain rfl : k = n := by omega
      go_wp2
      go_ret
      refine ⟨ret_int ?_, rfl⟩
      show (x : Int) = _
      rw [hx.out, ← posI_all, HL.out]

/-- The fourteen numbers as cells. -/
def vals (v : Nat → Int) : Array Value := #[.int .i64 (v 0), .int .i64 (v 1), .int .i64 (v 2), .int .i64 (v 3), .int .i64 (v 4), .int .i64 (v 5), .int .i64 (v 6), .int .i64 (v 7), .int .i64 (v 8), .int .i64 (v 9), .int .i64 (v 10), .int .i64 (v 11), .int .i64 (v 12), .int .i64 (v 13)]
def ValsAt (w : World) (g : Nat) (v : Nat → Int) : Prop := w.heap[g]? = some (.cells (vals v) 114 (0, 0))
theorem ValsAt.nums {w : World} {g : Nat} {v : Nat → Int} (h : ValsAt w g v) : Nums w g v := by
  intro i hi
  have hc : i = 0 ∨ i = 1 ∨ i = 2 ∨ i = 3 ∨ i = 4 ∨ i = 5 ∨ i = 6 ∨ i = 7 ∨ i = 8 ∨ i = 9 ∨ i = 10 ∨ i = 11 ∨ i = 12 ∨ i = 13 := by omega
  unfold ValsAt at h
  rcases hc with rfl | rfl | rfl | rfl | rfl | rfl | rfl | rfl | rfl | rfl | rfl | rfl | rfl | rfl <;> simp [World.cell?, h, vals]
theorem ValsAt.frozen {w : World} {g : Nat} {v : Nat → Int} (h : ValsAt w g v) (i : Nat) : w.frozen? ⟨g, i, none⟩ = false := by
  unfold ValsAt at h
  simp [World.frozen?, h]
theorem vals_set (v v' : Nat → Int) (f : Nat) (hf : f < 14) (x : Int) (h : ∀ g, g < 14 → v' g = if g = f then x else v g) : (vals v).setIfInBounds f (.int .i64 x) = vals v' := by
  unfold vals
  rw [h 0 (by omega), h 1 (by omega), h 2 (by omega), h 3 (by omega), h 4 (by omega), h 5 (by omega), h 6 (by omega), h 7 (by omega), h 8 (by omega), h 9 (by omega), h 10 (by omega), h 11 (by omega), h 12 (by omega), h 13 (by omega)]
  have hc : f = 0 ∨ f = 1 ∨ f = 2 ∨ f = 3 ∨ f = 4 ∨ f = 5 ∨ f = 6 ∨ f = 7 ∨ f = 8 ∨ f = 9 ∨ f = 10 ∨ f = 11 ∨ f = 12 ∨ f = 13 := by omega
  rcases hc with rfl | rfl | rfl | rfl | rfl | rfl | rfl | rfl | rfl | rfl | rfl | rfl | rfl | rfl <;> simp
theorem heap_setCell_same {w : World} {g : Nat} {cs : Array Value} {t : TypeId} {fr : Nat × Nat} (h : w.heap[g]? = some (.cells cs t fr)) (i : Nat) (x : Value) : (w.setCell ⟨g, i, none⟩ x).heap[g]? = some (.cells (cs.setIfInBounds i x) t fr) := by
  rw [setCell_eq_setRow w g i cs t fr x h]
  exact setRow_heap w g cs _ t fr h
theorem ValsAt.set {w : World} {g : Nat} {v v' : Nat → Int} (h : ValsAt w g v) (f : Nat) (hf : f < 14) (x : Int) (hv : ∀ g, g < 14 → v' g = if g = f then x else v g) : ValsAt (w.setCell ⟨g, f, none⟩ (.int .i64 x)) g v' := by
  unfold ValsAt at *
  rw [heap_setCell_same h, vals_set v v' f hf x hv]

/-- The fields read so far. -/
def cut (b : List UInt8) (l : List Nat) (i : Nat) (g : Nat) : Int := if g = 0 ∨ g ∈ l.take i then readB b l g else 0
theorem cut_succ (b : List UInt8) (l : List Nat) (i : Nat) (h : i < l.length) (g : Nat) : cut b l (i + 1) g = if g = l.getD i 0 then readB b l (l.getD i 0) else cut b l i g := by
  have e : l.getD i 0 = l[i] := by simp [List.getD_eq_getElem?_getD, h]
  have hm : g ∈ l.take (i + 1) ↔ g ∈ l.take i ∨ g = l[i] := by rw [List.take_succ_eq_append_getElem h, List.mem_append, List.mem_singleton]
  unfold cut
  rw [e]
  by_cases hg : g = l[i]
  · rw [if_pos hg, if_pos (.inr (hm.2 (.inr hg))), hg]
  · rw [if_neg hg]
    by_cases h2 : g = 0 ∨ g ∈ l.take i
    · rw [if_pos h2, if_pos (h2.imp id fun h => hm.2 (.inl h))]
    · rw [if_neg h2, if_neg]
      rintro (h | h)
      · exact h2 (.inl h)
      · exact (hm.1 h).elim (fun h => h2 (.inr h)) hg
theorem cut_all (b : List UInt8) (l : List Nat) (g : Nat) : cut b l l.length g = readB b l g := by
  unfold cut
  rw [List.take_length]
  split
  · rfl
  · rename_i h
    unfold readB
    rw [if_neg (fun e => h (.inl e)), if_neg (fun e => h (.inr e))]
/-- In the order that reading wants. -/
def Ord (l : List Nat) (own : Bool) : Prop := l.Nodup ∧ (∀ i, i < l.length → ((l.getD i 0 = 10 ∨ l.getD i 0 = 11) → 9 ∈ l.take i) ∧ (own = true → l.getD i 0 = 12 → 2 ∈ l.take i)) ∧ ∀ f ∈ l, 1 ≤ f ∧ f < 14
theorem readB_at (b : List UInt8) (l : List Nat) (own : Bool) (h : Ord l own) (i : Nat) (hi : i < l.length) : readB b l (l.getD i 0) = ((num ((b.drop (posI l i)).take (sizeL.getD (l.getD i 0) 0)) : Nat) : Int) := by
  have e : l.getD i 0 = l[i] := by simp [List.getD_eq_getElem?_getD, hi]
  have hm : l[i] ∈ l := List.getElem_mem hi
  have h1 := h.2.2 _ hm
  unfold readB
  rw [e, if_neg (by omega), if_pos hm, h.1.idxOf_getElem i hi]
theorem may_at (b : List UInt8) (l : List Nat) (own : Bool) (h : Ord l own) (i : Nat) (hi : i < l.length) :
    mayB (l.getD i 0) (cut b l (i + 1)) (makerB own (cut b l (i + 1))) = mayB (l.getD i 0) (readB b l) (makerB own (readB b l)) := by
  have e : l.getD i 0 = l[i] := by simp [List.getD_eq_getElem?_getD, hi]
  have hin : ∀ g, g ∈ l.take i → cut b l (i + 1) g = readB b l g := by
    intro g hg
    unfold cut
    rw [if_pos]
    exact .inr (by rw [List.take_succ_eq_append_getElem hi, List.mem_append]; exact .inl hg)
  have hself : cut b l (i + 1) (l.getD i 0) = readB b l (l.getD i 0) := by rw [cut_succ b l i hi, if_pos rfl]
  obtain ⟨h9, h2⟩ := h.2.1 i hi
  obtain ⟨f, hf⟩ : ∃ f, f = l.getD i 0 := ⟨_, rfl⟩
  rw [← hf] at hself h9 h2 ⊢
  have hb : boundsOf f (cut b l (i + 1)) (makerB own (cut b l (i + 1))) = boundsOf f (readB b l) (makerB own (readB b l)) := by
    by_cases h10 : f = 10 ∨ f = 11
    · have := hin 9 (h9 h10)
      rcases h10 with rfl | rfl
      · simp only [bnd10, this]
      · simp only [bnd11, this]
    · by_cases h12 : f = 12
      · subst h12
        have : makerB own (cut b l (i + 1)) = makerB own (readB b l) := by
          unfold makerB
          cases own with
          | false => rfl
          | true => simp only [if_true]; exact hin 2 (h2 rfl rfl)
        rw [this, bnd12, bnd12]
      · unfold boundsOf
        rw [if_neg (show ¬f = 12 from h12), if_neg (show ¬f = 12 from h12), if_neg (show ¬f = 10 from fun e => h10 (.inl e)), if_neg (show ¬f = 10 from fun e => h10 (.inl e)), if_neg (show ¬f = 11 from fun e => h10 (.inr e)), if_neg (show ¬f = 11 from fun e => h10 (.inr e))]
  unfold mayB
  rw [hb, hself]

/-- What pick answers. -/
def PickPost (w : World) (b : List UInt8) (l : List Nat) (own : Bool) (e : Ending) (w' : World) : Prop := match badI b l own with
  | none => e = .returned (.tuple #[.agg (vals (readB b l)), .nilIface]) ∧ Below w.heap.size w w'
  | some j => ∃ g, e = .returned (.tuple #[.agg (vals fun _ => 0), faultV g]) ∧ NewFault w (posI l j : Nat) 63 g w'

theorem results_cell_tmp_row {fn : Func} {p u : Tmp} {ty : TypeId} (h : fn.results = #[.cell p ty, .tmp u]) (tmps : Array Value) (w : World) (g : Nat) (t : TypeId) (cs : Array Value) (fr : Nat × Nat) (d : TypeDesc)
    (hp : tmps.getD p undef = .pointer (some ⟨g, 0, none⟩)) (hg : w.heap[g]? = some (.cells cs t fr)) (hu : Tryd.prog.underlying ty = some d) (hd : (match d with | .struct _ | .array _ _ => true | _ => false) = true) (hi : (Tryd.prog.info? ty).map (·.size) = some cs.size)
    (x : Value) (hx : tmps.getD u undef = x) : (results fn tmps).run Tryd.prog w = .ok (.tuple #[.agg cs, x]) w := by
  rw [results_cell_tmp h, hp, hx]
  have hl : (loadVar ty ⟨g, 0, none⟩).run Tryd.prog w = .ok (.agg cs) w := run_loadVar_row w g t ty cs fr d hg hu (by cases d <;> simp_all) hi
  simp only [asAddr, Sem.run_pure, Result.andThen_ok, hl]
end Go.Proofs.YtoophonmonojcaaDoor

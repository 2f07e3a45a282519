/- Several texts laid as one, in this order: MsgArg, ItemSpec, ItemEnc. -/
import Derived.Test.YtoophonmonojcaaDoorGArg
import Derived.Test.YtoophonmonojcaaDoorWireOp
import Derived.Test.YtoophonmonojcaaDoorGSpec
import Derived.Test.YtoophonmonojcaaDoorGEnc
/- An argument that is a message or a log item (structs of numbers), opened for the walks. -/
namespace Go.Proofs.YtoophonmonojcaaDoor
open Go.ChangeShapes Go.WideShapes Go.ChangeAt Go.RowKit Go.Deep
set_option maxRecDepth 100000

theorem cellsOp : Tryd.prog.cellsOf 23 = 5 := by kernel_rfl
theorem cellsMsg : Tryd.prog.cellsOf 25 = 14 := by kernel_rfl
theorem cellsItem : Tryd.prog.cellsOf 39 = 8 := by kernel_rfl
theorem cellsInt : Tryd.prog.cellsOf 3 = 1 := by kernel_rfl

/-- One number out of a struct's cells. -/
theorem cut_int {H : Type} {enc : TypeId × Value → H} {w : World} {sp : Nat → Bool} {hd : Bool} {m : Nat} {t : TypeId} {k : IntKind} {cs : List Value} {y : Option (DataW H × List MemPlace)} (ht : Tryd.prog.underlying t = some (.int k)) (h : DataW.trod enc Tryd.prog w 0 sp hd m t cs = y) (hy : y.isSome = true) : ∃ z, cs = [.int k z] ∧ (Lit.int k z).wf = true := by
  obtain ⟨x, rfl⟩ := Option.isSome_iff_exists.1 hy
  obtain ⟨z, h1, _, h3⟩ := DataW.trod_int ht h
  exact ⟨z, h1, h3⟩

theorem op_cells {H : Type} {enc : TypeId × Value → H} {w : World} {sp : Nat → Bool} {hd : Bool} {n : Nat} {cs : List Value} {x : DataW H × List MemPlace} (h : DataW.trod enc Tryd.prog w 0 sp hd n 23 cs = some x) :
    ∃ o : O, cs = [.int .i64 o.k, .int .i64 o.p, .int .u8 o.ch, .int .i64 o.cl, .int .i64 o.s] ∧ o.ok := by
  obtain ⟨xs, m, _, _, hl, hxl, hf⟩ := DataW.trod_struct Tryd.underlying23 h
  rw [cellsOp] at hl
  match cs, hl with
  | [a, b, c, d, e], _ =>
    obtain ⟨k, h1, w1⟩ := cut_int Tryd.underlying3 (hf 0 _ rfl) (by simp [hxl])
    obtain ⟨p, h2, w2⟩ := cut_int Tryd.underlying3 (hf 1 _ rfl) (by simp [hxl])
    obtain ⟨ch, h3, w3⟩ := cut_int Tryd.underlying5 (hf 2 _ rfl) (by simp [hxl])
    obtain ⟨cl, h4, w4⟩ := cut_int Tryd.underlying3 (hf 3 _ rfl) (by simp [hxl])
    obtain ⟨s, h5, w5⟩ := cut_int Tryd.underlying3 (hf 4 _ rfl) (by simp [hxl])
    simp [cellsInt, cellsU8] at h1 h2 h3 h4 h5
    subst h1 h2 h3 h4 h5
    exact ⟨⟨k, p, ch, cl, s⟩, rfl, bounds_i64 w1, bounds_i64 w2, bounds_u8 w3, bounds_i64 w4, bounds_i64 w5⟩

theorem msg_cells {H : Type} {enc : TypeId × Value → H} {w : World} {sp : Nat → Bool} {hd : Bool} {n : Nat} {cs : List Value} {x : DataW H × List MemPlace} (h : DataW.trod enc Tryd.prog w 0 sp hd n 25 cs = some x) :
    ∃ m : M, Value.agg cs.toArray = m.v ∧ m.ok := by
  obtain ⟨xs, mm, _, _, hl, hxl, hf⟩ := DataW.trod_struct Tryd.underlying25 h
  rw [cellsMsg] at hl
  match cs, hl with
  | [a, b, c, d, e, f, g, i, j, o1, o2, o3, o4, o5], _ =>
    obtain ⟨k, h1, w1⟩ := cut_int Tryd.underlying3 (hf 0 _ rfl) (by simp [hxl])
    obtain ⟨ep, h2, w2⟩ := cut_int Tryd.underlying3 (hf 1 _ rfl) (by simp [hxl])
    obtain ⟨cl, h3, w3⟩ := cut_int Tryd.underlying3 (hf 2 _ rfl) (by simp [hxl])
    obtain ⟨ha, h4, w4⟩ := cut_int Tryd.underlying3 (hf 3 _ rfl) (by simp [hxl])
    obtain ⟨fi, h5, w5⟩ := cut_int Tryd.underlying3 (hf 4 _ rfl) (by simp [hxl])
    obtain ⟨nu, h6, w6⟩ := cut_int Tryd.underlying3 (hf 5 _ rfl) (by simp [hxl])
    obtain ⟨ac, h7, w7⟩ := cut_int Tryd.underlying3 (hf 6 _ rfl) (by simp [hxl])
    obtain ⟨re, h8, w8⟩ := cut_int Tryd.underlying3 (hf 7 _ rfl) (by simp [hxl])
    obtain ⟨ta, h9, w9⟩ := cut_int Tryd.underlying3 (hf 8 _ rfl) (by simp [hxl])
    have ho := hf 9 _ rfl
    have hx9 : (xs[9]?).isSome = true := by simp [hxl]
    obtain ⟨y, hy⟩ := Option.isSome_iff_exists.1 hx9
    rw [hy] at ho
    obtain ⟨o, h10, w10⟩ := op_cells ho
    simp [cellsInt, cellsOp] at h1 h2 h3 h4 h5 h6 h7 h8 h9 h10
    obtain ⟨q1, q2, q3, q4, q5⟩ := h10
    subst h1 h2 h3 h4 h5 h6 h7 h8 h9 q1 q2 q3 q4 q5
    exact ⟨⟨k, ep, cl, ha, fi, nu, ac, re, ta, o⟩, rfl, bounds_i64 w1, bounds_i64 w2, bounds_i64 w3, bounds_i64 w4, bounds_i64 w5, bounds_i64 w6, bounds_i64 w7, bounds_i64 w8, bounds_i64 w9, w10⟩

theorem msg_open {H : Type} {enc : TypeId × Value → H} {W : World} {base : Nat} {v : Value} {d : DataW H} {p : List MemPlace} (h : DataW.Trod enc Tryd.prog W 0 (fun _ => true) true 25 v d p) (hv : Value.okWide Tryd.prog W .any base 25 v) :
    ∃ m : M, v = m.v ∧ m.ok := by
  obtain ⟨fuel, hf⟩ := h
  obtain ⟨m, hm, ho⟩ := msg_cells hf
  refine ⟨m, ?_, ho⟩
  rw [← hm]
  simp only [Value.okWide, Tryd.underlying25] at hv
  obtain ⟨cs, rfl, _⟩ := hv
  simp [Value.cells]

/-- A log item's numbers. -/
structure It where (k e t : Int) (op : O)
def It.ok (x : It) : Prop := i64 x.k ∧ i64 x.e ∧ i64 x.t ∧ x.op.ok
def It.cells (x : It) : List Value := [.int .i64 x.k, .int .i64 x.e, .int .i64 x.t, .int .i64 x.op.k, .int .i64 x.op.p, .int .u8 x.op.ch, .int .i64 x.op.cl, .int .i64 x.op.s]
def It.v (x : It) : Value := .agg x.cells.toArray
theorem item_cells {H : Type} {enc : TypeId × Value → H} {w : World} {sp : Nat → Bool} {hd : Bool} {n : Nat} {cs : List Value} {x : DataW H × List MemPlace} (h : DataW.trod enc Tryd.prog w 0 sp hd n 39 cs = some x) :
    ∃ m : It, cs = m.cells ∧ m.ok := by
  obtain ⟨xs, mm, _, _, hl, hxl, hf⟩ := DataW.trod_struct Tryd.underlying39 h
  rw [cellsItem] at hl
  match cs, hl with
  | [a, b, c, o1, o2, o3, o4, o5], _ =>
    obtain ⟨k, h1, w1⟩ := cut_int Tryd.underlying3 (hf 0 _ rfl) (by simp [hxl])
    obtain ⟨ep, h2, w2⟩ := cut_int Tryd.underlying3 (hf 1 _ rfl) (by simp [hxl])
    obtain ⟨ta, h3, w3⟩ := cut_int Tryd.underlying3 (hf 2 _ rfl) (by simp [hxl])
    have ho := hf 3 _ rfl
    have hx9 : (xs[3]?).isSome = true := by simp [hxl]
    obtain ⟨y, hy⟩ := Option.isSome_iff_exists.1 hx9
    rw [hy] at ho
    obtain ⟨o, h10, w10⟩ := op_cells ho
    simp [cellsInt, cellsOp] at h1 h2 h3 h10
    obtain ⟨q1, q2, q3, q4, q5⟩ := h10
    subst h1 h2 h3 q1 q2 q3 q4 q5
    exact ⟨⟨k, ep, ta, o⟩, rfl, bounds_i64 w1, bounds_i64 w2, bounds_i64 w3, w10⟩
theorem item_open {H : Type} {enc : TypeId × Value → H} {W : World} {base : Nat} {v : Value} {d : DataW H} {p : List MemPlace} (h : DataW.Trod enc Tryd.prog W 0 (fun _ => true) true 39 v d p) (hv : Value.okWide Tryd.prog W .any base 39 v) :
    ∃ m : It, v = m.v ∧ m.ok := by
  obtain ⟨fuel, hf⟩ := h
  obtain ⟨m, hm, ho⟩ := item_cells hf
  refine ⟨m, ?_, ho⟩
  rw [It.v, ← hm]
  simp only [Value.okWide, Tryd.underlying39] at hv
  obtain ⟨cs, rfl, _⟩ := hv
  simp [Value.cells]
end Go.Proofs.YtoophonmonojcaaDoor

/- What wire's EncodeItem and DecodeItem answer, as plain Lean. -/
namespace Go.Proofs.YtoophonmonojcaaDoor
open Go.RowKit

def shapeI (k : Nat) : List Nat := match k with
  | 1 => [1] | 2 => [8, 9, 10, 11, 12, 13] | _ => []
def fieldsI : List Nat := [1, 8, 9, 10, 11, 12, 13]
/-- An item's numbers as a message's. -/
def It.m (x : It) : M := ⟨x.k, x.e, 0, 0, 0, 0, 0, 0, x.t, x.op⟩
def It.fine (x : It) : Prop := (x.k = 1 ∧ 1 ≤ x.e ∧ x.e ≤ 255 ∧ x.t = 0 ∧ x.op = zeroO) ∨ (x.k = 2 ∧ x.e = 0 ∧ 0 ≤ x.t ∧ x.t ≤ 4096 ∧ x.op.fine)
/-- One that may be, out of any numbers. -/
def itemOf (x : It) : It := if within x.k 1 2 = 1 then ⟨1, within x.e 1 255, 0, zeroO⟩ else ⟨2, 0, within x.t 0 4096, operate x.op⟩
theorem itemOf_fine (x : It) : (itemOf x).fine := by
  unfold itemOf
  split
  · exact .inl ⟨rfl, within_ge _ _ _ (by omega), within_le _ _ _ (by omega), rfl, rfl⟩
  · exact .inr ⟨rfl, rfl, within_ge _ _ _ (by omega), within_le _ _ _ (by omega), operate_fine _⟩
theorem itemOf_of {x : It} (h : x.fine) : itemOf x = x := by
  obtain ⟨k, e, t, o⟩ := x
  unfold itemOf
  rcases h with ⟨rfl, h1, h2, rfl, rfl⟩ | ⟨rfl, rfl, h1, h2, h3⟩
  · rw [if_pos (show within 1 1 2 = 1 by decide), within_of h1 h2]
  · rw [if_neg (show ¬within 2 1 2 = 1 by decide), within_of h1 h2, operate_of h3]
def GoodI (k : Nat) (x : It) : Prop := ∀ f ∈ fieldsI, badAt (shapeI k) x.m.at 0 f = false
theorem all7 {P : Nat → Prop} : (∀ f ∈ fieldsI, P f) ↔ P 1 ∧ P 8 ∧ P 9 ∧ P 10 ∧ P 11 ∧ P 12 ∧ P 13 := by simp [fieldsI]
theorem goodI_fine (k : Nat) (x : It) (hk : x.k = k) (h1 : 1 ≤ k) (h2 : k ≤ 2) : GoodI k x ↔ x.fine := by
  obtain ⟨mk, e, t, ⟨ok, op, oc, ol, os⟩⟩ := x
  dsimp only at hk
  subst hk
  unfold GoodI
  rw [all7]
  have hc : k = 1 ∨ k = 2 := by omega
  rcases hc with rfl | rfl
  · rw [badAt_in (by decide), badAt_out (by decide), badAt_out (by decide), badAt_out (by decide), badAt_out (by decide), badAt_out (by decide), badAt_out (by decide)]
    simp only [bnd1, M.at, It.m, It.fine, zeroO, O.mk.injEq]
    omega
  · rw [badAt_out (by decide), badAt_in (by decide), badAt_in (by decide), badAt_in (by decide), badAt_in (by decide), badAt_in (by decide), badAt_in (by decide)]
    simp only [bnd8, bnd9, bnd10, bnd11, bnd12, bnd13, M.at, It.m, It.fine, O.fine, zeroO, O.mk.injEq]
    by_cases k0 : ok = 0 <;> by_cases k1 : ok = 1 <;> simp [k0, k1] <;> omega
theorem fineI_range {x : It} (h : x.fine) (k : Nat) (hk : x.k = k) : ∀ f ∈ shapeI k, 1 ≤ f ∧ f < 14 ∧ 0 ≤ x.m.at f ∧ x.m.at f ≤ 65535 := by
  obtain ⟨mk, e, t, ⟨ok, op, oc, ol, os⟩⟩ := x
  dsimp only at hk
  subst hk
  simp only [It.fine, O.fine] at h
  have hc : k = 1 ∨ k = 2 := by omega
  rcases hc with rfl | rfl
  all_goals
    intro f hf
    simp only [shapeI, List.mem_cons, List.not_mem_nil, or_false] at hf
    first
    | (rcases hf with rfl | rfl | rfl | rfl | rfl | rfl <;> simp only [M.at, It.m] <;> omega)
    | (subst hf; simp only [M.at, It.m]; omega)
/-- An item's payload. -/
def encI (x : It) : List UInt8 := layB x.m.at (shapeI x.k.toNat)

theorem list2 {α} (l : List α) (h : l.length = 2) : ∃ a b, l = [a, b] := by
  match l, h with | [a, b], _ => exact ⟨a, b, rfl⟩
theorem list9 {α} (l : List α) (h : l.length = 9) : ∃ a b c d e f g i j, l = [a, b, c, d, e, f, g, i, j] := by
  match l, h with | [a, b, c, d, e, f, g, i, j], _ => exact ⟨a, b, c, d, e, f, g, i, j, rfl⟩
theorem layI_read (i : List UInt8) (k : Nat) (h1 : 1 ≤ k) (h6 : k ≤ 2) (hl : i.length = longOf (shapeI k)) : layB (readB i (shapeI k)) (shapeI k) = i := by
  have hc : k = 1 ∨ k = 2 := by omega
  rcases hc with rfl | rfl
  · obtain ⟨a, b, rfl⟩ := list2 i hl
    simp [layB, shapeI, fieldB, sizeL, readB, posI, u8_of, u8_num1]
  · obtain ⟨a, b, c, d, e, f, g, i', j, rfl⟩ := list9 i hl
    simp [layB, shapeI, fieldB, sizeL, readB, posI, u8_of, u8_num1, u8_num2l, u8_num2h, List.idxOf_cons]
theorem layI_length (v : Nat → Int) (k : Nat) (h1 : 1 ≤ k) (h6 : k ≤ 2) : (layB v (shapeI k)).length = longOf (shapeI k) := by
  have hc : k = 1 ∨ k = 2 := by omega
  rcases hc with rfl | rfl <;> rfl
theorem readI_lay {x : It} (h : x.fine) (k : Nat) (hk : x.k = k) : ∀ f, f < 14 → readB (layB x.m.at (shapeI k)) (shapeI k) f = x.m.at f := by
  obtain ⟨mk, e, t, ⟨ok, op, oc, ol, os⟩⟩ := x
  dsimp only at hk
  subst hk
  simp only [It.fine, O.fine, zeroO, O.mk.injEq] at h
  have hc : k = 1 ∨ k = 2 := by omega
  rcases hc with rfl | rfl
  all_goals
    apply all14
    all_goals
      simp [layB, shapeI, fieldB, sizeL, readB, posI, List.idxOf_cons, M.at, It.m]
      first
      | omega
      | (rw [num_u8 _ (by omega) (by omega)])
      | (rw [num_u16 _ (by omega) (by omega)])
      | (rw [u8_toNat]; omega)
      | skip
def It.of (v : Nat → Int) : It := ⟨v 0, v 1, v 8, ⟨v 9, v 10, v 11, v 12, v 13⟩⟩
theorem It.of_at (x : It) : It.of x.m.at = x := rfl
/-- What DecodeItem answers. -/
def itemDec (i : List UInt8) : (Int × Int) ⊕ It :=
  if i = [] then .inl (62, 0) else
  let k := (i.getD 0 0).toNat
  if k < 1 ∨ 2 < k then .inl (61, 0) else
  if i.length ≠ longOf (shapeI k) then .inl (62, i.length) else
  match badI i (shapeI k) false with
  | some j => .inl (63, posI (shapeI k) j)
  | none => .inr (It.of (readB i (shapeI k)))
theorem shapeI_in (k : Nat) : ∀ f ∈ shapeI k, f ∈ fieldsI := by
  intro f hf
  unfold shapeI at hf
  split at hf <;> simp at hf <;> simp [fieldsI] <;> omega
theorem fieldsI_lt : ∀ f ∈ fieldsI, 1 ≤ f ∧ f < 14 := by decide
theorem It.at_of (v : Nat → Int) (f : Nat) (h : f ∈ fieldsI) : (It.of v).m.at f = v f := by
  simp [fieldsI] at h
  rcases h with rfl | rfl | rfl | rfl | rfl | rfl | rfl <;> rfl
theorem may_congrI (f : Nat) (v v' : Nat → Int) (a : Int) (hf : f ∈ fieldsI) (h : ∀ f ∈ fieldsI, v f = v' f) : mayB f v a = mayB f v' a := by
  unfold mayB boundsOf
  rw [h f hf, h 9 (by decide)]
theorem badI_goodI (b : List UInt8) (k : Nat) (hk : (b.getD 0 0).toNat = k) (h1 : 1 ≤ k) (h6 : k ≤ 2) : badI b (shapeI k) false = none ↔ (It.of (readB b (shapeI k))).fine := by
  have hm : (It.of (readB b (shapeI k))).k = k := by show readB b (shapeI k) 0 = _; unfold readB; rw [if_pos rfl, hk]
  rw [badI_none, ← goodI_fine k _ hm h1 h6]
  unfold GoodI
  constructor
  · intro h f hI
    by_cases hf : f ∈ shapeI k
    · rw [badAt_in hf, ← may_nat]
      rw [may_congrI f _ (readB b (shapeI k)) _ hI (fun f h => It.at_of _ f h)]
      exact h f hf
    · rw [badAt_out hf, It.at_of _ f hI]
      unfold readB
      rw [if_neg (by have := fieldsI_lt f hI; omega), if_neg hf]
  · intro h f hf
    have := h f (shapeI_in k f hf)
    rw [badAt_in hf, ← may_nat] at this
    rw [may_congrI f _ (readB b (shapeI k)) _ (shapeI_in k f hf) (fun f h => It.at_of _ f h)] at this
    exact this
theorem fineI_kind {x : It} (h : x.fine) : ∃ k : Nat, x.k = k ∧ x.k.toNat = k ∧ 1 ≤ k ∧ k ≤ 2 := by
  rcases h with ⟨h, _⟩ | ⟨h, _⟩ <;> rw [h]
  · exact ⟨1, rfl, rfl, by omega, by omega⟩
  · exact ⟨2, rfl, rfl, by omega, by omega⟩
theorem itemDec_enc {x : It} (h : x.fine) : itemDec (encI x) = .inr x := by
  obtain ⟨k, hk, e, h1, h6⟩ := fineI_kind h
  unfold encI
  rw [e]
  have hb0 : ((layB x.m.at (shapeI k)).getD 0 0).toNat = k := by
    show (u8 x.k).toNat = k
    have := u8_toNat x.k
    omega
  have hr := readI_lay h k hk
  have hof : It.of (readB (layB x.m.at (shapeI k)) (shapeI k)) = x := by
    unfold It.of
    rw [hr 0 (by omega), hr 1 (by omega), hr 8 (by omega), hr 9 (by omega), hr 10 (by omega), hr 11 (by omega), hr 12 (by omega), hr 13 (by omega)]
    rfl
  unfold itemDec
  rw [if_neg (by unfold layB; simp)]
  dsimp only
  rw [hb0, if_neg (by omega), if_neg (by rw [layI_length _ k h1 h6]; simp)]
  rw [(badI_goodI _ k hb0 h1 h6).2 (by rw [hof]; exact h)]
  dsimp only
  rw [hof]
theorem layB_congr {l : List Nat} {v v' : Nat → Int} (h0 : v 0 = v' 0) (h : ∀ f ∈ l, v f = v' f) : layB v l = layB v' l := by
  unfold layB
  rw [h0]
  congr 1
  induction l with
  | nil => rfl
  | cons f t ih =>
    rw [List.flatMap_cons, List.flatMap_cons, ih (fun g hg => h g (by simp [hg]))]
    congr 1
    unfold fieldB
    rw [h f (by simp)]
theorem itemDec_ok {i : List UInt8} {x : It} (h : itemDec i = .inr x) : x.fine ∧ encI x = i := by
  unfold itemDec at h
  split at h
  · cases h
  dsimp only at h
  split at h
  · cases h
  split at h
  · cases h
  rename_i h0 h1 h2
  obtain ⟨k, hk⟩ : ∃ k, (i.getD 0 0).toNat = k := ⟨_, rfl⟩
  rw [hk] at h h1 h2
  split at h
  · cases h
  · rename_i hn
    cases h
    refine ⟨(badI_goodI i k hk (by omega) (by omega)).1 hn, ?_⟩
    have hkk : (It.of (readB i (shapeI k))).k.toNat = k := by
      show (readB i (shapeI k) 0).toNat = k
      unfold readB; rw [if_pos rfl, hk]; rfl
    unfold encI
    rw [hkk]
    refine Eq.trans (layB_congr ?_ ?_) (layI_read i k (by omega) (by omega) (by omega))
    · rfl
    · intro f hf; exact It.at_of _ f (shapeI_in k f hf)
theorem itemDec_err {i : List UInt8} {c a : Int} (h : itemDec i = .inl (c, a)) : 61 ≤ c ∧ c ≤ 63 ∧ 0 ≤ a ∧ a ≤ i.length := by
  unfold itemDec at h
  split at h
  · cases h; simp
  dsimp only at h
  split at h
  · cases h; simp
  split at h
  · cases h; simp
  rename_i h0 h1 h2
  split at h
  · rename_i j _
    cases h
    have := posI_le (shapeI (i.getD 0 0).toNat) j
    omega
  · cases h
end Go.Proofs.YtoophonmonojcaaDoor

/- Contract of wire's EncodeItem. -/
namespace Go.Proofs.YtoophonmonojcaaDoor
open Go.RowKit

/-- wire.itemShapes holds the items' shapes; wire.itemFields the fields. -/
def ShapesI (w : World) : Prop := ∀ k, k < 3 → ∃ ao n cap, w.cell? ⟨1, k, none⟩ = some (.slice ao n cap) ∧ (shapeI k).length = n ∧ RdN w ao (shapeI k)
theorem ShapesI.step {w w' : World} (h : ShapesI w) (hb : Below w.heap.size w w') : ShapesI w' := by
  intro k hk
  obtain ⟨ao, n, cap, h1, h2, h3⟩ := h k hk
  exact ⟨ao, n, cap, (hb.cell (p := ⟨1, k, none⟩) (block_lt h1)).trans h1, h2, h3.keep hb⟩
def FieldsI (w : World) : Prop := ∀ j, j < 7 → w.cell? ⟨2, j, none⟩ = some (.int .i64 ((fieldsI.getD j 0 : Nat) : Int))
theorem FieldsI.step {w w' : World} (h : FieldsI w) (hb : Below w.heap.size w w') : FieldsI w' := fun j hj => (hb.cell (p := ⟨2, j, none⟩) (block_lt (h j hj))).trans (h j hj)
theorem infoI7 : (Tryd.prog.info? 3).map (·.size) = some 1 := by kernel_rfl
theorem run_index7 (cs : Array Value) (j : Nat) (v : Value) (w : World) (hj : j < 7) (hv : cs[j]? = some v) : (Instr.index 122 (.agg cs) (.int .i64 (j : Int))).run Tryd.prog w = .ok v w := by
  have hn : (0 : Int) ≤ (j : Int) ∧ (j : Int) < 7 := by omega
  have hp : (part 3 cs j).run Tryd.prog w = .ok v w := by simp [part, isAgg, run_underlying Tryd.underlying3, hv]
  cases hq : Tryd.prog.info? 3 with
  | none => have := infoI7; simp [hq] at this
  | some i =>
    have hs : i.size = 1 := by have := infoI7; simpa [hq] using this
    simp [Instr.index, run_underlying Tryd.underlying122, asIntOf, hn, sizeOf, typeInfo, hq, hs, hp]
    intro h; omega
theorem wpList_index7 {ops : Array Oper} {rest : List Oper} {o : Oper} {a : Act} {w : World} {Q : Exit → Act → World → Prop} (hgd : o.guard = none) (x y : Operand) (ho : o.op = .index 122 x y) (cs : Array Value) (j : Nat) (v : Value)
    (hx : a.eval x = .agg cs) (hy : a.eval y = .int .i64 (j : Int)) (hj : j < 7) (hv : cs[j]? = some v) (h : wpList Tryd.prog ops Q rest (a.put o.dst v) w) : wpList Tryd.prog ops Q (o :: rest) a w :=
  wpList_plain hgd fun _ hK => by
    unfold Oper.wp execOp
    simp only [ho, hx, hy, Sem.run_bind, run_index7 cs j v w hj hv, Result.andThen_ok]
    exact hK _ _ h
/-- What EncodeItem answers of an item of one of the two kinds. -/
def EncItemPost (w : World) (k : Nat) (x : It) (e : Ending) (w' : World) : Prop :=
  (GoodI k x ∧ ∃ g, e = .returned (.tuple #[.slice (some ⟨g, 0, none⟩) (encI x).length (encI x).length, .nilIface]) ∧ w.heap.size ≤ g ∧ Row w' g (encI x) ∧ Below w.heap.size w w') ∨
  (∃ j g : Nat, j < 7 ∧ (∀ q, q < j → badAt (shapeI k) x.m.at 0 (fieldsI.getD q 0) = false) ∧ badAt (shapeI k) x.m.at 0 (fieldsI.getD j 0) = true ∧ e = .returned (.tuple #[.slice none 0 0, faultV g]) ∧ NewFault w (j + 1 : Nat) 63 g w')
theorem shapeI_len (k : Nat) (h1 : 1 ≤ k) (h2 : k ≤ 2) : 1 ≤ (shapeI k).length ∧ (shapeI k).length ≤ 6 := by
  have hc : k = 1 ∨ k = 2 := by omega
  rcases hc with rfl | rfl <;> decide
abbrev ItemCells (w : World) (g : Nat) (k ep ta ok op oc ol os : Int) (kk : Nat) (sv : Value) : Prop := w.cell? ⟨g, 0, none⟩ = some (.int .i64 k) ∧ w.cell? ⟨g, 1, none⟩ = some (.int .i64 ep) ∧ w.cell? ⟨g, 2, none⟩ = some (.int .i64 ta) ∧ w.cell? ⟨g, 3, none⟩ = some (.int .i64 ok) ∧ w.cell? ⟨g, 4, none⟩ = some (.int .i64 op) ∧ w.cell? ⟨g, 5, none⟩ = some (.int .u8 oc) ∧ w.cell? ⟨g, 6, none⟩ = some (.int .i64 ol) ∧ w.cell? ⟨g, 7, none⟩ = some (.int .i64 os) ∧ w.cell? ⟨1, kk, none⟩ = some sv
theorem itemKeep {w : World} {g : Nat} {k ep ta ok op oc ol os : Int} {kk : Nat} {sv : Value} (h : ItemCells w g k ep ta ok op oc ol os kk sv) (X : Obj) : ItemCells (w.alloc X) g k ep ta ok op oc ol os kk sv := by
  obtain ⟨h0, h1, h2, h3, h4, h5, h6, h7, h8⟩ := h
  exact ⟨cell_alloc h0 X, cell_alloc h1 X, cell_alloc h2 X, cell_alloc h3 X, cell_alloc h4 X, cell_alloc h5 X, cell_alloc h6 X, cell_alloc h7 X, cell_alloc h8 X⟩
theorem itemDrew {w : World} {g : Nat} {k ep ta ok op oc ol os : Int} {kk : Nat} {sv : Value} (h : ItemCells w g k ep ta ok op oc ol os kk sv) : ItemCells w.drew g k ep ta ok op oc ol os kk sv := h
theorem itemSet {w : World} {g : Nat} {k ep ta ok op oc ol os : Int} {kk : Nat} {sv : Value} (h : ItemCells w g k ep ta ok op oc ol os kk sv) (b : Nat) (vs : List Value) (h1 : g ≠ b) (h2 : 1 ≠ b) : ItemCells (w.setCells b 0 vs) g k ep ta ok op oc ol os kk sv := by
  have e : ∀ (x : Nat) (hx : x ≠ b) (i : Nat) (v : Value), w.cell? ⟨x, i, none⟩ = some v → (w.setCells b 0 vs).cell? ⟨x, i, none⟩ = some v := fun x hx i v hv => (World.cell?_setCells_out b vs 0 w ⟨x, i, none⟩ (fun hb _ => absurd hb hx)).trans hv
  obtain ⟨q0, q1, q2, q3, q4, q5, q6, q7, q8⟩ := h
  exact ⟨e g h1 _ _ q0, e g h1 _ _ q1, e g h1 _ _ q2, e g h1 _ _ q3, e g h1 _ _ q4, e g h1 _ _ q5, e g h1 _ _ q6, e g h1 _ _ q7, e _ h2 _ _ q8⟩
theorem itemCells_of {w : World} {g : Nat} {k ep ta ok op oc ol os : Int} {kk : Nat} {sv : Value} (h : w.heap[g]? = some (.cells #[.int .i64 k, .int .i64 ep, .int .i64 ta, .int .i64 ok, .int .i64 op, .int .u8 oc, .int .i64 ol, .int .i64 os] 39 (0, 0))) (hs : w.cell? ⟨1, kk, none⟩ = some sv) : ItemCells w g k ep ta ok op oc ol os kk sv :=
  ⟨by simp [World.cell?, h], by simp [World.cell?, h], by simp [World.cell?, h], by simp [World.cell?, h], by simp [World.cell?, h], by simp [World.cell?, h], by simp [World.cell?, h], by simp [World.cell?, h], hs⟩

set_option maxRecDepth 100000 in
set_option maxHeartbeats 4000000 in
theorem encodeItem_core (k : Nat) (ep ta ok op oc ol os : Int) (w : World) (Q : Ending → World → Prop) (hQ : ∀ e w', EncItemPost w k (It.mk (k : Int) ep ta ⟨ok, op, oc, ol, os⟩) e w' → Q e w')
    (h1 : 1 ≤ k) (h6 : k ≤ 2) (ho : 0 ≤ oc ∧ oc ≤ 255) (hs : Sizes w) (hsh : ShapesI w) (hfi : FieldsI w) : Calls Tryd.prog 26 #[.agg #[.int .i64 (k : Int), .int .i64 ep, .int .i64 ta, .int .i64 ok, .int .i64 op, .int .u8 oc, .int .i64 ol, .int .i64 os]] w Q := by
  obtain ⟨ao, n, cap, hcell, hlen, hrd⟩ := hsh k (by omega)
  have hsl := shapeI_len k h1 h6
  rw [hlen] at hsl
  obtain ⟨b, off, rfl, -, -⟩ := hrd.some (by omega)
  have hn0 : 0 < n := by omega
  have hn14 : n ≤ 14 := by omega
  clear hsl
  have hflat : ∀ w, Calls Tryd.prog 75 #[.agg #[.int .i64 (k : Int), .int .i64 ep, .int .i64 0, .int .i64 0, .int .i64 0, .int .i64 0, .int .i64 0, .int .i64 0, .int .i64 ta, .int .i64 ok, .int .i64 op, .int .u8 oc, .int .i64 ol, .int .i64 os]] w (OpPost w (M.mk (k : Int) ep 0 0 0 0 0 0 ta ⟨ok, op, oc, ol, os⟩).flat) := fun w => flat_any (M.mk (k : Int) ep 0 0 0 0 0 0 ta ⟨ok, op, oc, ol, os⟩) w ho
  simp only [M.flat] at hflat
  have HFL := Lib.hid hflat
  have HQ := Lib.hid hQ
  have HO := Lib.hid ho; have HS := Lib.hid hs; have HL := Lib.hid hlen; have HR := Lib.hid hrd; have HFI := Lib.hid hfi
  clear ho hs hsh hlen hrd hflat hQ hfi
  have q1 : (1 : Int) ≤ (k : Int) := by omega
  have q2 : (k : Int) ≤ 2 := by omega
  have q0 : (0 : Int) ≤ (k : Int) := by omega
  have q7 : (k : Int) < 3 := by omega
  have hgl := block_lt hcell
  go_enter Tryd.func26, Tryd.ntmps26
  go_wp2_with fail
  have hcs : ItemCells (w.alloc (.cells #[.int .i64 (k : Int), .int .i64 ep, .int .i64 ta, .int .i64 ok, .int .i64 op, .int .u8 oc, .int .i64 ol, .int .i64 os] 39)) w.heap.size (k : Int) ep ta ok op oc ol os k (.slice (some ⟨b, off, none⟩) n cap) := itemCells_of (heap_alloc_new _ _) (cell_alloc hcell _)
  have hb0 : Below w.heap.size w (w.alloc (.cells #[.int .i64 (k : Int), .int .i64 ep, .int .i64 ta, .int .i64 ok, .int .i64 op, .int .u8 oc, .int .i64 ol, .int .i64 os] 39)) := (Below.refl _ w).alloc (Nat.le_refl _) _
  have hs0 : (w.alloc (.cells #[.int .i64 (k : Int), .int .i64 ep, .int .i64 ta, .int .i64 ok, .int .i64 op, .int .u8 oc, .int .i64 ol, .int .i64 os] 39)).heap.size = w.heap.size + 1 := by simp
  generalize w.alloc (.cells #[.int .i64 (k : Int), .int .i64 ep, .int .i64 ta, .int .i64 ok, .int .i64 op, .int .u8 oc, .int .i64 ol, .int .i64 os] 39) = w1 at hcs hb0 hs0 ⊢
  generalize hg : w.heap.size = g at hcs hs0 hb0 hgl ⊢
  have HB0 := Lib.hid hb0; have HG := Lib.hid hg
  clear hcell hb0 hg
  have hcd := itemDrew hcs
  have hcs2 := hcs
  obtain ⟨x0, x1, x2, x3, x4, x5, x6, x7, x8⟩ := hcs2
  have hone : ∀ v ∈ [Value.int .i64 (k : Int), Value.int .i64 ep, Value.int .i64 0, Value.int .i64 0, Value.int .i64 0, Value.int .i64 0, Value.int .i64 0, Value.int .i64 0, Value.int .i64 ta, Value.int .i64 ok, Value.int .i64 op, Value.int .i64 oc, Value.int .i64 ol, Value.int .i64 os], v.oneCell' = true := by simp [Value.oneCell']
  have hinfo : Option.map (fun x => x.size) (Tryd.prog.info? 114) = some [Value.int .i64 (k : Int), Value.int .i64 ep, Value.int .i64 0, Value.int .i64 0, Value.int .i64 0, Value.int .i64 0, Value.int .i64 0, Value.int .i64 0, Value.int .i64 ta, Value.int .i64 ok, Value.int .i64 op, Value.int .i64 oc, Value.int .i64 ol, Value.int .i64 os].length := by kernel_rfl
  have hth1 : ∀ D E : Obj, (((w1.alloc D).alloc E).alloc (.cells #[Value.int .i64 0, Value.int .i64 0, Value.int .i64 0, Value.int .i64 0, Value.int .i64 0, Value.int .i64 0, Value.int .i64 0, Value.int .i64 0, Value.int .i64 0, Value.int .i64 0, Value.int .i64 0, Value.int .i64 0, Value.int .i64 0, Value.int .i64 0] 114)).drew.there (w1.heap.size + 1 + 1) 0 [Value.int .i64 (k : Int), Value.int .i64 ep, Value.int .i64 0, Value.int .i64 0, Value.int .i64 0, Value.int .i64 0, Value.int .i64 0, Value.int .i64 0, Value.int .i64 ta, Value.int .i64 ok, Value.int .i64 op, Value.int .i64 oc, Value.int .i64 ol, Value.int .i64 os].length := fun D E => by
    have := there_new ((w1.alloc D).alloc E) #[Value.int .i64 0, Value.int .i64 0, Value.int .i64 0, Value.int .i64 0, Value.int .i64 0, Value.int .i64 0, Value.int .i64 0, Value.int .i64 0, Value.int .i64 0, Value.int .i64 0, Value.int .i64 0, Value.int .i64 0, Value.int .i64 0, Value.int .i64 0] 114 14 rfl
    have e : ((w1.alloc D).alloc E).heap.size = w1.heap.size + 1 + 1 := by simp
    rw [e] at this
    exact this
  have hth2 : ∀ D E : Obj, (((w1.alloc (.cells #[Value.int .i64 0, Value.int .i64 0, Value.int .i64 0, Value.int .i64 0, Value.int .i64 0, Value.int .i64 0, Value.int .i64 0, Value.int .i64 0, Value.int .i64 0, Value.int .i64 0, Value.int .i64 0, Value.int .i64 0, Value.int .i64 0, Value.int .i64 0] 114)).alloc D).alloc E).drew.there w1.heap.size 0 [Value.int .i64 (k : Int), Value.int .i64 ep, Value.int .i64 0, Value.int .i64 0, Value.int .i64 0, Value.int .i64 0, Value.int .i64 0, Value.int .i64 0, Value.int .i64 ta, Value.int .i64 ok, Value.int .i64 op, Value.int .i64 oc, Value.int .i64 ol, Value.int .i64 os].length := fun D E => there_keep (there_keep (there_new w1 #[Value.int .i64 0, Value.int .i64 0, Value.int .i64 0, Value.int .i64 0, Value.int .i64 0, Value.int .i64 0, Value.int .i64 0, Value.int .i64 0, Value.int .i64 0, Value.int .i64 0, Value.int .i64 0, Value.int .i64 0, Value.int .i64 0, Value.int .i64 0] 114 14 rfl) D) E
  have hn1 : g ≠ w1.heap.size := by omega
  have hn2 : g ≠ w1.heap.size + 1 + 1 := by omega
  have hn3 : 1 ≠ w1.heap.size := by omega
  have hn4 : 1 ≠ w1.heap.size + 1 + 1 := by omega
  have HT1 := Lib.hid hth1; have HT2 := Lib.hid hth2; have HS0 := Lib.hid hs0
  clear hth1 hth2 hs0 hgl
  go_cut [4, 5] from 17 to 30 (fun s t wx => ∃ gv, s = .pointer (some ⟨gv, 0, none⟩) ∧ t = .slice (some ⟨b, off, none⟩) n cap ∧ Hid (g + 1 ≤ gv ∧ wx.heap[gv]? = some (.cells #[.int .i64 (k : Int), .int .i64 ep, .int .i64 0, .int .i64 0, .int .i64 0, .int .i64 0, .int .i64 0, .int .i64 0, .int .i64 ta, .int .i64 ok, .int .i64 op, .int .i64 oc, .int .i64 ol, .int .i64 os] 114 (0, 0)) ∧ Below w1.heap.size w1 wx))
  case first =>
    go_region_held3 (fun w' => ItemCells w' g (k : Int) ep ta ok op oc ol os k (.slice (some ⟨b, off, none⟩) n cap)) (with_reducible first | exact hcs | exact hcd | exact itemKeep hcd _ | exact itemKeep (itemKeep hcd _) _ | exact itemKeep (itemKeep (itemKeep hcd _) _) _ | exact itemKeep hcs _ | exact itemKeep (itemKeep hcs _) _ | exact itemKeep (itemKeep (itemKeep hcs _) _) _ | exact itemDrew (itemKeep hcs _) | exact itemDrew (itemKeep (itemKeep hcs _) _) | exact itemDrew (itemKeep (itemKeep (itemKeep hcs _) _) _) | exact itemSet (itemDrew (itemKeep (itemKeep (itemKeep hcs _) _) _)) _ _ hn2 hn4 | exact itemSet (itemDrew (itemKeep (itemKeep (itemKeep hcs _) _) _)) _ _ hn1 hn3)
      (first
       | ((with_reducible refine (HFL.out _).mono ?_); rintro e w' ⟨rfl, D, E, rfl⟩; have ht1 := HT1.out D E; have ht2 := HT2.out D E))
    all_goals (go_wp2_with fail; go_meet)
    · exact ⟨_, rfl, rfl, by have := HS0.out; omega, encRegion1 D E rfl hone⟩
    · exact ⟨_, rfl, rfl, by have := HS0.out; omega, encRegion2 D E rfl hone⟩
  case rest =>
    obtain ⟨gv, rfl, rfl, hx⟩ := hcut
    obtain ⟨hgv, hheap, hbx⟩ := hx.out
    have HBX := Lib.hid ((HG.out ▸ HB0.out : Below w.heap.size w w1).trans (hbx.mono (HG.out ▸ HB0.out : Below w.heap.size w w1).size))
    obtain ⟨V, hV⟩ : ∃ V, V = (It.mk (k : Int) ep ta ⟨ok, op, oc, ol, os⟩).m.at := ⟨_, rfl⟩
    have HNU := Lib.hid (show Nums wc gv V by rw [hV]; exact nums_of (m := (M.mk (k : Int) ep 0 0 0 0 0 0 ta ⟨ok, op, oc, ol, os⟩)) hheap)
    have HV0 := Lib.hid (show V 0 = (k : Int) by rw [hV]; rfl)
    have HV := Lib.hid hV
    have HRX := Lib.hid (HR.out.keep HBX.out)
    have HSX := Lib.hid (HS.out.step HBX.out)
    have hfx := HFI.out.step HBX.out
    have f0 := hfx 0 (by omega); have f1 := hfx 1 (by omega); have f2 := hfx 2 (by omega); have f3 := hfx 3 (by omega); have f4 := hfx 4 (by omega); have f5 := hfx 5 (by omega); have f6 := hfx 6 (by omega)
    simp only [fieldsI, List.getD_cons_zero, List.getD_cons_succ] at f0 f1 f2 f3 f4 f5 f6
    clear hx hgv hheap hbx hV x0 x1 x2 x3 x4 x5 x6 x7 x8 hcs hcd hone hinfo hn1 hn2 hn3 hn4 hfx
    go_wp2_with fail
    go_loopw [6, 7, 32] (fun _ _ x wr => ∃ j : Nat, j ≤ 7 ∧ x = .int .i64 j ∧ wr = wc ∧ Hid (∀ q, q < j → badAt (shapeI k) V 0 (fieldsI.getD q 0) = false)) (fun _ _ x _ => 7 - (intOf x).toNat)
    case atStart => exact ⟨0, by omega, rfl, rfl, fun q hq => by omega⟩
    case round =>
      obtain ⟨j, hj7, rfl, rfl, hgood⟩ := hrel
      by_cases hlt : j < 7
      · have hc : j = 0 ∨ j = 1 ∨ j = 2 ∨ j = 3 ∨ j = 4 ∨ j = 5 ∨ j = 6 := by omega
        rcases hc with rfl | rfl | rfl | rfl | rfl | rfl | rfl
        · have hcell := HNU.out 1 (by omega)
          have hcl := block_lt hcell
          by_cases hm : 1 ∈ shapeI k
          · have HM := Lib.hid hm
            have hdec : decide (1 ∈ shapeI k) = true := by simp [hm]
            clear hm
            by_cases hmay : mayB 1 V 0 = true
            · have HMY := Lib.hid hmay
              go_wp2_with (first
                | (with_reducible refine wpList_index7 rfl (.tmp 31) (.tmp 32) rfl #[.int .i64 1, .int .i64 8, .int .i64 9, .int .i64 10, .int .i64 11, .int .i64 12, .int .i64 13] 0 (.int .i64 1) rfl rfl (by omega) rfl ?_)
                | (go_at_call 76; refine (named_any (some ⟨b, off, none⟩) n cap (shapeI k) 1 _ HL.out HRX.out (by omega)).mono ?_; rintro e w' ⟨rfl, rfl⟩; rw [hdec])
                | (go_at_call 77; refine (may_any 1 gv V 0 _ (by omega) (by omega) HNU.out).mono ?_; rintro e w' ⟨rfl, rfl⟩; rw [hmay]))
              go_roundw
              case rel =>
                refine ⟨1, by omega, rfl, trivial, ?_⟩
                intro q hq
                rcases Nat.lt_or_ge q 0 with h | h
                · exact hgood.out q h
                · obtain rfl : q = 0 := by omega
                  show badAt (shapeI k) V 0 1 = false
                  unfold badAt
                  rw [if_pos HM.out, HMY.out]; rfl
              case measure => simp [intOf]
            · have hmay2 : mayB 1 V 0 = false := by simpa using hmay
              clear hmay
              go_wp2_with (first
                | (with_reducible refine wpList_index7 rfl (.tmp 31) (.tmp 32) rfl #[.int .i64 1, .int .i64 8, .int .i64 9, .int .i64 10, .int .i64 11, .int .i64 12, .int .i64 13] 0 (.int .i64 1) rfl rfl (by omega) rfl ?_)
                | (go_at_call 76; refine (named_any (some ⟨b, off, none⟩) n cap (shapeI k) 1 _ HL.out HRX.out (by omega)).mono ?_; rintro e w' ⟨rfl, rfl⟩; rw [hdec])
                | (go_at_call 77; refine (may_any 1 gv V 0 _ (by omega) (by omega) HNU.out).mono ?_; rintro e w' ⟨rfl, rfl⟩; rw [hmay2])
                | (go_at_call 74; refine (wrap_any _ _ _).mono ?_; rintro e w' ⟨rfl, rfl⟩))
              refine HQ.out _ _ (.inr ⟨0, _, by omega, ?_, ?_, rfl, (newFault_alloc _ _ _).after HBX.out⟩)
              · rw [← HV.out]; exact hgood.out
              · rw [← HV.out]
                show badAt (shapeI k) V 0 1 = true
                unfold badAt
                rw [if_pos HM.out, hmay2]; rfl
          · have HM := Lib.hid hm
            have hdec : decide (1 ∈ shapeI k) = false := by simp [hm]
            clear hm
            by_cases hz : V 1 = 0
            · have hd : (V 1 != 0) = false := by simp [hz]
              have HZ := Lib.hid hz
              clear hz
              go_wp2_with (first | (with_reducible refine wpList_index7 rfl (.tmp 31) (.tmp 32) rfl #[.int .i64 1, .int .i64 8, .int .i64 9, .int .i64 10, .int .i64 11, .int .i64 12, .int .i64 13] 0 (.int .i64 1) rfl rfl (by omega) rfl ?_) | (go_at_call 76; refine (named_any (some ⟨b, off, none⟩) n cap (shapeI k) 1 _ HL.out HRX.out (by omega)).mono ?_; rintro e w' ⟨rfl, rfl⟩; rw [hdec]))
              go_roundw
              case rel =>
                refine ⟨1, by omega, rfl, trivial, ?_⟩
                intro q hq
                rcases Nat.lt_or_ge q 0 with h | h
                · exact hgood.out q h
                · obtain rfl : q = 0 := by omega
                  exact (badAt_out HM.out).2 HZ.out
              case measure => simp [intOf]
            · have hd : (V 1 != 0) = true := by simp [hz]
              have HZ := Lib.hid hz
              clear hz
              go_wp2_with (first
                | (with_reducible refine wpList_index7 rfl (.tmp 31) (.tmp 32) rfl #[.int .i64 1, .int .i64 8, .int .i64 9, .int .i64 10, .int .i64 11, .int .i64 12, .int .i64 13] 0 (.int .i64 1) rfl rfl (by omega) rfl ?_)
                | (go_at_call 76; refine (named_any (some ⟨b, off, none⟩) n cap (shapeI k) 1 _ HL.out HRX.out (by omega)).mono ?_; rintro e w' ⟨rfl, rfl⟩; rw [hdec])
                | (go_at_call 74; refine (wrap_any _ _ _).mono ?_; rintro e w' ⟨rfl, rfl⟩))
              refine HQ.out _ _ (.inr ⟨0, _, by omega, ?_, ?_, rfl, (newFault_alloc _ _ _).after HBX.out⟩)
              · rw [← HV.out]; exact hgood.out
              · rw [← HV.out]
                show badAt (shapeI k) V 0 1 = true
                unfold badAt
                rw [if_neg HM.out, hd]
        · have hcell := HNU.out 8 (by omega)
          have hcl := block_lt hcell
          by_cases hm : 8 ∈ shapeI k
          · have HM := Lib.hid hm
            have hdec : decide (8 ∈ shapeI k) = true := by simp [hm]
            clear hm
            by_cases hmay : mayB 8 V 0 = true
            · have HMY := Lib.hid hmay
              go_wp2_with (first
                | (with_reducible refine wpList_index7 rfl (.tmp 31) (.tmp 32) rfl #[.int .i64 1, .int .i64 8, .int .i64 9, .int .i64 10, .int .i64 11, .int .i64 12, .int .i64 13] 1 (.int .i64 8) rfl rfl (by omega) rfl ?_)
                | (go_at_call 76; refine (named_any (some ⟨b, off, none⟩) n cap (shapeI k) 8 _ HL.out HRX.out (by omega)).mono ?_; rintro e w' ⟨rfl, rfl⟩; rw [hdec])
                | (go_at_call 77; refine (may_any 8 gv V 0 _ (by omega) (by omega) HNU.out).mono ?_; rintro e w' ⟨rfl, rfl⟩; rw [hmay]))
              go_roundw
              case rel =>
                refine ⟨2, by omega, rfl, trivial, ?_⟩
                intro q hq
                rcases Nat.lt_or_ge q 1 with h | h
                · exact hgood.out q h
                · obtain rfl : q = 1 := by omega
                  show badAt (shapeI k) V 0 8 = false
                  unfold badAt
                  rw [if_pos HM.out, HMY.out]; rfl
              case measure => simp [intOf]
            · have hmay2 : mayB 8 V 0 = false := by simpa using hmay
              clear hmay
              go_wp2_with (first
                | (with_reducible refine wpList_index7 rfl (.tmp 31) (.tmp 32) rfl #[.int .i64 1, .int .i64 8, .int .i64 9, .int .i64 10, .int .i64 11, .int .i64 12, .int .i64 13] 1 (.int .i64 8) rfl rfl (by omega) rfl ?_)
                | (go_at_call 76; refine (named_any (some ⟨b, off, none⟩) n cap (shapeI k) 8 _ HL.out HRX.out (by omega)).mono ?_; rintro e w' ⟨rfl, rfl⟩; rw [hdec])
                | (go_at_call 77; refine (may_any 8 gv V 0 _ (by omega) (by omega) HNU.out).mono ?_; rintro e w' ⟨rfl, rfl⟩; rw [hmay2])
                | (go_at_call 74; refine (wrap_any _ _ _).mono ?_; rintro e w' ⟨rfl, rfl⟩))
              refine HQ.out _ _ (.inr ⟨1, _, by omega, ?_, ?_, rfl, (newFault_alloc _ _ _).after HBX.out⟩)
              · rw [← HV.out]; exact hgood.out
              · rw [← HV.out]
                show badAt (shapeI k) V 0 8 = true
                unfold badAt
                rw [if_pos HM.out, hmay2]; rfl
          · have HM := Lib.hid hm
            have hdec : decide (8 ∈ shapeI k) = false := by simp [hm]
            clear hm
            by_cases hz : V 8 = 0
            · have hd : (V 8 != 0) = false := by simp [hz]
              have HZ := Lib.hid hz
              clear hz
              go_wp2_with (first | (with_reducible refine wpList_index7 rfl (.tmp 31) (.tmp 32) rfl #[.int .i64 1, .int .i64 8, .int .i64 9, .int .i64 10, .int .i64 11, .int .i64 12, .int .i64 13] 1 (.int .i64 8) rfl rfl (by omega) rfl ?_) | (go_at_call 76; refine (named_any (some ⟨b, off, none⟩) n cap (shapeI k) 8 _ HL.out HRX.out (by omega)).mono ?_; rintro e w' ⟨rfl, rfl⟩; rw [hdec]))
              go_roundw
              case rel =>
                refine ⟨2, by omega, rfl, trivial, ?_⟩
                intro q hq
                rcases Nat.lt_or_ge q 1 with h | h
                · exact hgood.out q h
                · obtain rfl : q = 1 := by omega
                  exact (badAt_out HM.out).2 HZ.out
              case measure => simp [intOf]
            · have hd : (V 8 != 0) = true := by simp [hz]
              have HZ := Lib.hid hz
              clear hz
              go_wp2_with (first
                | (with_reducible refine wpList_index7 rfl (.tmp 31) (.tmp 32) rfl #[.int .i64 1, .int .i64 8, .int .i64 9, .int .i64 10, .int .i64 11, .int .i64 12, .int .i64 13] 1 (.int .i64 8) rfl rfl (by omega) rfl ?_)
                | (go_at_call 76; refine (named_any (some ⟨b, off, none⟩) n cap (shapeI k) 8 _ HL.out HRX.out (by omega)).mono ?_; rintro e w' ⟨rfl, rfl⟩; rw [hdec])
                | (go_at_call 74; refine (wrap_any _ _ _).mono ?_; rintro e w' ⟨rfl, rfl⟩))
              refine HQ.out _ _ (.inr ⟨1, _, by omega, ?_, ?_, rfl, (newFault_alloc _ _ _).after HBX.out⟩)
              · rw [← HV.out]; exact hgood.out
              · rw [← HV.out]
                show badAt (shapeI k) V 0 8 = true
                unfold badAt
                rw [if_neg HM.out, hd]
        · have hcell := HNU.out 9 (by omega)
          have hcl := block_lt hcell
          by_cases hm : 9 ∈ shapeI k
          · have HM := Lib.hid hm
            have hdec : decide (9 ∈ shapeI k) = true := by simp [hm]
            clear hm
            by_cases hmay : mayB 9 V 0 = true
            · have HMY := Lib.hid hmay
              go_wp2_with (first
                | (with_reducible refine wpList_index7 rfl (.tmp 31) (.tmp 32) rfl #[.int .i64 1, .int .i64 8, .int .i64 9, .int .i64 10, .int .i64 11, .int .i64 12, .int .i64 13] 2 (.int .i64 9) rfl rfl (by omega) rfl ?_)
                | (go_at_call 76; refine (named_any (some ⟨b, off, none⟩) n cap (shapeI k) 9 _ HL.out HRX.out (by omega)).mono ?_; rintro e w' ⟨rfl, rfl⟩; rw [hdec])
                | (go_at_call 77; refine (may_any 9 gv V 0 _ (by omega) (by omega) HNU.out).mono ?_; rintro e w' ⟨rfl, rfl⟩; rw [hmay]))
              go_roundw
              case rel =>
                refine ⟨3, by omega, rfl, trivial, ?_⟩
                intro q hq
                rcases Nat.lt_or_ge q 2 with h | h
                · exact hgood.out q h
                · obtain rfl : q = 2 := by omega
                  show badAt (shapeI k) V 0 9 = false
                  unfold badAt
                  rw [if_pos HM.out, HMY.out]; rfl
              case measure => simp [intOf]
            · have hmay2 : mayB 9 V 0 = false := by simpa using hmay
              clear hmay
              go_wp2_with (first
                | (with_reducible refine wpList_index7 rfl (.tmp 31) (.tmp 32) rfl #[.int .i64 1, .int .i64 8, .int .i64 9, .int .i64 10, .int .i64 11, .int .i64 12, .int .i64 13] 2 (.int .i64 9) rfl rfl (by omega) rfl ?_)
                | (go_at_call 76; refine (named_any (some ⟨b, off, none⟩) n cap (shapeI k) 9 _ HL.out HRX.out (by omega)).mono ?_; rintro e w' ⟨rfl, rfl⟩; rw [hdec])
                | (go_at_call 77; refine (may_any 9 gv V 0 _ (by omega) (by omega) HNU.out).mono ?_; rintro e w' ⟨rfl, rfl⟩; rw [hmay2])
                | (go_at_call 74; refine (wrap_any _ _ _).mono ?_; rintro e w' ⟨rfl, rfl⟩))
              refine HQ.out _ _ (.inr ⟨2, _, by omega, ?_, ?_, rfl, (newFault_alloc _ _ _).after HBX.out⟩)
              · rw [← HV.out]; exact hgood.out
              · rw [← HV.out]
                show badAt (shapeI k) V 0 9 = true
                unfold badAt
                rw [if_pos HM.out, hmay2]; rfl
          · have HM := Lib.hid hm
            have hdec : decide (9 ∈ shapeI k) = false := by simp [hm]
            clear hm
            by_cases hz : V 9 = 0
            · have hd : (V 9 != 0) = false := by simp [hz]
              have HZ := Lib.hid hz
              clear hz
              go_wp2_with (first | (with_reducible refine wpList_index7 rfl (.tmp 31) (.tmp 32) rfl #[.int .i64 1, .int .i64 8, .int .i64 9, .int .i64 10, .int .i64 11, .int .i64 12, .int .i64 13] 2 (.int .i64 9) rfl rfl (by omega) rfl ?_) | (go_at_call 76; refine (named_any (some ⟨b, off, none⟩) n cap (shapeI k) 9 _ HL.out HRX.out (by omega)).mono ?_; rintro e w' ⟨rfl, rfl⟩; rw [hdec]))
              go_roundw
              case rel =>
                refine ⟨3, by omega, rfl, trivial, ?_⟩
                intro q hq
                rcases Nat.lt_or_ge q 2 with h | h
                · exact hgood.out q h
                · obtain rfl : q = 2 := by omega
                  exact (badAt_out HM.out).2 HZ.out
              case measure => simp [intOf]
            · have hd : (V 9 != 0) = true := by simp [hz]
              have HZ := Lib.hid hz
              clear hz
              go_wp2_with (first
                | (with_reducible refine wpList_index7 rfl (.tmp 31) (.tmp 32) rfl #[.int .i64 1, .int .i64 8, .int .i64 9, .int .i64 10, .int .i64 11, .int .i64 12, .int .i64 13] 2 (.int .i64 9) rfl rfl (by omega) rfl ?_)
                | (go_at_call 76; refine (named_any (some ⟨b, off, none⟩) n cap (shapeI k) 9 _ HL.out HRX.out (by omega)).mono ?_; rintro e w' ⟨rfl, rfl⟩; rw [hdec])
                | (go_at_call 74; refine (wrap_any _ _ _).mono ?_; rintro e w' ⟨rfl, rfl⟩))
              refine HQ.out _ _ (.inr ⟨2, _, by omega, ?_, ?_, rfl, (newFault_alloc _ _ _).after HBX.out⟩)
              · rw [← HV.out]; exact hgood.out
              · rw [← HV.out]
                show badAt (shapeI k) V 0 9 = true
                unfold badAt
                rw [if_neg HM.out, hd]
        · have hcell := HNU.out 10 (by omega)
          have hcl := block_lt hcell
          by_cases hm : 10 ∈ shapeI k
          · have HM := Lib.hid hm
            have hdec : decide (10 ∈ shapeI k) = true := by simp [hm]
            clear hm
            by_cases hmay : mayB 10 V 0 = true
            · have HMY := Lib.hid hmay
              go_wp2_with (first
                | (with_reducible refine wpList_index7 rfl (.tmp 31) (.tmp 32) rfl #[.int .i64 1, .int .i64 8, .int .i64 9, .int .i64 10, .int .i64 11, .int .i64 12, .int .i64 13] 3 (.int .i64 10) rfl rfl (by omega) rfl ?_)
                | (go_at_call 76; refine (named_any (some ⟨b, off, none⟩) n cap (shapeI k) 10 _ HL.out HRX.out (by omega)).mono ?_; rintro e w' ⟨rfl, rfl⟩; rw [hdec])
                | (go_at_call 77; refine (may_any 10 gv V 0 _ (by omega) (by omega) HNU.out).mono ?_; rintro e w' ⟨rfl, rfl⟩; rw [hmay]))
              go_roundw
              case rel =>
                refine ⟨4, by omega, rfl, trivial, ?_⟩
                intro q hq
                rcases Nat.lt_or_ge q 3 with h | h
                · exact hgood.out q h
                · obtain rfl : q = 3 := by omega
                  show badAt (shapeI k) V 0 10 = false
                  unfold badAt
                  rw [if_pos HM.out, HMY.out]; rfl
              case measure => simp [intOf]
            · have hmay2 : mayB 10 V 0 = false := by simpa using hmay
              clear hmay
              go_wp2_with (first
                | (with_reducible refine wpList_index7 rfl (.tmp 31) (.tmp 32) rfl #[.int .i64 1, .int .i64 8, .int .i64 9, .int .i64 10, .int .i64 11, .int .i64 12, .int .i64 13] 3 (.int .i64 10) rfl rfl (by omega) rfl ?_)
                | (go_at_call 76; refine (named_any (some ⟨b, off, none⟩) n cap (shapeI k) 10 _ HL.out HRX.out (by omega)).mono ?_; rintro e w' ⟨rfl, rfl⟩; rw [hdec])
                | (go_at_call 77; refine (may_any 10 gv V 0 _ (by omega) (by omega) HNU.out).mono ?_; rintro e w' ⟨rfl, rfl⟩; rw [hmay2])
                | (go_at_call 74; refine (wrap_any _ _ _).mono ?_; rintro e w' ⟨rfl, rfl⟩))
              refine HQ.out _ _ (.inr ⟨3, _, by omega, ?_, ?_, rfl, (newFault_alloc _ _ _).after HBX.out⟩)
              · rw [← HV.out]; exact hgood.out
              · rw [← HV.out]
                show badAt (shapeI k) V 0 10 = true
                unfold badAt
                rw [if_pos HM.out, hmay2]; rfl
          · have HM := Lib.hid hm
            have hdec : decide (10 ∈ shapeI k) = false := by simp [hm]
            clear hm
            by_cases hz : V 10 = 0
            · have hd : (V 10 != 0) = false := by simp [hz]
              have HZ := Lib.hid hz
              clear hz
              go_wp2_with (first | (with_reducible refine wpList_index7 rfl (.tmp 31) (.tmp 32) rfl #[.int .i64 1, .int .i64 8, .int .i64 9, .int .i64 10, .int .i64 11, .int .i64 12, .int .i64 13] 3 (.int .i64 10) rfl rfl (by omega) rfl ?_) | (go_at_call 76; refine (named_any (some ⟨b, off, none⟩) n cap (shapeI k) 10 _ HL.out HRX.out (by omega)).mono ?_; rintro e w' ⟨rfl, rfl⟩; rw [hdec]))
              go_roundw
              case rel =>
                refine ⟨4, by omega, rfl, trivial, ?_⟩
                intro q hq
                rcases Nat.lt_or_ge q 3 with h | h
                · exact hgood.out q h
                · obtain rfl : q = 3 := by omega
                  exact (badAt_out HM.out).2 HZ.out
              case measure => simp [intOf]
            · have hd : (V 10 != 0) = true := by simp [hz]
              have HZ := Lib.hid hz
              clear hz
              go_wp2_with (first
                | (with_reducible refine wpList_index7 rfl (.tmp 31) (.tmp 32) rfl #[.int .i64 1, .int .i64 8, .int .i64 9, .int .i64 10, .int .i64 11, .int .i64 12, .int .i64 13] 3 (.int .i64 10) rfl rfl (by omega) rfl ?_)
                | (go_at_call 76; refine (named_any (some ⟨b, off, none⟩) n cap (shapeI k) 10 _ HL.out HRX.out (by omega)).mono ?_; rintro e w' ⟨rfl, rfl⟩; rw [hdec])
                | (go_at_call 74; refine (wrap_any _ _ _).mono ?_; rintro e w' ⟨rfl, rfl⟩))
              refine HQ.out _ _ (.inr ⟨3, _, by omega, ?_, ?_, rfl, (newFault_alloc _ _ _).after HBX.out⟩)
              · rw [← HV.out]; exact hgood.out
              · rw [← HV.out]
                show badAt (shapeI k) V 0 10 = true
                unfold badAt
                rw [if_neg HM.out, hd]
        · have hcell := HNU.out 11 (by omega)
          have hcl := block_lt hcell
          by_cases hm : 11 ∈ shapeI k
          · have HM := Lib.hid hm
            have hdec : decide (11 ∈ shapeI k) = true := by simp [hm]
            clear hm
            by_cases hmay : mayB 11 V 0 = true
            · have HMY := Lib.hid hmay
              go_wp2_with (first
                | (with_reducible refine wpList_index7 rfl (.tmp 31) (.tmp 32) rfl #[.int .i64 1, .int .i64 8, .int .i64 9, .int .i64 10, .int .i64 11, .int .i64 12, .int .i64 13] 4 (.int .i64 11) rfl rfl (by omega) rfl ?_)
                | (go_at_call 76; refine (named_any (some ⟨b, off, none⟩) n cap (shapeI k) 11 _ HL.out HRX.out (by omega)).mono ?_; rintro e w' ⟨rfl, rfl⟩; rw [hdec])
                | (go_at_call 77; refine (may_any 11 gv V 0 _ (by omega) (by omega) HNU.out).mono ?_; rintro e w' ⟨rfl, rfl⟩; rw [hmay]))
              go_roundw
              case rel =>
                refine ⟨5, by omega, rfl, trivial, ?_⟩
                intro q hq
                rcases Nat.lt_or_ge q 4 with h | h
                · exact hgood.out q h
                · obtain rfl : q = 4 := by omega
                  show badAt (shapeI k) V 0 11 = false
                  unfold badAt
                  rw [if_pos HM.out, HMY.out]; rfl
              case measure => simp [intOf]
            · have hmay2 : mayB 11 V 0 = false := by simpa using hmay
              clear hmay
              go_wp2_with (first
                | (with_reducible refine wpList_index7 rfl (.tmp 31) (.tmp 32) rfl #[.int .i64 1, .int .i64 8, .int .i64 9, .int .i64 10, .int .i64 11, .int .i64 12, .int .i64 13] 4 (.int .i64 11) rfl rfl (by omega) rfl ?_)
                | (go_at_call 76; refine (named_any (some ⟨b, off, none⟩) n cap (shapeI k) 11 _ HL.out HRX.out (by omega)).mono ?_; rintro e w' ⟨rfl, rfl⟩; rw [hdec])
                | (go_at_call 77; refine (may_any 11 gv V 0 _ (by omega) (by omega) HNU.out).mono ?_; rintro e w' ⟨rfl, rfl⟩; rw [hmay2])
                | (go_at_call 74; refine (wrap_any _ _ _).mono ?_; rintro e w' ⟨rfl, rfl⟩))
              refine HQ.out _ _ (.inr ⟨4, _, by omega, ?_, ?_, rfl, (newFault_alloc _ _ _).after HBX.out⟩)
              · rw [← HV.out]; exact hgood.out
              · rw [← HV.out]
                show badAt (shapeI k) V 0 11 = true
                unfold badAt
                rw [if_pos HM.out, hmay2]; rfl
          · have HM := Lib.hid hm
            have hdec : decide (11 ∈ shapeI k) = false := by simp [hm]
            clear hm
            by_cases hz : V 11 = 0
            · have hd : (V 11 != 0) = false := by simp [hz]
              have HZ := Lib.hid hz
              clear hz
              go_wp2_with (first | (with_reducible refine wpList_index7 rfl (.tmp 31) (.tmp 32) rfl #[.int .i64 1, .int .i64 8, .int .i64 9, .int .i64 10, .int .i64 11, .int .i64 12, .int .i64 13] 4 (.int .i64 11) rfl rfl (by omega) rfl ?_) | (go_at_call 76; refine (named_any (some ⟨b, off, none⟩) n cap (shapeI k) 11 _ HL.out HRX.out (by omega)).mono ?_; rintro e w' ⟨rfl, rfl⟩; rw [hdec]))
              go_roundw
              case rel =>
                refine ⟨5, by omega, rfl, trivial, ?_⟩
                intro q hq
                rcases Nat.lt_or_ge q 4 with h | h
                · exact hgood.out q h
                · obtain rfl : q = 4 := by omega
                  exact (badAt_out HM.out).2 HZ.out
              case measure => simp [intOf]
            · have hd : (V 11 != 0) = true := by simp [hz]
              have HZ := Lib.hid hz
              clear hz
              go_wp2_with (first
                | (with_reducible refine wpList_index7 rfl (.tmp 31) (.tmp 32) rfl #[.int .i64 1, .int .i64 8, .int .i64 9, .int .i64 10, .int .i64 11, .int .i64 12, .int .i64 13] 4 (.int .i64 11) rfl rfl (by omega) rfl ?_)
                | (go_at_call 76; refine (named_any (some ⟨b, off, none⟩) n cap (shapeI k) 11 _ HL.out HRX.out (by omega)).mono ?_; rintro e w' ⟨rfl, rfl⟩; rw [hdec])
                | (go_at_call 74; refine (wrap_any _ _ _).mono ?_; rintro e w' ⟨rfl, rfl⟩))
              refine HQ.out _ _ (.inr ⟨4, _, by omega, ?_, ?_, rfl, (newFault_alloc _ _ _).after HBX.out⟩)
              · rw [← HV.out]; exact hgood.out
              · rw [← HV.out]
                show badAt (shapeI k) V 0 11 = true
                unfold badAt
                rw [if_neg HM.out, hd]
        · have hcell := HNU.out 12 (by omega)
          have hcl := block_lt hcell
          by_cases hm : 12 ∈ shapeI k
          · have HM := Lib.hid hm
            have hdec : decide (12 ∈ shapeI k) = true := by simp [hm]
            clear hm
            by_cases hmay : mayB 12 V 0 = true
            · have HMY := Lib.hid hmay
              go_wp2_with (first
                | (with_reducible refine wpList_index7 rfl (.tmp 31) (.tmp 32) rfl #[.int .i64 1, .int .i64 8, .int .i64 9, .int .i64 10, .int .i64 11, .int .i64 12, .int .i64 13] 5 (.int .i64 12) rfl rfl (by omega) rfl ?_)
                | (go_at_call 76; refine (named_any (some ⟨b, off, none⟩) n cap (shapeI k) 12 _ HL.out HRX.out (by omega)).mono ?_; rintro e w' ⟨rfl, rfl⟩; rw [hdec])
                | (go_at_call 77; refine (may_any 12 gv V 0 _ (by omega) (by omega) HNU.out).mono ?_; rintro e w' ⟨rfl, rfl⟩; rw [hmay]))
              go_roundw
              case rel =>
                refine ⟨6, by omega, rfl, trivial, ?_⟩
                intro q hq
                rcases Nat.lt_or_ge q 5 with h | h
                · exact hgood.out q h
                · obtain rfl : q = 5 := by omega
                  show badAt (shapeI k) V 0 12 = false
                  unfold badAt
                  rw [if_pos HM.out, HMY.out]; rfl
              case measure => simp [intOf]
            · have hmay2 : mayB 12 V 0 = false := by simpa using hmay
              clear hmay
              go_wp2_with (first
                | (with_reducible refine wpList_index7 rfl (.tmp 31) (.tmp 32) rfl #[.int .i64 1, .int .i64 8, .int .i64 9, .int .i64 10, .int .i64 11, .int .i64 12, .int .i64 13] 5 (.int .i64 12) rfl rfl (by omega) rfl ?_)
                | (go_at_call 76; refine (named_any (some ⟨b, off, none⟩) n cap (shapeI k) 12 _ HL.out HRX.out (by omega)).mono ?_; rintro e w' ⟨rfl, rfl⟩; rw [hdec])
                | (go_at_call 77; refine (may_any 12 gv V 0 _ (by omega) (by omega) HNU.out).mono ?_; rintro e w' ⟨rfl, rfl⟩; rw [hmay2])
                | (go_at_call 74; refine (wrap_any _ _ _).mono ?_; rintro e w' ⟨rfl, rfl⟩))
              refine HQ.out _ _ (.inr ⟨5, _, by omega, ?_, ?_, rfl, (newFault_alloc _ _ _).after HBX.out⟩)
              · rw [← HV.out]; exact hgood.out
              · rw [← HV.out]
                show badAt (shapeI k) V 0 12 = true
                unfold badAt
                rw [if_pos HM.out, hmay2]; rfl
          · have HM := Lib.hid hm
            have hdec : decide (12 ∈ shapeI k) = false := by simp [hm]
            clear hm
            by_cases hz : V 12 = 0
            · have hd : (V 12 != 0) = false := by simp [hz]
              have HZ := Lib.hid hz
              clear hz
              go_wp2_with (first | (with_reducible refine wpList_index7 rfl (.tmp 31) (.tmp 32) rfl #[.int .i64 1, .int .i64 8, .int .i64 9, .int .i64 10, .int .i64 11, .int .i64 12, .int .i64 13] 5 (.int .i64 12) rfl rfl (by omega) rfl ?_) | (go_at_call 76; refine (named_any (some ⟨b, off, none⟩) n cap (shapeI k) 12 _ HL.out HRX.out (by omega)).mono ?_; rintro e w' ⟨rfl, rfl⟩; rw [hdec]))
              go_roundw
              case rel =>
                refine ⟨6, by omega, rfl, trivial, ?_⟩
                intro q hq
                rcases Nat.lt_or_ge q 5 with h | h
                · exact hgood.out q h
                · obtain rfl : q = 5 := by omega
                  exact (badAt_out HM.out).2 HZ.out
              case measure => simp [intOf]
            · have hd : (V 12 != 0) = true := by simp [hz]
              have HZ := Lib.hid hz
              clear hz
              go_wp2_with (first
                | (with_reducible refine wpList_index7 rfl (.tmp 31) (.tmp 32) rfl #[.int .i64 1, .int .i64 8, .int .i64 9, .int .i64 10, .int .i64 11, .int .i64 12, .int .i64 13] 5 (.int .i64 12) rfl rfl (by omega) rfl ?_)
                | (go_at_call 76; refine (named_any (some ⟨b, off, none⟩) n cap (shapeI k) 12 _ HL.out HRX.out (by omega)).mono ?_; rintro e w' ⟨rfl, rfl⟩; rw [hdec])
                | (go_at_call 74; refine (wrap_any _ _ _).mono ?_; rintro e w' ⟨rfl, rfl⟩))
              refine HQ.out _ _ (.inr ⟨5, _, by omega, ?_, ?_, rfl, (newFault_alloc _ _ _).after HBX.out⟩)
              · rw [← HV.out]; exact hgood.out
              · rw [← HV.out]
                show badAt (shapeI k) V 0 12 = true
                unfold badAt
                rw [if_neg HM.out, hd]
        · have hcell := HNU.out 13 (by omega)
          have hcl := block_lt hcell
          by_cases hm : 13 ∈ shapeI k
          · have HM := Lib.hid hm
            have hdec : decide (13 ∈ shapeI k) = true := by simp [hm]
            clear hm
            by_cases hmay : mayB 13 V 0 = true
            · have HMY := Lib.hid hmay
              go_wp2_with (first
                | (with_reducible refine wpList_index7 rfl (.tmp 31) (.tmp 32) rfl #[.int .i64 1, .int .i64 8, .int .i64 9, .int .i64 10, .int .i64 11, .int .i64 12, .int .i64 13] 6 (.int .i64 13) rfl rfl (by omega) rfl ?_)
                | (go_at_call 76; refine (named_any (some ⟨b, off, none⟩) n cap (shapeI k) 13 _ HL.out HRX.out (by omega)).mono ?_; rintro e w' ⟨rfl, rfl⟩; rw [hdec])
                | (go_at_call 77; refine (may_any 13 gv V 0 _ (by omega) (by omega) HNU.out).mono ?_; rintro e w' ⟨rfl, rfl⟩; rw [hmay]))
              go_roundw
              case rel =>
                refine ⟨7, by omega, rfl, trivial, ?_⟩
                intro q hq
                rcases Nat.lt_or_ge q 6 with h | h
                · exact hgood.out q h
                · obtain rfl : q = 6 := by omega
                  show badAt (shapeI k) V 0 13 = false
                  unfold badAt
                  rw [if_pos HM.out, HMY.out]; rfl
              case measure => simp [intOf]
            · have hmay2 : mayB 13 V 0 = false := by simpa using hmay
              clear hmay
              go_wp2_with (first
                | (with_reducible refine wpList_index7 rfl (.tmp 31) (.tmp 32) rfl #[.int .i64 1, .int .i64 8, .int .i64 9, .int .i64 10, .int .i64 11, .int .i64 12, .int .i64 13] 6 (.int .i64 13) rfl rfl (by omega) rfl ?_)
                | (go_at_call 76; refine (named_any (some ⟨b, off, none⟩) n cap (shapeI k) 13 _ HL.out HRX.out (by omega)).mono ?_; rintro e w' ⟨rfl, rfl⟩; rw [hdec])
                | (go_at_call 77; refine (may_any 13 gv V 0 _ (by omega) (by omega) HNU.out).mono ?_; rintro e w' ⟨rfl, rfl⟩; rw [hmay2])
                | (go_at_call 74; refine (wrap_any _ _ _).mono ?_; rintro e w' ⟨rfl, rfl⟩))
              refine HQ.out _ _ (.inr ⟨6, _, by omega, ?_, ?_, rfl, (newFault_alloc _ _ _).after HBX.out⟩)
              · rw [← HV.out]; exact hgood.out
              · rw [← HV.out]
                show badAt (shapeI k) V 0 13 = true
                unfold badAt
                rw [if_pos HM.out, hmay2]; rfl
          · have HM := Lib.hid hm
            have hdec : decide (13 ∈ shapeI k) = false := by simp [hm]
            clear hm
            by_cases hz : V 13 = 0
            · have hd : (V 13 != 0) = false := by simp [hz]
              have HZ := Lib.hid hz
              clear hz
              go_wp2_with (first | (with_reducible refine wpList_index7 rfl (.tmp 31) (.tmp 32) rfl #[.int .i64 1, .int .i64 8, .int .i64 9, .int .i64 10, .int .i64 11, .int .i64 12, .int .i64 13] 6 (.int .i64 13) rfl rfl (by omega) rfl ?_) | (go_at_call 76; refine (named_any (some ⟨b, off, none⟩) n cap (shapeI k) 13 _ HL.out HRX.out (by omega)).mono ?_; rintro e w' ⟨rfl, rfl⟩; rw [hdec]))
              go_roundw
              case rel =>
                refine ⟨7, by omega, rfl, trivial, ?_⟩
                intro q hq
                rcases Nat.lt_or_ge q 6 with h | h
                · exact hgood.out q h
                · obtain rfl : q = 6 := by omega
                  exact (badAt_out HM.out).2 HZ.out
              case measure => simp [intOf]
            · have hd : (V 13 != 0) = true := by simp [hz]
              have HZ := Lib.hid hz
              clear hz
              go_wp2_with (first
                | (with_reducible refine wpList_index7 rfl (.tmp 31) (.tmp 32) rfl #[.int .i64 1, .int .i64 8, .int .i64 9, .int .i64 10, .int .i64 11, .int .i64 12, .int .i64 13] 6 (.int .i64 13) rfl rfl (by omega) rfl ?_)
                | (go_at_call 76; refine (named_any (some ⟨b, off, none⟩) n cap (shapeI k) 13 _ HL.out HRX.out (by omega)).mono ?_; rintro e w' ⟨rfl, rfl⟩; rw [hdec])
                | (go_at_call 74; refine (wrap_any _ _ _).mono ?_; rintro e w' ⟨rfl, rfl⟩))
              refine HQ.out _ _ (.inr ⟨6, _, by omega, ?_, ?_, rfl, (newFault_alloc _ _ _).after HBX.out⟩)
              · rw [← HV.out]; exact hgood.out
              · rw [← HV.out]
                show badAt (shapeI k) V 0 13 = true
                unfold badAt
                rw [if_neg HM.out, hd]
      · obtain rfl : j = 7 := by omega
        have hG : GoodI k (It.mk (k : Int) ep ta ⟨ok, op, oc, ol, os⟩) := by
          unfold GoodI
          rw [← HV.out]
          intro f hf
          obtain ⟨q, hq, rfl⟩ := List.mem_iff_getElem.1 hf
          have := hgood.out q hq
          simpa [List.getD_eq_getElem?_getD, hq] using this
        have hF := (goodI_fine k (It.mk (k : Int) ep ta ⟨ok, op, oc, ol, os⟩) rfl h1 h6).1 hG
        have hR := fineI_range hF k rfl
        rw [← HV.out] at hR
        have HG := Lib.hid hG; have HRG := Lib.hid hR
        clear hG hF hR
        go_wp2_with fail
        refine (lay_any gv V b off n cap (shapeI k) _ HL.out HRX.out hn0 hn14 HNU.out HSX.out (by rw [HV0.out]; omega) (by rw [HV0.out]; omega) HRG.out).mono ?_
        rintro e w2 ⟨g2, rfl, hg2, hrow, hb2⟩
        have HROW := Lib.hid hrow; have HB2 := Lib.hid (HBX.out.trans (hb2.mono HBX.out.size)); clear hrow hb2
        have HE := Lib.hid (show layB V (shapeI k) = encI (It.mk (k : Int) ep ta ⟨ok, op, oc, ol, os⟩) by rw [HV.out]; rfl)
        rw [HE.out]
        go_wp2
        refine HQ.out _ _ (.inl ⟨HG.out, g2, rfl, Nat.le_trans HBX.out.size hg2, ?_, HB2.out⟩)
        rw [← HE.out]; exact HROW.out
end Go.Proofs.YtoophonmonojcaaDoor

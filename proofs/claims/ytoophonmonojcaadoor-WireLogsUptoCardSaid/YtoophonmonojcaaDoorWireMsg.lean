/- A message kept in a variable; Encode's contract at it. -/
import Derived.Test.YtoophonmonojcaaDoorWireEnc
import Derived.Test.YtoophonmonojcaaDoorWirePick
import Derived.Test.YtoophonmonojcaaDoorIs
namespace Go.Proofs.YtoophonmonojcaaDoor
open Go.RowKit

/-- A message's cells. -/
def M.cs (m : M) : Array Value := #[.int .i64 m.k, .int .i64 m.e, .int .i64 m.c, .int .i64 m.ha, .int .i64 m.fi, .int .i64 m.nu, .int .i64 m.ac, .int .i64 m.re, .int .i64 m.ta, .int .i64 m.op.k, .int .i64 m.op.p, .int .u8 m.op.ch, .int .i64 m.op.cl, .int .i64 m.op.s]
theorem M.v_cs (m : M) : m.v = .agg m.cs := rfl
/-- The variable in block g holds the message. -/
def MsgAt (w : World) (g : Nat) (m : M) : Prop := w.heap[g]? = some (.cells m.cs 25 (0, 0))
theorem MsgAt.lt {w : World} {g : Nat} {m : M} (h : MsgAt w g m) : g < w.heap.size := heap_lt h
theorem MsgAt.keep {w w' : World} {g : Nat} {m : M} (h : MsgAt w g m) (hb : Below w.heap.size w w') : MsgAt w' g m := (hb.block g h.lt).trans h
theorem MsgAt.below {B : Nat} {w w' : World} {g : Nat} {m : M} (h : MsgAt w g m) (hb : Below B w w') (hg : g < B) : MsgAt w' g m := (hb.block g hg).trans h
theorem MsgAt.store {w : World} {g : Nat} {m : M} (h : MsgAt w g m) (m' : M) : MsgAt (w.setRow g m'.cs) g m' := setRow_heap w g _ _ _ _ h
theorem MsgAt.frozen {w : World} {g : Nat} {m : M} (h : MsgAt w g m) (i : Nat) : w.frozen? ⟨g, i, none⟩ = false := by
  unfold MsgAt at h
  simp [World.frozen?, h]
theorem MsgAt.num {w : World} {g : Nat} {m : M} (h : MsgAt w g m) (i : Nat) (hi : i < 9) : w.cell? ⟨g, i, none⟩ = some (.int .i64 (m.at i)) := by
  unfold MsgAt at h
  have hc : i = 0 ∨ i = 1 ∨ i = 2 ∨ i = 3 ∨ i = 4 ∨ i = 5 ∨ i = 6 ∨ i = 7 ∨ i = 8 := by omega
  rcases hc with rfl | rfl | rfl | rfl | rfl | rfl | rfl | rfl | rfl <;> simp [World.cell?, h, M.cs, M.at]
theorem MsgAt.set {w : World} {g : Nat} {m : M} (h : MsgAt w g m) (f : Nat) (h3 : 3 ≤ f) (h8 : f ≤ 8) (x : Int) : MsgAt (w.setCell ⟨g, f, none⟩ (.int .i64 x)) g (m.set f x) := by
  unfold MsgAt at *
  rw [heap_setCell_same h]
  have hc : f = 3 ∨ f = 4 ∨ f = 5 ∨ f = 6 ∨ f = 7 ∨ f = 8 := by omega
  rcases hc with rfl | rfl | rfl | rfl | rfl | rfl <;> rfl
theorem M.one (m : M) : m.cs.all (·.oneCell') = true := by simp [M.cs, Value.oneCell']
theorem infoMsg : (Tryd.prog.info? 25).map (·.size) = some 14 := by kernel_rfl
/-- Nothing but block g has turned. -/
def Turned (w w' : World) (g : Nat) : Prop := ∀ B w0, B ≤ g → Below B w0 w → Below B w0 w'
theorem wpList_storeMsg {w : World} {ops : Array Oper} {rest : List Oper} {o : Oper} {a : Act} {Q : Exit → Act → World → Prop} (hgd : o.guard = none) (x y : Operand) (ho : o.op = .store 25 x y) (hd : o.dst = none) (g : Nat) (m m' : M)
    (hx : a.eval x = .pointer (some ⟨g, 0, none⟩)) (hy : a.eval y = .agg m'.cs) (hg : MsgAt w g m) (h : ∀ w', MsgAt w' g m' → Turned w w' g → w.heap.size = w'.heap.size → wpList Tryd.prog ops Q rest a w') : wpList Tryd.prog ops Q (o :: rest) a w :=
  wpList_store_rowTo hgd 25 x y ho hd g m'.cs hx hy 25 m.cs hg infoMsg rfl m'.one (h _ (MsgAt.store hg m') (fun B w0 hB hb => below_setRow hb hB _) (by simp))
theorem wpList_loadMsg {w : World} {ops : Array Oper} {rest : List Oper} {o : Oper} {a : Act} {Q : Exit → Act → World → Prop} (hgd : o.guard = none) (x : Operand) (ho : o.op = .load 25 x) (g : Nat) (m : M)
    (hx : a.eval x = .pointer (some ⟨g, 0, none⟩)) (hg : MsgAt w g m) (h : wpList Tryd.prog ops Q rest (a.put o.dst (.agg m.cs)) w) : wpList Tryd.prog ops Q (o :: rest) a w :=
  wpList_load_row hgd 25 x ho g hx 25 m.cs (0, 0) _ hg Tryd.underlying25 rfl infoMsg h
theorem O.fine_ch {o : O} (h : o.fine) : 0 ≤ o.ch ∧ o.ch ≤ 255 := by
  obtain ⟨_, _, _, _, _, h6, h7, _⟩ := h
  by_cases h1 : o.k = 1
  · have := h6 h1; omega
  · have := h7 h1; omega
theorem M.fine_ch {m : M} (h : m.fine) : 0 ≤ m.op.ch ∧ m.op.ch ≤ 255 := by
  obtain ⟨_, _, _, _, _, _, _, _, h9, h10, _⟩ := h
  by_cases h1 : m.k = 2 ∨ m.k = 5
  · exact O.fine_ch (h9 h1).2.2
  · have := (h10 (fun e => h1 (.inl e)) (fun e => h1 (.inr e))).2
    rw [this]
    simp [zeroO]

theorem encode_any (k : Nat) (m : M) (w : World) (hm : m.k = k) (h1 : 1 ≤ k) (h6 : k ≤ 6) (ho : 0 ≤ m.op.ch ∧ m.op.ch ≤ 255) (ht : Tab w) (hs : Sizes w) (hsh : Shapes w) : Calls Tryd.prog 23 #[.agg m.cs] w (EncPost w k m) := by
  obtain ⟨mk, ep, c, ha, fi, nu, ac, re, ta, ⟨ok, op, oc, ol, os⟩⟩ := m
  dsimp only at hm ho
  subst hm
  exact encode_core k ep c ha fi nu ac re ta ok op oc ol os w _ (fun e w' h => h) h1 h6 ho ht hs hsh
/-- A message that may stand is encoded. -/
theorem encode_fine (m : M) (w : World) (h : m.fine) (ht : Tab w) (hs : Sizes w) (hsh : Shapes w) : Calls Tryd.prog 23 #[.agg m.cs] w fun e w' =>
    ∃ g, e = .returned (.tuple #[.slice (some ⟨g, 0, none⟩) (encB m).length (encB m).length, .nilIface]) ∧ w.heap.size ≤ g ∧ Row w' g (encB m) ∧ Below w.heap.size w w' := by
  obtain ⟨k, hk⟩ : ∃ k : Nat, m.k = k := ⟨m.k.toNat, by have := h.1; omega⟩
  have h1 := h.1
  have h6 := h.2.1
  have hG := (good_fine k m hk (by omega) (by omega)).2 h
  refine (encode_any k m w hk (by omega) (by omega) (M.fine_ch h) ht hs hsh).mono ?_
  rintro e w' (⟨_, hx⟩ | ⟨f, g, f1, f2, _, hb, _⟩)
  · exact hx
  · rw [hG f f1 f2] at hb; cases hb
/-- A message whose first field that may not stand is f. -/
theorem encode_bad (k : Nat) (m : M) (f : Nat) (w : World) (hm : m.k = k) (h1 : 1 ≤ k) (h6 : k ≤ 6) (ho : 0 ≤ m.op.ch ∧ m.op.ch ≤ 255) (f1 : 1 ≤ f) (f2 : f < 14) (hg : ∀ i, 1 ≤ i → i < f → badAt (shapeN k) m.at (makerOf m) i = false) (hb : badAt (shapeN k) m.at (makerOf m) f = true)
    (ht : Tab w) (hs : Sizes w) (hsh : Shapes w) : Calls Tryd.prog 23 #[.agg m.cs] w fun e w' => ∃ g, e = .returned (.tuple #[.slice none 0 0, faultV g]) ∧ NewFault w f 63 g w' := by
  refine (encode_any k m w hm h1 h6 ho ht hs hsh).mono ?_
  rintro e w' (⟨hG, _⟩ | ⟨f', g, f1', f2', hg', hb', he, hN⟩)
  · rw [hG f f1 f2] at hb; cases hb
  · rcases Nat.lt_trichotomy f f' with h | h | h
    · rw [hg' f f1 h] at hb; cases hb
    · subst h; exact ⟨g, he, hN⟩
    · rw [hg f' f1' h] at hb'; cases hb'
theorem encB_len {m : M} (h : m.fine) : 7 ≤ (encB m).length ∧ (encB m).length ≤ 19 := by
  have h1 := h.1
  have h6 := h.2.1
  obtain ⟨k, hk⟩ : ∃ k : Nat, m.k.toNat = k := ⟨_, rfl⟩
  have : (encB m).length = longOf (shapeN k) + 4 := by
    unfold encB
    rw [hk]
    simp [sealed, le4, lay_length m.at k (by omega) (by omega)]
  rw [this]
  have hc : k = 1 ∨ k = 2 ∨ k = 3 ∨ k = 4 ∨ k = 5 ∨ k = 6 := by omega
  rcases hc with rfl | rfl | rfl | rfl | rfl | rfl <;> decide
end Go.Proofs.YtoophonmonojcaaDoor

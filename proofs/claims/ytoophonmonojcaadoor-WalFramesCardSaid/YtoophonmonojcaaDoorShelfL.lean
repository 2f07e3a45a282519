/- Contracts of jotterlaw03's (*Shelf).list, untouched. -/
import Derived.Test.YtoophonmonojcaaDoorShelfW
import Derived.Deep.RegionLawGrows
namespace Go.Proofs.YtoophonmonojcaaDoor
open Go.RowKit

/-- 'append' of bytes at a step of a region that draws: there is no room. -/
theorem step_appendF {ops : Array Oper} {o : Oper} {a : Act} {w : World} {K : Act → World → Prop} {Q : Exit → Act → World → Prop} {E : Prop} (hgd : o.guard = none) (s x : Operand)
    (ho : o.op = .call { callee := .builtin .append, args := #[s, x], argTypes := #[27, 27] })
    (ao : Option Addr) (n : Nat) (l m : List UInt8) (hs : a.eval s = .slice ao n n) (hn : ao = Option.none → n = 0) (hl : l.length = n) (hr : Rd w ao l) (g2 n2 c2 : Nat) (hx : a.eval x = .slice (some ⟨g2, 0, Option.none⟩) n2 c2) (hm : m.length = n2) (hr2 : Rd w (some ⟨g2, 0, Option.none⟩) m) (h0 : 0 < n2)
    (hle : n + n2 ≤ 140737488355328)
    (h : ∀ v' w', Own w' w.heap.size v' (l ++ m) → Below w.heap.size w w' → K (a.put o.dst v') w') :
    if Region.wanted o (yielded ops a.tmps) = true then Oper.wp Tryd.prog o a w K Q else E := by
  obtain ⟨i0, hi, hz0, hz1, hz2⟩ := info_parts Tryd.infoU8
  subst hl; subst hm
  obtain ⟨b2, o2, e2, _, hc2⟩ := hr2.some h0
  cases e2
  refine step_append_grows hgd s x 27 ho 5 i0 (.int .u8 0) 1 1 Tryd.underlying27 hi hz0 hz1 hz2 rfl (by decide) ao l.length l.length (l.map bv) hs (fun h => ⟨hn h, hn h⟩) (by simp) ?_ ⟨g2, 0, Option.none⟩ m.length c2 (m.map bv) hx (by simp) (bv_cells hc2) (oneCell_bv m) (by omega) (by unfold maxLen; omega) (by omega) ?_
  · intro b hb j u hj
    have hlen : j < l.length := by have := (List.getElem?_eq_some_iff.1 hj).1; simpa using this
    obtain ⟨b1, o1, e1, _, hc1⟩ := hr.some (by omega)
    rw [hb] at e1
    cases e1
    exact bv_cells hc1 j u hj
  · intro v' w' h1 h2
    exact h v' w' (by simpa [Own] using h1) ((Below.refl _ w).grown h2 (Nat.le_refl _) (fun k hk => by cases hk))

theorem cellDrew {w : World} {a : Addr} {v : Value} (h : w.cell? a = some v) : w.drew.cell? a = some v := h
theorem cellKeep {w : World} {b o : Nat} {v : Value} (h : w.cell? ⟨b, o, none⟩ = some v) (X : Obj) : (w.alloc X).cell? ⟨b, o, none⟩ = some v :=
  (World.cell?_of_block (w := w) (a := ⟨b, o, none⟩) (heap_alloc_old _ _ (block_lt h))).trans h
/-- What list leaves. -/
def ListPost (w : World) (E S M : Nat → Prop) (gs N : Nat) (os : List (List (List UInt8))) (e : Ending) (w' : World) : Prop :=
  e = .returned (.tuple #[]) ∧ ∃ es mark, es.length = N + 2 ∧ ShelfPost w E S M gs es os mark w'
theorem ShelfIs.c0 {w : World} {E S : Nat → Prop} {gs : Nat} {eL eW : List (List UInt8)} {oO oP : List (List (List UInt8))} {mark : Nat} {vL vW vO vP : Value} (h : ShelfIs w E S gs eL eW oO oP mark vL vW vO vP) : ∃ a c, w.cell? ⟨gs, 0, none⟩ = some (.slice a eL.length c) := by
  obtain ⟨vs, ho, _⟩ := h.rL
  obtain ⟨a, c, e, _⟩ := ownsRow_shape ho
  exact ⟨a, c, by simp [World.cell?, h.cell, e]⟩
theorem ShelfIs.c4 {w : World} {E S : Nat → Prop} {gs : Nat} {eL eW : List (List UInt8)} {oO oP : List (List (List UInt8))} {mark : Nat} {vL vW vO vP : Value} (h : ShelfIs w E S gs eL eW oO oP mark vL vW vO vP) : w.cell? ⟨gs, 4, none⟩ = some (.int .u8 (mark : Int)) := by simp [World.cell?, h.cell]
theorem ShelfIs.frozen {w : World} {E S : Nat → Prop} {gs : Nat} {eL eW : List (List UInt8)} {oO oP : List (List (List UInt8))} {mark : Nat} {vL vW vO vP : Value} (h : ShelfIs w E S gs eL eW oO oP mark vL vW vO vP) (i : Nat) : w.frozen? ⟨gs, i, none⟩ = false := by simp [World.frozen?, h.cell]

/-- The last step of list: the longer list is held. -/
theorem list_tail (w w1 w2 w3 : World) (E S : Nat → Prop) (M : Nat → Prop) (gs : Nat) (es0 : List (List UInt8)) (os : List (List (List UInt8))) (mu : UInt8) (p0 : List UInt8) (hu : Upd (fun k => S k ∨ M k) w w1) (hes : es0.length ≤ 200)
    (h : ShelfPost w1 (fun k => E k ∨ M k) (fun k => S k ∨ M k) (fun _ => False) gs (es0 ++ [p0]) os mu.toNat w2) (hb : Below w2.heap.size w2 w3) (v : Value) (p : List UInt8) (ho : Own w3 w2.heap.size v p) (hp : p.length ≤ 10000) :
    Calls Tryd.prog 85 #[.pointer (some ⟨gs, 0, none⟩), v] w3 (fun e w' => ListPost w E S M gs es0.length os e w' ∧ w'.cell? ⟨gs, 4, none⟩ = some (.int .u8 (mu.toNat : Int))) := by
  obtain ⟨E1, S1, vL, vW, vO, vP, hs, h1, h2, h3, h4, h5⟩ := h
  have hlt : ∀ k, v.ownBlock = some k → w2.heap.size ≤ k ∧ k < w3.heap.size := fun k hk => World.ownsRow.lt ho k hk
  have hz1 := hu.size; have hz2 := h5.size; have hz3 := hb.size
  have hs3 := (hs.keep hb).more (T := fun k => v.ownBlock = some k) (fun k hk => ⟨fun hS => by have := hs.lt k hS; have := (hlt k hk).1; omega, (hlt k hk).2⟩)
  refine (hold_any w3 _ _ gs _ os _ _ _ _ _ hs3 v p (ho.slS (fun k hk => .inr hk) (by omega)) (by simp; omega)).mono ?_
  rintro e w4 ⟨rfl, ⟨E4, S4, vL, vW, vO, vP, hs4, k1, k2, k3, k4, k5⟩, _⟩
  have hE1 : ∀ k, E1 k → E k ∨ M k ∨ w.heap.size ≤ k := fun k hk => by
    rcases h2 k hk with (h | h) | h | h
    · exact .inl h
    · exact .inr (.inl h)
    · exact h.elim
    · exact .inr (.inr (by omega))
  have hS1 : ∀ k, S1 k → S k ∨ M k ∨ w.heap.size ≤ k := fun k hk => by
    rcases h4 k hk with (h | h) | h | h
    · exact .inl h
    · exact .inr (.inl h)
    · exact h.elim
    · exact .inr (.inr (by omega))
  refine ⟨⟨rfl, _, _, ?_, E4, S4, vL, vW, vO, vP, hs4, fun k hk => k1 k (.inl (h1 k (.inl hk))), fun k hk => ?_, fun k hk => k3 k (.inl (h3 k (.inl hk))), fun k hk => ?_, ?_⟩, hs4.c4⟩
  · simp
  · rcases k2 k hk with (h | h) | h | h
    · exact hE1 k h
    · exact .inr (.inr (by have := (hlt k h).1; omega))
    · exact h.elim
    · exact .inr (.inr (by omega))
  · rcases k4 k hk with (h | h) | h | h
    · exact hS1 k h
    · exact .inr (.inr (by have := (hlt k h).1; omega))
    · exact h.elim
    · exact .inr (.inr (by omega))
  · have a1 : Upd (fun k => S k ∨ M k ∨ w.heap.size ≤ k) w1 w2 := h5.mono fun q hq => hq.elim (fun h => h.elim .inl fun h => .inr (.inl h)) False.elim
    have a2 : Upd (fun k => S k ∨ M k ∨ w.heap.size ≤ k) w2 w3 := Upd.of_below hb _
    have a3 : Upd (fun k => S k ∨ M k ∨ w.heap.size ≤ k) w3 w4 := k5.mono fun q hq => by
      rcases hq with (h | h) | h
      · exact hS1 q h
      · exact .inr (.inr (by have := (hlt q h).1; omega))
      · exact h.elim
    exact hu.trans (a1.trans (a2.trans a3 fun _ _ h => h) fun _ _ h => h) fun q hq h => by
      rcases h with h | h | h
      · exact .inl h
      · exact .inr h
      · omega

set_option maxRecDepth 100000 in
set_option maxHeartbeats 1000000 in
theorem list_any (w : World) (E S : Nat → Prop) (gs : Nat) (es : List (List UInt8)) (os : List (List (List UInt8))) (mark : Nat) (vL vW vO vP : Value) (h : ShelfIs w E S gs es es os os mark vL vW vO vP) (g n : Nat) (l : List UInt8) (hl : l.length = n) (hr : Row w g l) (hg : ¬ S g) (hn : n ≤ 1000) (hes : es.length ≤ 200) :
    Calls Tryd.prog 43 #[.pointer (some ⟨gs, 0, none⟩), .slice (some ⟨g, 0, none⟩) n n] w (ListPost w E S (fun k => k = g) gs es.length os) := by
  obtain ⟨mu, hmu⟩ : ∃ mu : UInt8, mu.toNat = (mark + 4) % 256 := ⟨UInt8.ofNat ((mark + 4) % 256), by simp⟩
  obtain ⟨aL, cL, hc0⟩ := h.c0
  have hc4 := h.c4
  have hf4 := h.frozen 4
  have hset := h.setMark mu.toNat (by have := mu.toNat_lt; omega)
  have hgl := heap_lt h.cell
  have hgg := heap_lt hr
  have hne : g ≠ gs := fun e => hg (e ▸ h.gS)
  have hr1 : Row (w.setCell ⟨gs, 4, none⟩ (.int .u8 (mu.toNat : Int))) g l := by unfold Row; rw [Below.heap_setCell _ _ _ _ hne]; exact hr
  have hu1 : Upd S w (w.setCell ⟨gs, 4, none⟩ (.int .u8 (mu.toNat : Int))) := ⟨rfl, rfl, rfl, by rw [World.size_setCell]; exact Nat.le_refl _, fun k hk hn => Below.heap_setCell _ _ _ _ (fun e => hn (by rw [show k = gs from e]; exact h.gS))⟩
  have he : ((mark : Int) + 4) % 256 = (mu.toNat : Int) := by omega
  have H := Lib.hid h; have HL := Lib.hid hl; have HG := Lib.hid hg; have HMU := Lib.hid hmu
  clear h hl hr hg hmu
  obtain ⟨n0, hn0⟩ : ∃ n0, n0 = es.length := ⟨_, rfl⟩
  rw [← hn0] at hc0 hes
  have HN0 := Lib.hid hn0
  clear hn0
  go_enter Tryd.func43, Tryd.ntmps43
  go_wp2_with fail
  rw [he]
  have hE1 : ∀ k, k < w.heap.size → E k → True := fun _ _ _ => trivial
  clear hE1
  revert hset hr1 hu1
  generalize hw1 : World.setCell _ _ _ = w1
  intro hset hr1 hu1
  clear hw1 hc0 hc4 hf4 he
  have HSET := Lib.hid hset; have HU1 := Lib.hid hu1
  clear hset hu1
  have hgl1 : gs < w1.heap.size := Nat.lt_of_lt_of_le hgl HU1.out.size
  go_loopw [4] (fun i wr => ∃ k : Nat, k ≤ n ∧ i = .int .i64 k ∧ Row wr g (overL l mu k) ∧ w1.grownBy wr (some g)) (fun i _ => n - (intOf i).toNat)
  case atStart => exact ⟨0, Nat.zero_le _, rfl, by rw [overL_zero]; exact hr1, World.grownBy.refl _ _⟩
  case round =>
    obtain ⟨k, hk, rfl, hrow, hgr⟩ := hrel
    have hb4 : wr.heap[gs]? = w1.heap[gs]? := hgr.block gs hgl1 (fun e => hne (by cases e; rfl))
    by_cases hlt : k < n
    · have hc4 : wr.cell? ⟨gs, 4, none⟩ = some (.int .u8 (mu.toNat : Int)) := (World.cell?_of_block (w := w1) (a := ⟨gs, 4, none⟩) hb4).trans HSET.out.c4
      have hlen := overL_len l mu k (by have := HL.out; omega)
      have hfz : wr.frozen? ⟨g, k, none⟩ = false := hrow.frozen _ _
      have hcl := hrow.cell k (by rw [hlen, HL.out]; exact hlt)
      have hset := hrow.set k mu
      rw [overL_set l mu k (by have := HL.out; omega)] at hset
      have hgs : w1.grownBy (wr.setCell ⟨g, k, none⟩ (.int .u8 (mu.toNat : Int))) (some g) := grown_trans hgr (grown_setCell _ _ _)
      have HSET2 := Lib.hid hset; have HGS := Lib.hid hgs
      clear hset hgs hgr hlen hrow hb4
      go_wp2_with fail
      go_roundw
      case rel => exact ⟨k + 1, by omega, by go_num, HSET2.out, HGS.out⟩
      case measure => simp [intOf]; omega
    · obtain rfl : k = n := by omega
      rw [overL_full HL.out] at hrow
      have hs2 := (HSET.out.same hgr.size fun q hq hS => hgr.block q hq (fun e => HG.out (by cases e; exact hS))).more (T := fun q => q = g) (fun q hq => ⟨by rw [hq]; exact HG.out, by rw [hq]; exact heap_lt hrow⟩)
      have hu2 : Upd (fun q => S q ∨ q = g) w wr := (HU1.out.mono (S' := fun q => S q ∨ q = g) fun _ h => .inl h).trans (Upd.of_grown (S := fun q => S q ∨ q = g) hgr (fun q hq => by cases hq; exact .inr rfl)) (fun _ _ h => h)
      have HS2 := Lib.hid hs2; have HU2 := Lib.hid hu2; have HROW := Lib.hid hrow
      clear hs2 hu2 hrow hgr hb4
      have hown : Own wr 0 (.slice (some ⟨g, 0, none⟩) k k) (List.replicate k mu) := by
        have := HROW.out.own (B := 0) (Nat.zero_le _) (by simp; unfold maxLen; omega)
        simpa using this
      have HOWN := Lib.hid hown
      clear hown
      go_wp2_with fail
      refine (hold_any wr _ _ gs es os mu.toNat vL vW vO vP HS2.out _ (List.replicate k mu) (HOWN.out.slS (fun q hq => by simp [Value.ownBlock] at hq; exact .inr hq.symm) (by simp; omega)) (by have := HN0.out; omega)).mono ?_
      rintro e w2 ⟨rfl, hpost, hE⟩
      have hrow2 : Row w2 g (List.replicate k mu) := (hE g (heap_lt HROW.out) (.inr rfl)).trans HROW.out
      have hms : w2.cell? ⟨gs, 4, none⟩ = some (.int .u8 (mu.toNat : Int)) := by
        obtain ⟨_, _, _, _, _, _, hs, _⟩ := hpost
        exact hs.c4
      have hgl2 : gs < w2.heap.size := block_lt hms
      have hgg2 := heap_lt hrow2
      have HP := Lib.hid hpost; have HROW2 := Lib.hid hrow2; have HMS := Lib.hid hms
      have HRG := Lib.hid (show ∀ (W : World) (X : Obj), W.heap = (w2.alloc X).heap → Rd W (some ⟨g, 0, none⟩) (List.replicate k mu) from fun W X hW => by
        have : Row W g (List.replicate k mu) := by unfold Row; rw [hW, heap_alloc_old _ _ hgg2]; exact hrow2
        exact this.rd)
      have HR3 := Lib.hid (show ∀ W : World, W.heap = (w2.alloc (.cells #[.int .u8 (((mu.toNat : Int) + 1) % 256), .int .u8 (((mu.toNat : Int) + 2) % 256), .int .u8 (((mu.toNat : Int) + 3) % 256)] 5)).heap → Rd W (some ⟨w2.heap.size, 0, none⟩) [u8 ((mu.toNat : Int) + 1), u8 ((mu.toNat : Int) + 2), u8 ((mu.toNat : Int) + 3)] from fun W hW => by
        have : Row W w2.heap.size [u8 ((mu.toNat : Int) + 1), u8 ((mu.toNat : Int) + 2), u8 ((mu.toNat : Int) + 3)] := by
          unfold Row
          rw [hW, heap_alloc_new]
          simp [bv_u8]
        exact this.rd)
      have HT := Lib.hid (show ∀ (W w4 : World) (X : Obj) (v : Value) (p : List UInt8), Own w4 W.heap.size v p → Below W.heap.size W w4 → W.heap = (w2.alloc X).heap → W.os = w2.os → W.tape = w2.tape → W.output = w2.output → p.length ≤ 10000 → w4.cell? ⟨gs, 4, none⟩ = some (.int .u8 (mu.toNat : Int)) ∧ Calls Tryd.prog 85 #[.pointer (some ⟨gs, 0, none⟩), v] w4 (fun e w' => ListPost w E S (fun q => q = g) gs es.length os e w' ∧ w'.cell? ⟨gs, 4, none⟩ = some (.int .u8 (mu.toNat : Int))) from fun W w4 X v p ho hb hW h1 h2 h3 hp => by
        have hsz : W.heap.size = w2.heap.size + 1 := by rw [hW]; simp
        have hb2 : Below w2.heap.size w2 w4 := ⟨hb.os.trans h1, hb.tape.trans h2, hb.output.trans h3, by have := hb.size; omega, fun q hq => (hb.block q (by omega)).trans (by rw [hW]; exact heap_alloc_old _ _ hq)⟩
        refine ⟨(World.cell?_of_block (w := w2) (a := ⟨gs, 4, none⟩) (hb2.block gs hgl2)).trans hms, ?_⟩
        exact list_tail w wr w2 w4 E S (fun q => q = g) gs es os mu (List.replicate k mu) HU2.out (by have := HN0.out; omega) hpost hb2 v p (ho.lowB (by omega)) hp)
      clear hpost hE hrow2
      go_wp2_with fail
      go_region_held3 (fun w' => w'.cell? ⟨gs, 4, none⟩ = some (.int .u8 (mu.toNat : Int))) (with_reducible first | exact hms | exact cellDrew hms | exact cellKeep hms _ | exact cellDrew (cellKeep hms _) | exact cellKeep (cellDrew hms) _)
        (first
         | (refine step_appendF rfl (.tmp 36) (.tmp 52) rfl (some ⟨g, 0, none⟩) k (List.replicate k mu) [u8 ((mu.toNat : Int) + 1), u8 ((mu.toNat : Int) + 2), u8 ((mu.toNat : Int) + 3)] rfl (fun h => by cases h) (by simp) (HRG.out _ _ rfl) w2.heap.size 3 3 rfl rfl (HR3.out _ rfl) (by decide) (by omega) ?_; intro v4 w4 ho4 hb4; obtain ⟨hms, hcall⟩ := HT.out _ w4 _ v4 _ ho4 hb4 rfl rfl rfl rfl (by simp; omega))
         | ((with_reducible refine hcall.mono ?_); rintro e w5 ⟨⟨rfl, hfin⟩, hms⟩))
      all_goals
        go_end0
        exact ⟨rfl, hfin⟩
set_option maxRecDepth 100000 in
set_option maxHeartbeats 1000000 in
theorem list_nil (w : World) (E S : Nat → Prop) (gs : Nat) (es : List (List UInt8)) (os : List (List (List UInt8))) (mark : Nat) (vL vW vO vP : Value) (h : ShelfIs w E S gs es es os os mark vL vW vO vP) (hes : es.length ≤ 200) :
    Calls Tryd.prog 43 #[.pointer (some ⟨gs, 0, none⟩), .slice none 0 0] w (ListPost w E S (fun _ => False) gs es.length os) := by
  obtain ⟨mu, hmu⟩ : ∃ mu : UInt8, mu.toNat = (mark + 4) % 256 := ⟨UInt8.ofNat ((mark + 4) % 256), by simp⟩
  obtain ⟨aL, cL, hc0⟩ := h.c0
  have hc4 := h.c4
  have hf4 := h.frozen 4
  have hset := h.setMark mu.toNat (by have := mu.toNat_lt; omega)
  have hgl := heap_lt h.cell
  have hu1 : Upd S w (w.setCell ⟨gs, 4, none⟩ (.int .u8 (mu.toNat : Int))) := ⟨rfl, rfl, rfl, by rw [World.size_setCell]; exact Nat.le_refl _, fun k hk hn => Below.heap_setCell _ _ _ _ (fun e => hn (by rw [show k = gs from e]; exact h.gS))⟩
  have he : ((mark : Int) + 4) % 256 = (mu.toNat : Int) := by omega
  have H := Lib.hid h; have HMU := Lib.hid hmu
  clear h hmu
  obtain ⟨n0, hn0⟩ : ∃ n0, n0 = es.length := ⟨_, rfl⟩
  rw [← hn0] at hc0 hes
  have HN0 := Lib.hid hn0
  clear hn0
  go_enter Tryd.func43, Tryd.ntmps43
  go_wp2_with fail
  rw [he]
  have hE1 : ∀ k, k < w.heap.size → E k → True := fun _ _ _ => trivial
  clear hE1
  revert hset hu1
  generalize hw1 : World.setCell _ _ _ = w1
  intro hset hu1
  clear hw1 hc0 hc4 hf4 he
  have HSET := Lib.hid hset; have HU1 := Lib.hid hu1
  clear hset hu1
  have hgl1 : gs < w1.heap.size := Nat.lt_of_lt_of_le hgl HU1.out.size
  refine wp_loop_rounds 1 ?_
  rw [rounds_succ]
  have hs2 := HSET.out.more (T := fun _ => False) (fun q hq => hq.elim)
  have hu2 : Upd (fun q => S q ∨ False) w w1 := HU1.out.mono fun _ h => .inl h
  have HS2 := Lib.hid hs2; have HU2 := Lib.hid hu2
  clear hs2 hu2
  go_wp2_with fail
  refine (hold_any w1 _ _ gs es os mu.toNat vL vW vO vP HS2.out (.slice none 0 0) [] ⟨none, 0, rfl, Nat.le_refl _, Rd.nil _ _, fun _ => rfl, fun h => absurd rfl h, by simp⟩ (by have := HN0.out; omega)).mono ?_
  rintro e w2 ⟨rfl, hpost, hE⟩
  have hms : w2.cell? ⟨gs, 4, none⟩ = some (.int .u8 (mu.toNat : Int)) := by
    obtain ⟨_, _, _, _, _, _, hs, _⟩ := hpost
    exact hs.c4
  have hgl2 : gs < w2.heap.size := block_lt hms
  have HP := Lib.hid hpost; have HMS := Lib.hid hms
  have HR3 := Lib.hid (show ∀ W : World, W.heap = (w2.alloc (.cells #[.int .u8 (((mu.toNat : Int) + 1) % 256), .int .u8 (((mu.toNat : Int) + 2) % 256), .int .u8 (((mu.toNat : Int) + 3) % 256)] 5)).heap → Rd W (some ⟨w2.heap.size, 0, none⟩) [u8 ((mu.toNat : Int) + 1), u8 ((mu.toNat : Int) + 2), u8 ((mu.toNat : Int) + 3)] from fun W hW => by
    have : Row W w2.heap.size [u8 ((mu.toNat : Int) + 1), u8 ((mu.toNat : Int) + 2), u8 ((mu.toNat : Int) + 3)] := by
      unfold Row
      rw [hW, heap_alloc_new]
      simp [bv_u8]
    exact this.rd)
  have HT := Lib.hid (show ∀ (W w4 : World) (X : Obj) (v : Value) (p : List UInt8), Own w4 W.heap.size v p → Below W.heap.size W w4 → W.heap = (w2.alloc X).heap → W.os = w2.os → W.tape = w2.tape → W.output = w2.output → p.length ≤ 10000 → w4.cell? ⟨gs, 4, none⟩ = some (.int .u8 (mu.toNat : Int)) ∧ Calls Tryd.prog 85 #[.pointer (some ⟨gs, 0, none⟩), v] w4 (fun e w' => ListPost w E S (fun _ => False) gs es.length os e w' ∧ w'.cell? ⟨gs, 4, none⟩ = some (.int .u8 (mu.toNat : Int))) from fun W w4 X v p ho hb hW h1 h2 h3 hp => by
    have hsz : W.heap.size = w2.heap.size + 1 := by rw [hW]; simp
    have hb2 : Below w2.heap.size w2 w4 := ⟨hb.os.trans h1, hb.tape.trans h2, hb.output.trans h3, by have := hb.size; omega, fun q hq => (hb.block q (by omega)).trans (by rw [hW]; exact heap_alloc_old _ _ hq)⟩
    refine ⟨(World.cell?_of_block (w := w2) (a := ⟨gs, 4, none⟩) (hb2.block gs hgl2)).trans hms, ?_⟩
    exact list_tail w w1 w2 w4 E S (fun _ => False) gs es os mu [] HU2.out (by have := HN0.out; omega) hpost hb2 v p (ho.lowB (by omega)) hp)
  clear hpost hE
  go_wp2_with fail
  go_region_held3 (fun w' => w'.cell? ⟨gs, 4, none⟩ = some (.int .u8 (mu.toNat : Int))) (with_reducible first | exact hms | exact cellDrew hms | exact cellKeep hms _ | exact cellDrew (cellKeep hms _) | exact cellKeep (cellDrew hms) _)
    (first
     | (refine step_appendF rfl (.tmp 36) (.tmp 52) rfl none 0 [] [u8 ((mu.toNat : Int) + 1), u8 ((mu.toNat : Int) + 2), u8 ((mu.toNat : Int) + 3)] rfl (fun _ => rfl) rfl (Rd.nil _ _) w2.heap.size 3 3 rfl rfl (HR3.out _ rfl) (by decide) (by omega) ?_; intro v4 w4 ho4 hb4; obtain ⟨hms, hcall⟩ := HT.out _ w4 _ v4 _ ho4 hb4 rfl rfl rfl rfl (by simp))
     | ((with_reducible refine hcall.mono ?_); rintro e w5 ⟨⟨rfl, hfin⟩, hms⟩))
  all_goals
    go_end0
    exact ⟨rfl, hfin⟩
/-- list, of any list that fills its row. -/
theorem list_full (w : World) (E S : Nat → Prop) (gs : Nat) (es : List (List UInt8)) (os : List (List (List UInt8))) (mark : Nat) (vL vW vO vP : Value) (h : ShelfIs w E S gs es es os os mark vL vW vO vP) (B : Nat) (ao : Option Addr) (n : Nat) (l : List UInt8) (hf : Full w B ao n l) (hg : ∀ k, rowOf ao = some k → ¬ S k) (hn : n ≤ 1000) (hes : es.length ≤ 200) :
    Calls Tryd.prog 43 #[.pointer (some ⟨gs, 0, none⟩), .slice ao n n] w (ListPost w E S (fun k => rowOf ao = some k) gs es.length os) := by
  obtain ⟨hl, ⟨rfl, rfl⟩ | ⟨g, rfl, h0, hB, hr⟩⟩ := hf
  · refine (list_nil w E S gs es os mark vL vW vO vP h hes).mono fun e w' hp => ?_
    have e1 : (fun k : Nat => rowOf none = some k) = fun _ => False := by funext k; simp [rowOf]
    rw [e1]; exact hp
  · refine (list_any w E S gs es os mark vL vW vO vP h g n l hl hr (hg g rfl) hn hes).mono fun e w' hp => ?_
    have e1 : (fun k : Nat => rowOf (some ⟨g, 0, none⟩) = some k) = fun k => k = g := by funext k; simp [rowOf, eq_comm]
    rw [e1]; exact hp
/-- A new shelf. -/
theorem shelf_new (w : World) (v : Value) (hv : v = .int .u8 0) : ShelfIs (w.alloc (.cells #[.slice none 0 0, .slice none 0 0, .slice none 0 0, .slice none 0 0, v] 64)) (fun _ => False) (fun k => k = w.heap.size) w.heap.size [] [] [] [] 0 (.slice none 0 0) (.slice none 0 0) (.slice none 0 0) (.slice none 0 0) := by
  subst hv
  have hI : In (fun k => k = w.heap.size) (fun _ => False) w.heap.size (.slice none 0 0) := fun k hk => by cases hk
  have hA : Apart (.slice none 0 0) (.slice none 0 0) := fun k hk => by cases hk
  exact ⟨heap_alloc_new w _, by omega, RowsS.nil _ _, RowsS.nil _ _, RRowsS.nil _ _, RRowsS.nil _ _, rfl, fun h => h, fun k h => h.elim, fun k h => by rw [h]; simp, hI, hI, hI, hI, hA, hA, hA, hA, hA, hA⟩
end Go.Proofs.YtoophonmonojcaaDoor

/- Contracts of jotterlaw03's (*Shelf).hold, list, untouched. -/
import Derived.Test.YtoophonmonojcaaDoorShelf
import Derived.Deep.RegionHeld3
namespace Go.Proofs.YtoophonmonojcaaDoor
open Go.RowKit

/-- 'append' of bytes at an operation. -/
theorem wp_appendB {o : Oper} {a : Act} {w : World} {K : Act → World → Prop} {Q : Exit → Act → World → Prop} (s x : Operand)
    (ho : o.op = .call { callee := .builtin .append, args := #[s, x], argTypes := #[27, 27] })
    (B : Nat) (v : Value) (l m : List UInt8) (hs : a.eval s = v) (hown : Own w B v l) (ao : Option Addr) (n2 c2 : Nat) (hx : a.eval x = .slice ao n2 c2) (hnil : ao = none → c2 = 0) (hm : m.length = n2) (hr : Rd w ao m)
    (hle : l.length + n2 ≤ 140737488355328) (hB : B ≤ w.heap.size)
    (h : ∀ v' w', Own w' B v' (l ++ m) → w.grownBy w' v.ownBlock → (v'.ownBlock = v.ownBlock ∨ v'.ownBlock = some w.heap.size) → K (a.put o.dst v') w') : o.wp Tryd.prog a w K Q := by
  obtain ⟨i0, hi, hz0, hz1, hz2⟩ := info_parts Tryd.infoU8
  subst hm
  have key : ∀ (ad : Addr) (ms : List UInt8), a.eval x = .slice (some ad) ms.length c2 → (∀ j u, (ms.map bv)[j]? = some u → w.cell? (ad.add j) = some u) → l.length + ms.length ≤ 140737488355328 → (∀ v' w', Own w' B v' (l ++ ms) → w.grownBy w' v.ownBlock → (v'.ownBlock = v.ownBlock ∨ v'.ownBlock = some w.heap.size) → K (a.put o.dst v') w') → o.wp Tryd.prog a w K Q := by
    intro ad ms hx' hc hle' h'
    obtain ⟨v', w', hr, h2, h3, _, h5⟩ := run_append_own_at (P := Tryd.prog) w B 27 o.type 5 i0 (.int .u8 0) 1 1 Tryd.underlying27 hi hz0 hz1 hz2 rfl (by decide) v l.length (l.map bv) hown ad ms.length c2 (ms.map bv) (by simp) hc (oneCell_bv ms) (by unfold maxLen; omega) (by omega) hB
    unfold Oper.wp execOp
    simp only [ho, resolve, invoke, builtin, Sem.run_bind, Sem.run_pure, Result.andThen_ok, List.map_toArray, List.map_cons, List.map_nil, hs, hx', hr]
    exact h' v' w' (by simpa [Own] using h2) h3 h5
  rcases Nat.eq_zero_or_pos m.length with h0 | h0
  · obtain rfl : m = [] := List.eq_nil_of_length_eq_zero h0
    cases ao with
    | none =>
      obtain rfl := hnil rfl
      have hrun := run_append_owned_none (P := Tryd.prog) (w := w) B 27 o.type 5 i0 1 Tryd.underlying27 hi v l.length (l.map bv) hown
      unfold Oper.wp
      simp [execOp, ho, resolve, invoke, builtin, hs, hx, hrun, Result.andThen]
      exact h v w (by rw [List.append_nil]; exact hown) (World.grownBy.refl _ _) (.inl rfl)
    | some ad => exact key ad [] hx (fun j u h => by simp at h) hle h
  · obtain ⟨b, off, rfl, _, hc⟩ := hr.some h0
    exact key ⟨b, off, none⟩ m hx (bv_cells hc) hle h
theorem step_appendO {ops : Array Oper} {o : Oper} {a : Act} {w : World} {K : Act → World → Prop} {Q : Exit → Act → World → Prop} {E : Prop} (hgd : o.guard = none) (s x : Operand)
    (ho : o.op = .call { callee := .builtin .append, args := #[s, x], argTypes := #[27, 27] })
    (B : Nat) (v : Value) (l m : List UInt8) (hs : a.eval s = v) (hown : Own w B v l) (ao : Option Addr) (n2 c2 : Nat) (hx : a.eval x = .slice ao n2 c2) (hnil : ao = none → c2 = 0) (hm : m.length = n2) (hr : Rd w ao m)
    (hle : l.length + n2 ≤ 140737488355328) (hB : B ≤ w.heap.size)
    (h : ∀ v' w', Own w' B v' (l ++ m) → w.grownBy w' v.ownBlock → (v'.ownBlock = v.ownBlock ∨ v'.ownBlock = some w.heap.size) → K (a.put o.dst v') w') :
    if Region.wanted o (yielded ops a.tmps) = true then Oper.wp Tryd.prog o a w K Q else E := by
  have hw : Region.wanted o (yielded ops a.tmps) = true := by simp [Region.wanted, hgd]
  rw [if_pos hw]
  exact wp_appendB s x ho B v l m hs hown ao n2 c2 hx hnil hm hr hle hB h

/-- What follows the store of the second list. -/
theorem ShelfIs.grewW {w2 w3 w5 : World} {E S : Nat → Prop} {gs : Nat} {eL eW : List (List UInt8)} {oO oP : List (List (List UInt8))} {mark : Nat} {vL vW vO vP : Value} (h : ShelfIs w2 E S gs eL eW oO oP mark vL vW vO vP) {vs : List Value} (h2 : vs.length = eW.length) (h3 : ∀ (i : Nat) (x : Value) (p : List UInt8), vs[i]? = some x → eW[i]? = some p → SlS w2 E x p)
    (hb : Below w2.heap.size w2 w3) {v4 : Value} {p : List UInt8} (ho : Own w3 w2.heap.size v4 p) {o : Obj} (hg : (w3.alloc o).grownBy w5 vW.ownBlock) {g1 cap1 : Nat} (hown : w5.ownsRow 0 27 1 (.slice (some ⟨g1, 0, none⟩) (eW.length + 1) cap1) (eW.length + 1) (vs ++ [v4])) (hat : vW.ownBlock = some g1 ∨ g1 = w3.heap.size + 1) (hp : p.length ≤ 140737488355328) :
    ∃ E' S', ShelfIs (w5.setCell ⟨gs, 1, none⟩ (.slice (some ⟨g1, 0, none⟩) (eW.length + 1) cap1)) E' S' gs eL (eW ++ [p]) oO oP mark vL (.slice (some ⟨g1, 0, none⟩) (eW.length + 1) cap1) vO vP ∧ (∀ k, E k → E' k) ∧ (∀ k, E' k → E k ∨ w2.heap.size ≤ k) ∧ (∀ k, S k → S' k) ∧ (∀ k, S' k → S k ∨ w2.heap.size ≤ k) ∧ Upd S w2 (w5.setCell ⟨gs, 1, none⟩ (.slice (some ⟨g1, 0, none⟩) (eW.length + 1) cap1)) ∧ ∀ k, k < w2.heap.size → E k → (w5.setCell ⟨gs, 1, none⟩ (.slice (some ⟨g1, 0, none⟩) (eW.length + 1) cap1)).heap[k]? = w2.heap[k]? := by
  have hlt : ∀ k, v4.ownBlock = some k → w2.heap.size ≤ k ∧ k < w3.heap.size := fun k hk => World.ownsRow.lt ho k hk
  have hsz := hb.size
  have hs5 : w3.heap.size + 1 ≤ w5.heap.size := by have := hg.size; simpa using this
  have h'' := (h.keep hb).more (T := fun k => v4.ownBlock = some k) (fun k hk => ⟨fun hS => by have := h.lt k hS; have := (hlt k hk).1; omega, (hlt k hk).2⟩)
  have hk5 : ∀ k, k < w3.heap.size → some k ≠ vW.ownBlock → w5.heap[k]? = w3.heap[k]? := fun k hk hne => (hg.block k (by simp; omega) hne).trans (heap_alloc_old _ _ hk)
  refine ⟨_, _, h''.setW h2 (fun i x q hx hq => ((h3 i x q hx hq).same (fun k hk _ => hb.block k hk)).mono fun k hk => .inl hk) hown hk5 (by omega) (by rcases hat with e | e; exact .inl e; exact .inr (by omega)) (ho.slS (fun k hk => .inr hk) hp), fun k hk => .inl hk, ?_, fun k hk => .inl (.inl hk), ?_, ?_, fun k hk he => ?_⟩
  · rintro k (hk | hk)
    · exact .inl hk
    · exact .inr (hlt k hk).1
  · rintro k ((hk | hk) | rfl)
    · exact .inl hk
    · exact .inr (hlt k hk).1
    · rcases hat with e | e
      · exact .inl (h.iW _ e).1
      · exact .inr (by omega)
  · refine ⟨(show w5.os = w2.os from hg.os.trans hb.os), (show w5.tape = w2.tape from hg.tape.trans hb.tape), (show w5.output = w2.output from hg.output.trans hb.output), by rw [World.size_setCell]; omega, fun k hk hn => ?_⟩
    rw [Below.heap_setCell _ _ _ _ (fun e => hn (by rw [e]; exact h.gS))]
    exact (hk5 k (by omega) fun e => hn (h.iW k e.symm).1).trans (hb.block k hk)
  · rw [Below.heap_setCell _ _ _ _ (fun e => h.gE (by rw [← show k = gs from e]; exact he))]
    exact (hk5 k (by omega) fun e => (h.iW k e.symm).2.1 he).trans (hb.block k hk)

/-- What hold leaves. -/
def HoldPost (w : World) (E S : Nat → Prop) (gs : Nat) (es : List (List UInt8)) (os : List (List (List UInt8))) (mark : Nat) (e : Ending) (w' : World) : Prop :=
  e = .returned (.tuple #[]) ∧ ShelfPost w E S (fun _ => False) gs es os mark w' ∧ ∀ k, k < w.heap.size → E k → w'.heap[k]? = w.heap[k]?

set_option maxRecDepth 100000 in
set_option maxHeartbeats 1000000 in
theorem hold_any (w : World) (E S : Nat → Prop) (gs : Nat) (es : List (List UInt8)) (os : List (List (List UInt8))) (mark : Nat) (vL vW vO vP : Value) (h : ShelfIs w E S gs es es os os mark vL vW vO vP) (v : Value) (p : List UInt8) (hv : SlS w E v p) (hn : es.length ≤ 100000) :
    Calls Tryd.prog 85 #[.pointer (some ⟨gs, 0, none⟩), v] w (HoldPost w E S gs (es ++ [p]) os mark) := by
  obtain ⟨i0, hi, hz0, hz1, hz2⟩ := info_parts Tryd.infoBytes
  have hc0 : w.cell? ⟨gs, 0, none⟩ = some vL := by simp [World.cell?, h.cell]
  have hgl := heap_lt h.cell
  obtain ⟨ao, cap, rfl, hcap, hrd, hnil, hE, hp⟩ := hv
  have hv : SlS w E (.slice ao p.length cap) p := ⟨ao, cap, rfl, hcap, hrd, hnil, hE, hp⟩
  obtain ⟨vsL, hoL, hlL, heL⟩ := h.rL
  obtain ⟨aL, cL, eL, _, _, _⟩ := ownsRow_shape hoL
  have H := Lib.hid h; have HV := Lib.hid hv; have HOL := Lib.hid hoL; have HLL := Lib.hid hlL; have HEL := Lib.hid heL; have HRD := Lib.hid hrd; have HNIL := Lib.hid hnil
  have EL := Lib.hid eL
  rw [eL] at hc0
  clear h hv hoL hlL heL hrd hnil hE eL hcap
  obtain ⟨n, hn'⟩ : ∃ n, n = es.length := ⟨_, rfl⟩
  rw [← hn'] at hc0 hn
  obtain ⟨m, hm'⟩ : ∃ m, m = p.length := ⟨_, rfl⟩
  rw [← hm'] at hp ⊢
  have HN := Lib.hid hn'; have HM := Lib.hid hm'
  clear hn' hm'
  have hone : (Value.slice ao m cap).oneCell' = true := rfl
  have HO1 := Lib.hid (show (w.alloc (.cells #[.slice ao m cap] 27)).ownsRow 0 27 1 (.slice aL n cL) n vsL by
    have := HOL.out.alloc (.cells #[.slice ao m cap] 27)
    rw [EL.out, ← HN.out] at this; exact this)
  have HG0 := Lib.hid (heap_alloc_new w (.cells #[.slice ao m cap] 27))
  go_enter Tryd.func85, Tryd.ntmps85
  have HK0 := Lib.hid (show ∀ w1 : World, (w.alloc (.cells #[.slice ao m cap] 27)).grownBy w1 (Value.slice aL n cL).ownBlock → ∀ k, k < w.heap.size → some k ≠ vL.ownBlock → w1.heap[k]? = w.heap[k]? from fun w1 hg k hk hne => by
    rw [EL.out, ← HN.out] at hne
    exact (hg.block k (by simp; omega) hne).trans (heap_alloc_old _ _ hk))
  go_wp2_with (at_builtin; go_must (with_reducible refine wpList_append_lies _ rfl (.tmp 8) (.tmp 10) 43 rfl 0 27 i0 (.slice none 0 0) 1 24 Tryd.underlying43 hi hz0 hz1 hz2 rfl (by decide) (.slice aL n cL) n vsL rfl HO1.out ⟨w.heap.size, 0, none⟩ 1 1 [.slice ao m cap] rfl rfl (World.news_of_block HG0.out) (fun u hu => by simp at hu; subst hu; exact hone) (by decide) (by unfold maxLen; omega) (by omega) (Nat.zero_le _) (w.heap.size + 1) (by simp) ?_); intro g1 cap1 w1 hown1 hgrow1 hat1 hlt1; have hgs1 : w1.heap[gs]? = w.heap[gs]? := HK0.out w1 hgrow1 gs hgl (fun e => (H.out.iL gs e.symm).2.2 rfl); have hcg : w1.cell? ⟨gs, 0, none⟩ = some (.slice aL n cL) := (World.cell?_of_block (w := w) (a := ⟨gs, 0, none⟩) hgs1).trans hc0; have hfg : w1.frozen? ⟨gs, 0, none⟩ = false := by simp [World.frozen?, hgs1, H.out.cell])
  have hset := H.out.setL (w1 := w1) (g1 := g1) (cap1 := cap1) HLL.out HEL.out (by rw [← HN.out]; exact hown1) (HK0.out w1 hgrow1) (by have := hgrow1.size; simp at this; omega) (by rw [EL.out, ← HN.out]; rcases hat1 with h | h; exact .inl h; exact .inr (by omega)) (by rw [HM.out] ; exact HV.out)
  rw [← HN.out] at hset
  have hszs : w.heap.size + 1 ≤ w1.heap.size := by have := hgrow1.size; simpa using this
  have hu1 : Upd S w (w1.setCell ⟨gs, 0, none⟩ (.slice (some ⟨g1, 0, none⟩) (n + 1) cap1)) := by
    refine ⟨(show w1.os = w.os from hgrow1.os), (show w1.tape = w.tape from hgrow1.tape), (show w1.output = w.output from hgrow1.output), by rw [World.size_setCell]; omega, fun k hk hn => ?_⟩
    rw [Below.heap_setCell _ _ _ _ (fun e => hn (by rw [e]; exact H.out.gS))]
    exact HK0.out w1 hgrow1 k hk fun e => hn (H.out.iL k e.symm).1
  have hg1b : ∀ k, (S k ∨ k = g1) → S k ∨ w.heap.size ≤ k := by
    rintro k (hk | rfl)
    · exact .inl hk
    · rcases hat1 with h | h
      · exact .inl (H.out.iL k (by rw [EL.out, ← HN.out]; exact h)).1
      · exact .inr (by omega)
  have hE2 : ∀ k, k < w.heap.size → E k → (w1.setCell ⟨gs, 0, none⟩ (.slice (some ⟨g1, 0, none⟩) (n + 1) cap1)).heap[k]? = w.heap[k]? := fun k hk he => by
    rw [Below.heap_setCell _ _ _ _ (fun e => H.out.gE (by rw [← show k = gs from e]; exact he))]
    exact HK0.out w1 hgrow1 k hk fun e => (H.out.iL k e.symm).2.1 he
  revert hset hu1 hE2
  generalize hw2 : World.setCell _ _ _ = w2
  intro hset hu1 hE2
  have HS2 := Lib.hid hset; have HU1 := Lib.hid hu1; have HG1B := Lib.hid hg1b
  have hz2s : w.heap.size ≤ w2.heap.size := hu1.size
  clear hw2 hset hu1 hown1 hgrow1 hat1 hlt1 hgs1 hcg hfg hg1b hc0 hszs HK0 HG0 HO1 HOL HLL HEL
  clear w1
  obtain ⟨vsW, hoW, hlW, heW⟩ := HS2.out.rW
  obtain ⟨aW, cW, eW, _, _, _⟩ := ownsRow_shape hoW
  have hgs2 : w2.heap[gs]? = some (.cells #[.slice (some ⟨g1, 0, none⟩) (n + 1) cap1, vW, vO, vP, .int .u8 (mark : Int)] 64 (0, 0)) := HS2.out.cell
  have hc1 : w2.cell? ⟨gs, 1, none⟩ = some vW := by simp [World.cell?, hgs2]
  have hf1 : w2.frozen? ⟨gs, 1, none⟩ = false := by simp [World.frozen?, hgs2]
  rw [eW, ← HN.out] at hc1
  have hgl2 : gs < w2.heap.size := by omega
  have hv2 := HV.out.same hE2
  have HE2K := Lib.hid hE2
  have HRD2 := Lib.hid (show ∀ W : World, W.heap = (w2.alloc (.cells #[] 5)).heap → Rd W ao p from fun W hW => by
    obtain ⟨ao', cap', e, _, h3, _, _, _⟩ := hv2
    cases e
    intro i hi
    obtain ⟨b, off, e, hc⟩ := h3 i hi
    exact ⟨b, off, e, (World.cell?_of_block (w := w2) (a := ⟨b, off + i, none⟩) (by rw [hW]; exact heap_alloc_old _ _ (block_lt hc))).trans hc⟩)
  clear hv2
  have HE2 := Lib.hid (show ∀ W : World, W.heap = (w2.alloc (.cells #[] 5)).heap → Own W w2.heap.size (.slice (some ⟨w2.heap.size, 0, none⟩) 0 0) [] from fun W hW => by
    refine ⟨rfl, .inr ⟨w2.heap.size, 0, #[], rfl, Nat.le_refl _, ?_, Nat.le_refl _, by unfold maxLen; omega, rfl, rfl⟩⟩
    rw [hW]; exact heap_alloc_new w2 _)
  have HT := Lib.hid (show ∀ (W w3 : World) (v4 : Value), W.grownBy w3 (some w2.heap.size) → W.heap = (w2.alloc (.cells #[] 5)).heap → W.os = w2.os → W.tape = w2.tape → W.output = w2.output → Own w3 w2.heap.size v4 ([] ++ p) → Own w3 w2.heap.size v4 p ∧ Below w2.heap.size w2 w3 ∧ w3.cell? ⟨gs, 1, none⟩ = some (.slice aW n cW) ∧ w3.frozen? ⟨gs, 1, none⟩ = false ∧ gs < w3.heap.size ∧ ∀ W' : World, W'.heap = (w3.alloc (.cells #[v4] 27)).heap → W'.ownsRow 0 27 1 (.slice aW n cW) n vsW ∧ W'.heap[w3.heap.size]? = some (.cells #[v4] 27 (0, 0)) ∧ ∀ w5, W'.grownBy w5 (Value.slice aW n cW).ownBlock → w5.cell? ⟨gs, 1, none⟩ = some (.slice aW n cW) ∧ w5.frozen? ⟨gs, 1, none⟩ = false from by
    intro W w3 v4 hg hW h1 h2 h3 ho
    have hb : Below w2.heap.size w2 w3 := by
      refine ⟨hg.os.trans h1, hg.tape.trans h2, hg.output.trans h3, ?_, fun k hk => ?_⟩
      · have := hg.size; rw [hW] at this; simp at this; omega
      · refine (hg.block k (by rw [hW]; simp; omega) (fun e => by cases e; omega)).trans ?_
        rw [hW]; exact heap_alloc_old _ _ hk
    have hs3 := hb.size
    refine ⟨ho, hb, (World.cell?_of_block (w := w2) (a := ⟨gs, 1, none⟩) (hb.block gs hgl2)).trans hc1, (World.frozen?_of_block (w := w2) (a := ⟨gs, 1, none⟩) (hb.block gs hgl2)).trans hf1, by omega, fun W' hW' => ⟨?_, by rw [hW']; exact heap_alloc_new w3 _, fun w5 hg5 => ?_⟩⟩
    · have hr : w2.ownsRow 0 27 1 (.slice aW n cW) n vsW := by
        have := hoW
        rw [eW] at this
        rw [HN.out]; exact this
      refine ownsRow_same hr fun k hk => ?_
      have hk2 := (World.ownsRow.lt hr k hk).2
      rw [hW', heap_alloc_old _ _ (by omega)]
      exact hb.block k hk2
    · have hg5b : w5.heap[gs]? = w2.heap[gs]? := by
        refine (hg5.block gs (by rw [hW']; simp; omega) (fun e => (HS2.out.iW gs (by rw [eW, ← HN.out]; exact e.symm)).2.2 rfl)).trans ?_
        rw [hW', heap_alloc_old _ _ (by omega)]
        exact hb.block gs hgl2
      exact ⟨(World.cell?_of_block (w := w2) (a := ⟨gs, 1, none⟩) hg5b).trans hc1, (World.frozen?_of_block (w := w2) (a := ⟨gs, 1, none⟩) hg5b).trans hf1⟩)
  have EW := Lib.hid eW; have HOW := Lib.hid hoW; have HLW := Lib.hid hlW; have HEW := Lib.hid heW
  clear hoW hlW heW eW
  go_wp2_with fail
  go_region_law (first
    | (refine step_appendO rfl (.tmp 19) (.tmp 20) rfl w2.heap.size (.slice (some ⟨w2.heap.size, 0, none⟩) 0 0) [] p rfl (HE2.out _ rfl) ao m cap rfl HNIL.out HM.out.symm (HRD2.out _ rfl) (by simp; omega) (by simp) ?_; intro v3 w3 ho3 hg3 hat3; obtain ⟨ho4, hb3, hc3, hf3, hgl3, hrow3⟩ := HT.out _ w3 v3 hg3 rfl rfl rfl rfl ho3; obtain ⟨a4, cap4, rfl, hcap4, hmax4, hr4, hb4, hz4, hg4⟩ := ho4.shape; rw [← HM.out] at hrow3 ho4 ⊢)
    | (refine step_append_lies _ rfl (.tmp 18) (.tmp 22) 43 rfl 0 27 i0 (.slice none 0 0) 1 24 Tryd.underlying43 hi hz0 hz1 hz2 rfl (by decide) (.slice aW n cW) n vsW rfl (hrow3 _ rfl).1 ⟨w3.heap.size, 0, none⟩ 1 1 [.slice a4 m cap4] rfl rfl (World.news_of_block (hrow3 _ rfl).2.1) (fun u hu => by simp at hu; subst hu; rfl) (by decide) (by unfold maxLen; omega) (by omega) (Nat.zero_le _) (w3.heap.size + 1) (by simp) ?_; intro g5 cap5 w5 hown5 hgrow5 hat5 hlt5; obtain ⟨hc5, hf5⟩ := (hrow3 _ rfl).2.2 w5 hgrow5))
  all_goals
    have hgr : (w3.alloc (.cells #[.slice a4 m cap4] 27)).grownBy w5 vW.ownBlock := by rw [EW.out, ← HN.out]; exact ⟨hgrow5.os, hgrow5.tape, hgrow5.output, hgrow5.size, hgrow5.block⟩
    obtain ⟨E', S', h1, h2, h3, h4, h5, h6, h7⟩ := HS2.out.grewW HLW.out HEW.out hb3 ho4 hgr (g1 := g5) (cap1 := cap5) (by rw [← HN.out]; exact hown5) (by rw [EW.out, ← HN.out]; exact hat5) (by rw [← HM.out]; exact hp)
    rw [← HN.out] at h1 h6 h7
    clear hc5 hf5 hc3 hf3 hc1 hf1
    revert h1 h6 h7
    generalize World.setCell _ _ _ = w6
    intro h1 h6 h7
    go_end0
    refine ⟨rfl, ⟨E', S', _, _, _, _, h1, h2, fun k hk => ?_, fun k hk => h4 k (.inl hk), fun k hk => ?_, ?_⟩, fun k hk he => (h7 k (by omega) he).trans (HE2K.out k hk he)⟩
    · rcases h3 k hk with h | h
      · exact .inl h
      · exact .inr (.inr (by omega))
    · rcases h5 k hk with h | h
      · rcases HG1B.out k h with h | h
        · exact .inl h
        · exact .inr (.inr h)
      · exact .inr (.inr (by omega))
    · exact (HU1.out.trans h6 (fun q hq hs => by
        rcases HG1B.out q hs with h | h
        · exact h
        · omega)).mono fun k hk => .inl hk
end Go.Proofs.YtoophonmonojcaaDoor

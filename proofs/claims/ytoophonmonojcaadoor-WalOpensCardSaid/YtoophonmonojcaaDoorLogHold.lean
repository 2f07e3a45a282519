/- Contract of (*wal.Log).hold. -/
import Derived.Test.YtoophonmonojcaaDoorLog
import Derived.Laws.Runes
namespace Go.Proofs.YtoophonmonojcaaDoor
open Go.RowKit

/-- A guard: the step is this append. -/
theorem step_isAppend {P : Program} {ops : Array Oper} {o : Oper} {a : Act} {w : World} {K : Act → World → Prop} {Q : Exit → Act → World → Prop} {E : Prop} (s x : Operand) (t : TypeId) (_ho : o.op = .call { callee := .builtin .append, args := #[s, x], argTypes := #[t, t] })
    (h : if Region.wanted o (yielded ops a.tmps) = true then Oper.wp P o a w K Q else E) : if Region.wanted o (yielded ops a.tmps) = true then Oper.wp P o a w K Q else E := h
theorem wrap_sum (t m : Nat) (h : t + m ≤ 1000000000000) : IntKind.i64.wrap ((t : Int) + (m : Int)) = (t : Int) + (m : Int) := wrap_small _ (by omega) (by omega)
theorem wrap_sum8 (t m : Nat) (h : t + m ≤ 1000000000000) : IntKind.i64.wrap ((t : Int) + (m : Int) + 8) = (t : Int) + (m : Int) + 8 := wrap_small _ (by omega) (by omega)
set_option maxRecDepth 100000 in
set_option maxHeartbeats 1000000 in
theorem lhold_any (w : World) (E S : Nat → Prop) (gl gd : Nat) (lv ev : Value) (ps : List (List UInt8)) (h : LogAt w E S gl gd lv ev ps ps) (v : Value) (p : List UInt8) (hv : SlS w E v p) (hn : ps.length ≤ 1000000) (ht : tot ps ≤ 1000000000) (hp1 : p.length ≤ 1000000000) :
    Calls Tryd.prog 96 #[.pointer (some ⟨gl, 0, none⟩), v] w (LHoldPost w E S gl gd (ps ++ [p])) := by
  obtain ⟨i0, hi, hz0, hz1, hz2⟩ := info_parts Tryd.infoBytes
  obtain ⟨j0, hj, hy0, hy1, hy2⟩ := info_parts Tryd.infoInt
  have hc0 := h.c1
  have hgl := heap_lt h.cell
  obtain ⟨ao, cap, rfl, hcap, hrd, hnil, hE, hp⟩ := hv
  have hv : SlS w E (.slice ao p.length cap) p := ⟨ao, cap, rfl, hcap, hrd, hnil, hE, hp⟩
  obtain ⟨vsL, hoL, hlL, heL⟩ := h.list
  obtain ⟨aL, cL, eL, -, -, -⟩ := ownsRow_shape hoL
  have H := Lib.hid h; have HV := Lib.hid hv; have HOL := Lib.hid hoL; have HLL := Lib.hid hlL; have HEL := Lib.hid heL
  have EL := Lib.hid eL
  rw [eL] at hc0
  clear h hv hoL hlL heL hrd hnil hE eL hcap hp
  obtain ⟨n, hn'⟩ : ∃ n, n = ps.length := ⟨_, rfl⟩
  rw [← hn'] at hc0 hn
  obtain ⟨m, hm'⟩ : ∃ m, m = p.length := ⟨_, rfl⟩
  rw [← hm'] at hp1 ⊢
  obtain ⟨t, ht'⟩ : ∃ t, t = tot ps := ⟨_, rfl⟩
  rw [← ht'] at ht
  have HN := Lib.hid hn'; have HM := Lib.hid hm'; have HTOT := Lib.hid ht'
  clear hn' hm' ht'
  have hone : (Value.slice ao m cap).oneCell' = true := rfl
  have HO1 := Lib.hid (show (w.alloc (.cells #[.slice ao m cap] 27)).ownsRow 0 27 1 (.slice aL n cL) n vsL by
    have := HOL.out.alloc (.cells #[.slice ao m cap] 27)
    rw [EL.out, ← HN.out] at this; exact this)
  have HG0 := Lib.hid (heap_alloc_new w (.cells #[.slice ao m cap] 27))
  have HK0 := Lib.hid (show ∀ w1 : World, (w.alloc (.cells #[.slice ao m cap] 27)).grownBy w1 (Value.slice aL n cL).ownBlock → ∀ k, k < w.heap.size → some k ≠ lv.ownBlock → w1.heap[k]? = w.heap[k]? from fun w1 hg k hk hne => by
    rw [EL.out, ← HN.out] at hne
    exact (hg.block k (by simp; omega) hne).trans (heap_alloc_old _ _ hk))
  go_enter Tryd.func96, Tryd.ntmps96
  go_wp2_with (at_builtin; go_must (with_reducible refine wpList_append_lies _ rfl (.tmp 8) (.tmp 10) 43 rfl 0 27 i0 (.slice none 0 0) 1 24 Tryd.underlying43 hi hz0 hz1 hz2 rfl (by decide) (.slice aL n cL) n vsL rfl HO1.out ⟨w.heap.size, 0, none⟩ 1 1 [.slice ao m cap] rfl rfl (World.news_of_block HG0.out) (fun u hu => by simp at hu; subst hu; exact hone) (by decide) (by unfold maxLen; omega) (by omega) (Nat.zero_le _) (w.heap.size + 1) (by simp) ?_); intro g1 cap1 w1 hown1 hgrow1 hat1 hlt1; have hgs1 : w1.heap[gl]? = w.heap[gl]? := HK0.out w1 hgrow1 gl hgl (fun e => (H.out.iL gl e.symm).2.2 rfl); have hcg : w1.cell? ⟨gl, 1, none⟩ = some (.slice aL n cL) := (World.cell?_of_block (w := w) (a := ⟨gl, 1, none⟩) hgs1).trans hc0; have hfg : w1.frozen? ⟨gl, 1, none⟩ = false := by simp [World.frozen?, hgs1, H.out.cell])
  have hset := H.out.setList (w1 := w1) (g1 := g1) (cap1 := cap1) HLL.out HEL.out (by rw [← HN.out]; exact hown1) (HK0.out w1 hgrow1) (by have := hgrow1.size; simp at this; omega) (by rw [EL.out, ← HN.out]; rcases hat1 with h | h; exact .inl h; exact .inr (by omega)) (by rw [HM.out]; exact HV.out)
  rw [← HN.out] at hset
  have hszs : w.heap.size + 1 ≤ w1.heap.size := by have := hgrow1.size; simpa using this
  have hu1 : Upd S w (w1.setCell ⟨gl, 1, none⟩ (.slice (some ⟨g1, 0, none⟩) (n + 1) cap1)) := by
    refine ⟨(show w1.os = w.os from hgrow1.os), (show w1.tape = w.tape from hgrow1.tape), (show w1.output = w.output from hgrow1.output), by rw [World.size_setCell]; omega, fun k hk hn => ?_⟩
    rw [Below.heap_setCell _ _ _ _ (fun e => hn (by rw [e]; exact H.out.gS))]
    exact HK0.out w1 hgrow1 k hk fun e => hn (H.out.iL k e.symm).1
  have hg1b : ∀ k, (S k ∨ k = g1) → S k ∨ w.heap.size ≤ k := by
    rintro k (hk | rfl)
    · exact .inl hk
    · rcases hat1 with h | h
      · exact .inl (H.out.iL k (by rw [EL.out, ← HN.out]; exact h)).1
      · exact .inr (by omega)
  have hE2 : ∀ k, k < w.heap.size → E k → (w1.setCell ⟨gl, 1, none⟩ (.slice (some ⟨g1, 0, none⟩) (n + 1) cap1)).heap[k]? = w.heap[k]? := fun k hk he => by
    rw [Below.heap_setCell _ _ _ _ (fun e => H.out.gE (by rw [← show k = gl from e]; exact he))]
    exact HK0.out w1 hgrow1 k hk fun e => (H.out.iL k e.symm).2.1 he
  revert hset hu1 hE2
  generalize hw2 : World.setCell _ _ _ = w2
  intro hset hu1 hE2
  have HS2 := Lib.hid hset; have HU1 := Lib.hid hu1; have HG1B := Lib.hid hg1b; have HE2 := Lib.hid hE2
  have hz2s : w.heap.size ≤ w2.heap.size := hu1.size
  clear hw2 hset hu1 hE2 hown1 hgrow1 hat1 hlt1 hgs1 hcg hfg hg1b hc0 hszs HK0 HG0 HO1 HOL HLL HEL
  clear w1
  obtain ⟨aV, cV, eV, -, -, -⟩ := ownsRow_shape HS2.out.ends
  have hgs2 := HS2.out.cell
  have hc2 : w2.cell? ⟨gl, 2, none⟩ = some ev := HS2.out.c2
  have hf2 : w2.frozen? ⟨gl, 2, none⟩ = false := HS2.out.frozen 2
  have HEND := Lib.hid (show ∀ W : World, W.heap = w2.heap → Calls Tryd.prog 128 #[.pointer (some ⟨gl, 0, none⟩)] W (RetQ W (.int .i64 (t : Int))) from fun W hW => by
    have := end_any gl ev ps W ((World.cell?_of_block (w := w2) (a := ⟨gl, 2, none⟩) (by rw [hW])).trans hc2) (ownsRow_same HS2.out.ends fun k _ => by rw [hW]) (by have := HN.out; omega)
    rw [HTOT.out]; exact this)
  rw [eV, ← HN.out] at hc2
  have hgl2 : gl < w2.heap.size := by omega
  have HROW := Lib.hid (show ∀ W : World, ∀ X : Obj, W.heap = (w2.alloc X).heap → W.ownsRow 0 3 1 (.slice aV n cV) n ((endsL 0 ps).map iv) from fun W X hW => by
    have hr : w2.ownsRow 0 3 1 (.slice aV n cV) n ((endsL 0 ps).map iv) := by
      have := HS2.out.ends
      rw [eV] at this
      rw [HN.out]; exact this
    refine ownsRow_same hr fun k hk => ?_
    rw [hW, heap_alloc_old _ _ (World.ownsRow.lt hr k hk).2])
  have HNEW := Lib.hid (show ∀ W : World, ∀ X, W.heap = (w2.alloc (.cells #[X] 3)).heap → W.heap[w2.heap.size]? = some (.cells #[X] 3 (0, 0)) from fun W X hW => by rw [hW]; exact heap_alloc_new w2 _)
  have HT := Lib.hid (show ∀ (W w5 : World) (X : Obj), W.grownBy w5 (Value.slice aV n cV).ownBlock → W.heap = (w2.alloc X).heap → w5.cell? ⟨gl, 2, none⟩ = some (.slice aV n cV) ∧ w5.frozen? ⟨gl, 2, none⟩ = false from fun W w5 X hg hW => by
    have hb : w5.heap[gl]? = w2.heap[gl]? := by
      refine (hg.block gl (by rw [hW]; simp; omega) (fun e => (HS2.out.iV gl (by rw [eV, ← HN.out]; exact e.symm)).2.2 rfl)).trans ?_
      rw [hW, heap_alloc_old _ _ hgl2]
    exact ⟨(World.cell?_of_block (w := w2) (a := ⟨gl, 2, none⟩) hb).trans hc2, (World.frozen?_of_block (w := w2) (a := ⟨gl, 2, none⟩) hb).trans hf2⟩)
  have EV := Lib.hid eV
  clear eV hgs2
  have hw1 := wrap_sum t m (by omega)
  have hca : ∀ (N : Nat) (X : Obj), ((w2.drewN N).alloc X).cell? ⟨gl, 2, none⟩ = some (.slice aV n cV) := fun N X => (World.cell?_of_block (w := w2) (a := ⟨gl, 2, none⟩) (heap_alloc_old (w2.drewN N) X (show gl < (w2.drewN N).heap.size from hgl2))).trans hc2
  have hw2 := wrap_sum8 t m (by omega)
  go_wp2_with fail
  go_region_law (first
    | ((with_reducible refine step_isAppend (.tmp 18) (.tmp 25) 36 rfl ?_); refine step_append_lies _ rfl (.tmp 18) (.tmp 25) 36 rfl 0 3 j0 (.int .i64 0) 1 8 Tryd.underlying36 hj hy0 hy1 hy2 rfl (by decide) (.slice aV n cV) n ((endsL 0 ps).map iv) rfl (HROW.out _ _ rfl) ⟨w2.heap.size, 0, none⟩ 1 1 [.int .i64 ((t : Int) + (m : Int) + 8)] rfl rfl (World.news_of_block (HNEW.out _ _ rfl)) (fun u hu => by simp at hu; subst hu; rfl) (by decide) (by unfold maxLen; omega) (by omega) (Nat.zero_le _) (w2.heap.size + 1) (by simp) ?_; intro g5 cap5 w5 hown5 hgrow5 hat5 hlt5; obtain ⟨hc5, hf5⟩ := HT.out _ w5 _ hgrow5 rfl)
    | (go_simp; go_wp2_with ((with_reducible refine (HEND.out w2.drew rfl).mono ?_); rintro e w3 ⟨rfl, nq, rfl⟩)))
  all_goals
    have hown6 : w5.ownsRow 0 3 1 (.slice (some ⟨g5, 0, none⟩) (ps.length + 1) cap5) (ps.length + 1) ((endsL 0 (ps ++ [p])).map iv) := by
      rw [endsL_snoc, List.map_append, ← HN.out]
      have e : [0 + tot ps + p.length + 8].map iv = [.int .i64 ((t : Int) + (m : Int) + 8)] := by simp [iv, HTOT.out, HM.out]
      rw [e]
      exact hown5
    have hk5 : ∀ k, k < w2.heap.size → some k ≠ ev.ownBlock → w5.heap[k]? = w2.heap[k]? := fun k hk hne => by
      rw [EV.out, ← HN.out] at hne
      exact (hgrow5.block k (by simp; omega) hne).trans (heap_alloc_old _ _ hk)
    have hs5 : w2.heap.size + 1 ≤ w5.heap.size := by have := hgrow5.size; simpa using this
    have hfin := HS2.out.setEnds hown6 hk5 (by omega) (by rw [EV.out, ← HN.out]; rcases hat5 with h | h; exact .inl h; exact .inr (by omega))
    rw [← HN.out] at hfin
    have hu5 : Upd (fun k => S k ∨ k = g1) w2 w5 := ⟨(show w5.os = w2.os from hgrow5.os), (show w5.tape = w2.tape from hgrow5.tape), (show w5.output = w2.output from hgrow5.output), by omega, fun k hk hn => hk5 k hk fun e => hn (HS2.out.iV k e.symm).1⟩
    have hu6 := upd_set hu5 (.inl H.out.gS) 2 (.slice (some ⟨g5, 0, none⟩) (n + 1) cap5)
    have hE5 : ∀ k, k < w2.heap.size → E k → (w5.setCell ⟨gl, 2, none⟩ (.slice (some ⟨g5, 0, none⟩) (n + 1) cap5)).heap[k]? = w2.heap[k]? := fun k hk he => by
      rw [Below.heap_setCell _ _ _ _ (fun e => H.out.gE (by rw [← show k = gl from e]; exact he))]
      exact hk5 k hk fun e => (HS2.out.iV k e.symm).2.1 he
    clear hc5 hf5 hc2 hf2 hca hw1 hw2
    revert hfin hu6 hE5
    generalize World.setCell _ _ _ = w6
    intro hfin hu6 hE5
    go_end0
    refine ⟨rfl, _, _, _, hfin, fun k hk => .inl (.inl hk), fun k hk => ?_, ?_, fun k hk he => (hE5 k (by omega) he).trans (HE2.out k hk he)⟩
    · rcases hk with hk | rfl
      · exact HG1B.out k hk
      · rcases hat5 with h | h
        · exact HG1B.out _ (HS2.out.iV _ (by rw [EV.out, ← HN.out]; exact h)).1
        · exact .inr (by omega)
    · exact HU1.out.trans hu6 (fun q hq hs => by
        rcases HG1B.out q hs with h | h
        · exact h
        · omega)
end Go.Proofs.YtoophonmonojcaaDoor

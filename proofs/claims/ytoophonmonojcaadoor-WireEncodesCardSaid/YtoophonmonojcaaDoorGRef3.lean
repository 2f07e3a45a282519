/- Several texts laid as one, in this order: RefD, RefE. -/
import Derived.Test.YtoophonmonojcaaDoorGRef1
import Derived.Test.YtoophonmonojcaaDoorGRef2
import Derived.Test.YtoophonmonojcaaDoorGFix
import Derived.Deep.RegionHeld3
/- Contracts of jotterref06's written, named. -/
namespace Go.Proofs.YtoophonmonojcaaDoor
open Go.RowKit

abbrev MQ (w : World) (g : Nat) (k ep c ha fi nu ac re ta ok op oc ol os : Int) (b o : Nat) (q : Int) : Prop := MS w g k ep c ha fi nu ac re ta ok op oc ol os ∧ w.cell? ⟨b, o, none⟩ = some (.int .i64 q)
theorem mqDrew {w : World} {g : Nat} {k ep c ha fi nu ac re ta ok op oc ol os : Int} {b o : Nat} {q : Int} (h : MQ w g k ep c ha fi nu ac re ta ok op oc ol os b o q) : MQ w.drew g k ep c ha fi nu ac re ta ok op oc ol os b o q := h
theorem mqTail {w X w' : World} {g : Nat} {k ep c ha fi nu ac re ta ok op oc ol os : Int} {b o : Nat} {q : Int} (h : MQ w g k ep c ha fi nu ac re ta ok op oc ol os b o q) (hb : Below X.heap.size X w') (e4 : X.heap = w.heap) : MQ w' g k ep c ha fi nu ac re ta ok op oc ol os b o q :=
  ⟨msTail h.1 hb e4, cell_tail h.2 hb e4⟩
def laidB (v : Nat → Int) (l : List Nat) : List UInt8 := l.flatMap (fieldB v)
theorem laidB_take (v : Nat → Int) (l : List Nat) (k : Nat) (h : k < l.length) : laidB v (l.take (k + 1)) = laidB v (l.take k) ++ fieldB v (l.getD k 0) := by
  have e : l.getD k 0 = l[k] := by rw [List.getD_eq_getElem?_getD, List.getElem?_eq_getElem h]; rfl
  unfold laidB
  rw [List.take_succ_eq_append_getElem h, e, List.flatMap_append]
  simp
theorem fieldB_len (v : Nat → Int) (f : Nat) : 1 ≤ (fieldB v f).length ∧ (fieldB v f).length ≤ 2 := by unfold fieldB; split <;> simp
theorem laidB_le (v : Nat → Int) (l : List Nat) : (laidB v l).length ≤ 2 * l.length := by
  induction l with
  | nil => simp [laidB]
  | cons a t ih => have := fieldB_len v a; simp only [laidB, List.flatMap_cons, List.length_append, List.length_cons] at *; omega

theorem Own.lower {w : World} {B B' : Nat} {v : Value} {l : List UInt8} (h : Own w B v l) (hb : B' ≤ B) : Own w B' v l := by
  obtain ⟨h1, h2⟩ := h
  refine ⟨h1, ?_⟩
  rcases h2 with h2 | ⟨g, cap, cur, hv, hB, hg, r⟩
  · exact .inl h2
  · exact .inr ⟨g, cap, cur, hv, Nat.le_trans hb hB, hg, r⟩
set_option maxRecDepth 100000 in
set_option maxHeartbeats 1000000 in
theorem written_any (m : M) (ao : Option Addr) (n cap : Nat) (l : List Nat) (w : World) (hl : l.length = n) (hr : RdN w ao l) (hb : n ≤ 1000) (hf : ∀ f ∈ l, 1 ≤ f ∧ f < 14) (hm : ∀ f ∈ l, 0 ≤ m.at f ∧ m.at f ≤ 65535) (hch : 0 ≤ m.op.ch ∧ m.op.ch ≤ 255) :
    Calls Tryd.prog 93 #[.agg m.cs, .slice ao n cap] w (OwnPost w (laidB m.at l)) := by
  have HL := Lib.hid hl; have HR := Lib.hid hr; have HF := Lib.hid hf; have HMA := Lib.hid hm
  have hget : ∀ f : Nat, 1 ≤ f → f < 14 → ∀ w, Calls Tryd.prog 92 #[.agg m.cs, .int .i64 f] w (RetV w (.int .i64 (m.at f))) := fun f h1 h2 w => get_any m f w h1 h2 hch
  have hM0 : MsgAt (w.alloc (.cells m.cs 25)) w.heap.size m := heap_alloc_new _ _
  have HB0 := Lib.hid (below1 w (.cells m.cs 25))
  clear hl hr hf hm
  obtain ⟨V, hV⟩ : ∃ V, V = m.at := ⟨_, rfl⟩
  rw [← hV] at hget HMA ⊢
  clear hV hch
  go_enter Tryd.func93, Tryd.ntmps93
  go_wp2_with fail
  generalize w.alloc (.cells m.cs 25) = w0 at hM0 HB0 ⊢
  have hg0 := hM0.lt
  have HM0 := Lib.hid hM0
  clear hM0
  obtain ⟨k, ep, c, ha, fi, nu, ac, re, ta, ⟨ok, op, oc, ol, os⟩⟩ := m
  simp only [M.cs] at hget
  have HGET := Lib.hid hget
  clear hget
  go_loopw [5, 6] (fun v i wr => ∃ (k : Nat), k ≤ n ∧ i = .int .i64 k ∧ Own wr w0.heap.size v (laidB V (l.take k)) ∧ Below w0.heap.size w0 wr) (fun _ i _ => n - (intOf i).toNat)
  case atStart => exact ⟨0, Nat.zero_le _, rfl, by simpa [laidB] using Own.nil _ _, Below.refl _ _⟩
  case round =>
    obtain ⟨j, hj, rfl, hown, hbel⟩ := hrel
    have HOWN := Lib.hid hown; have HBEL := Lib.hid hbel
    have hle := laidB_le V (l.take j)
    have htk := List.length_take_le j l
    by_cases hlt : j < n
    · obtain ⟨b, off, rfl, hbw, hc⟩ := HR.out.some (by have := HL.out; omega)
      have hkl : j < l.length := by have := HL.out; omega
      have hck := (HB0.out.cell (p := ⟨b, off + j, none⟩) (block_lt (hc j hkl))).trans (hc j hkl)
      replace hck := (HBEL.out.cell (p := ⟨b, off + j, none⟩) (block_lt hck)).trans hck
      have hbt := laidB_take V l j hkl
      have hmem : l.getD j 0 ∈ l := by rw [List.getD_eq_getElem?_getD, List.getElem?_eq_getElem hkl]; exact List.getElem_mem _
      have hq1 := HF.out _ hmem
      have hq2 := HMA.out _ hmem
      obtain ⟨q, hq⟩ : ∃ q, q = l.getD j 0 := ⟨_, rfl⟩
      rw [← hq] at hck hbt hq1 hq2
      have hgq := HGET.out q hq1.1 hq1.2
      obtain ⟨z, hz⟩ : ∃ z, z = V q := ⟨_, rfl⟩
      rw [← hz] at hgq hq2
      have HG := Lib.hid hgq; have HBT := Lib.hid hbt; have HZ := Lib.hid hz
      obtain ⟨P, hP⟩ : ∃ P, P = laidB V (l.take j) := ⟨_, rfl⟩
      rw [← hP] at HOWN hle
      have HP := Lib.hid hP
      clear hgq hbt hz hq hc hkl hmem hown hP
      have hms : MQ wr w.heap.size k ep c ha fi nu ac re ta ok op oc ol os b (off + j) q := ⟨msg_cells14 (HM0.out.keep HBEL.out), hck⟩
      have hbel2 := Below.refl wr.heap.size wr
      have hgf := Nat.le_refl wr.heap.size
      clear hck hbel
      go_wp2_with fail
      go_region_held3 (fun w' => MQ w' w.heap.size k ep c ha fi nu ac re ta ok op oc ol os b (off + j) q) (with_reducible first | exact hms | exact mqDrew hms)
        (first
         | ((with_reducible refine (HG.out _).mono ?_); rintro e w' ⟨rfl, hb2⟩; have hms := mqTail hms hb2 rfl; have hbel2 := below_tail hbel2 hb2 rfl rfl rfl rfl hgf; have hgf := Nat.le_trans hgf hb2.size))
      have HBW := Lib.hid (HBEL.out.trans (hbel2.mono HBEL.out.size)); have HOWN2 := Lib.hid (HOWN.out.keep hbel2)
      have hcq := hms.2
      have hszw := HBW.out.size
      have HLE := Lib.hid hle
      clear hbel2 hms hgf hle htk
      go_wp2_with fail
      refine (wide_any q _ hq1.1 hq1.2).mono ?_
      rintro e w2 ⟨rfl, rfl⟩
      have hpn : P.length ≤ 2000 := by have := HLE.out; have := List.length_take_le j l; have := HL.out; omega
      rcases size_le q hq1.2 with s1 | s2
      · rw [s1]
        have hfb := fieldB_one V q s1
        rw [← HZ.out] at hfb
        have HFB := Lib.hid hfb; have HS1 := Lib.hid s1
        clear s1 hfb
        have HB3 := Lib.hid ((Below.refl w'.heap.size w').alloc (Nat.le_refl _) (.cells #[Value.int IntKind.u8 ((z : Int) % 256)] 5))
        go_wp2_with (at_builtin; go_must (with_reducible refine wpList_appendB rfl (.tmp 32) (.tmp 36) rfl w0.heap.size u5 P [Proofs.YtoophonmonojcaaDoor.u8 z] rfl (HOWN2.out.keep HB3.out) (some ⟨w'.heap.size, 0, none⟩) 1 1 rfl (fun h => by cases h) rfl (row_new w' _ [Proofs.YtoophonmonojcaaDoor.u8 z] (by simp [bv_u8])).rd (by omega) (by simp; omega) ?_); intro v3 w3 ho3 hg3; have HO3 := Lib.hid ho3; have HBB := Lib.hid (Own.grown (HOWN2.out.keep HB3.out) (HBW.out.alloc hszw (.cells #[Value.int IntKind.u8 ((z : Int) % 256)] 5)) (by simp; omega) hg3); clear ho3 hg3)
        go_roundw
        case rel => exact ⟨j + 1, by omega, by go_num, by rw [HBT.out, HFB.out, ← HP.out]; exact HO3.out, HBB.out⟩
        case measure => simp [intOf]; omega
      · rw [s2]
        have hfb := fieldB_two V q s2
        rw [← HZ.out] at hfb
        have HFB := Lib.hid hfb; have HS1 := Lib.hid s2
        clear s2 hfb
        have HB3 := Lib.hid ((Below.refl w'.heap.size w').alloc (Nat.le_refl _) (.cells #[Value.int IntKind.u8 ((z : Int) / 256)] 5))
        go_wp2_with (first
          | (at_builtin; (with_reducible refine wpList_appendB rfl (.tmp 26) (.tmp 30) rfl w0.heap.size u5 P [Proofs.YtoophonmonojcaaDoor.u8 (z / 256)] rfl (HOWN2.out.keep HB3.out) (some ⟨w'.heap.size, 0, none⟩) 1 1 rfl (fun h => by cases h) rfl (row_new w' _ [Proofs.YtoophonmonojcaaDoor.u8 (z / 256)] (by simp [bv_u8, Int.emod_eq_of_lt (show 0 ≤ z / 256 by omega) (show z / 256 < 256 by omega)])).rd (by omega) (by simp; omega) ?_); intro v3 w3 ho3 hg3; have HO3 := Lib.hid ho3; have HBB := Lib.hid (Own.grown (HOWN2.out.keep HB3.out) (HBW.out.alloc hszw (.cells #[Value.int IntKind.u8 ((z : Int) / 256)] 5)) (by simp; omega) hg3); have hsz3 := HBB.out.size; have HB4 := Lib.hid ((Below.refl w3.heap.size w3).alloc (Nat.le_refl _) (.cells #[Value.int IntKind.u8 ((z : Int) % 256)] 5)); clear ho3 hg3)
          | (at_builtin; go_must (with_reducible refine wpList_appendB rfl (.tmp 32) (.tmp 36) rfl w0.heap.size v3 (P ++ [Proofs.YtoophonmonojcaaDoor.u8 (z / 256)]) [Proofs.YtoophonmonojcaaDoor.u8 z] rfl (HO3.out.keep HB4.out) (some ⟨w3.heap.size, 0, none⟩) 1 1 rfl (fun h => by cases h) rfl (row_new w3 _ [Proofs.YtoophonmonojcaaDoor.u8 z] (by simp [bv_u8])).rd (by simp; omega) (by simp; omega) ?_); intro v4 w4 ho4 hg4; have HO4 := Lib.hid ho4; have HBC := Lib.hid (Own.grown (HO3.out.keep HB4.out) (HBB.out.alloc hsz3 (.cells #[Value.int IntKind.u8 ((z : Int) % 256)] 5)) (by simp; omega) hg4); clear ho4 hg4))
        go_roundw
        case rel => exact ⟨j + 1, by omega, by go_num, by rw [HBT.out, HFB.out, ← HP.out]; simpa using HO4.out, HBC.out⟩
        case measure => simp [intOf]; omega
    · obtain rfl : j = n := by omega
      clear hown hbel
      go_wp2_with fail
      go_ret
      refine ⟨_, rfl, ?_, HB0.out.trans (HBEL.out.mono HB0.out.size)⟩
      have h := HOWN.out
      rw [List.take_of_length_le (by have := HL.out; omega)] at h
      exact h.lower HB0.out.size
end Go.Proofs.YtoophonmonojcaaDoor

/- Contract of jotterref06.Encode. -/
namespace Go.Proofs.YtoophonmonojcaaDoor
open Go.RowKit

set_option maxRecDepth 100000 in
set_option maxHeartbeats 1000000 in
theorem refNamed_any (k : Int) (w : World) : Calls Tryd.prog 104 #[.int .i64 k] w (ListPost w (shapeN k.toNat)) := by
  by_cases h1 : k = 1
  · subst h1
    go_enter Tryd.func104, Tryd.ntmps104
    go_wp2_with fail
    go_ret
    exact ⟨_, rfl, rdN_new w [1, 2, 3, 4] _ _ rfl, (fun h => by cases h), below1 _ _⟩
  by_cases h2 : k = 2
  · subst h2
    go_enter Tryd.func104, Tryd.ntmps104
    go_wp2_with fail
    go_ret
    exact ⟨_, rfl, rdN_new w [1, 2, 5, 6, 8, 9, 10, 11, 12, 13] _ _ rfl, (fun h => by cases h), below1 _ _⟩
  by_cases h3 : k = 3
  · subst h3
    go_enter Tryd.func104, Tryd.ntmps104
    go_wp2_with fail
    go_ret
    exact ⟨_, rfl, rdN_new w [1, 2, 6] _ _ rfl, (fun h => by cases h), below1 _ _⟩
  by_cases h6 : k = 6
  · subst h6
    go_enter Tryd.func104, Tryd.ntmps104
    go_wp2_with fail
    go_ret
    exact ⟨_, rfl, rdN_new w [1, 2, 6] _ _ rfl, (fun h => by cases h), below1 _ _⟩
  by_cases h4 : k = 4
  · subst h4
    go_enter Tryd.func104, Tryd.ntmps104
    go_wp2_with fail
    go_ret
    exact ⟨_, rfl, rdN_new w [1, 2] _ _ rfl, (fun h => by cases h), below1 _ _⟩
  by_cases h5 : k = 5
  · subst h5
    go_enter Tryd.func104, Tryd.ntmps104
    go_wp2_with fail
    go_ret
    exact ⟨_, rfl, rdN_new w [1, 2, 5, 6, 7, 9, 10, 11, 12, 13] _ _ rfl, (fun h => by cases h), below1 _ _⟩
  have e : shapeN k.toNat = [] := by
    unfold shapeN
    split
    · omega
    · omega
    · omega
    · omega
    · omega
    · omega
    · rfl
  rw [e]
  go_enter Tryd.func104, Tryd.ntmps104
  go_wp2_with fail
  go_ret
  exact ⟨none, rfl, (fun i hi => by simp at hi), (fun _ => rfl), Below.refl _ _⟩

/-- 'append' of bytes as one step of a region that draws: there is something behind it. -/
theorem step_appendB {ops : Array Oper} {o : Oper} {a : Act} {w : World} {K : Act → World → Prop} {Q : Exit → Act → World → Prop} {E : Prop} (hgd : o.guard = none) (s x : Operand)
    (ho : o.op = .call { callee := .builtin .append, args := #[s, x], argTypes := #[27, 27] })
    (B : Nat) (v : Value) (l m : List UInt8) (hs : a.eval s = v) (hown : Own w B v l) (vx : Value) (hx : a.eval x = vx) (B2 : Nat) (hr : Own w B2 vx m) (h0 : 0 < m.length)
    (hle : l.length + m.length ≤ 140737488355328) (hB : B ≤ w.heap.size)
    (h : ∀ v' w', Own w' B v' (l ++ m) → w.grownBy w' v.ownBlock → K (a.put o.dst v') w') :
    if Region.wanted o (yielded ops a.tmps) = true then Oper.wp Tryd.prog o a w K Q else E := by
  have hw : Region.wanted o (yielded ops a.tmps) = true := by simp [Region.wanted, hgd]
  rw [if_pos hw]
  obtain ⟨i0, hi, hz0, hz1, hz2⟩ := info_parts Tryd.infoU8
  obtain ⟨ao, cap, rfl, _, _, hrd, _, _, _⟩ := hr.shape
  obtain ⟨b, off, rfl, _, hc⟩ := hrd.some h0
  refine wp_append_own _ s x 27 ho B 5 i0 (.int .u8 0) 1 1 Tryd.underlying27 hi hz0 hz1 hz2 rfl (by decide) v l.length (l.map bv) hs hown ⟨b, off, none⟩ m.length cap (m.map bv) hx (by simp) (bv_cells hc) (oneCell_bv m) (by unfold maxLen; omega) (by omega) hB ?_
  intro v' w' h1 h2 _
  refine h v' w' ?_ h2
  simpa [Own] using h1
theorem laidB_pos (v : Nat → Int) (l : List Nat) (h : 0 < l.length) : 0 < (laidB v l).length := by
  cases l with
  | nil => simp at h
  | cons a t => have := fieldB_len v a; simp only [laidB, List.flatMap_cons, List.length_append]; omega
/-- One byte laid in a row of its own, ahead of a call or behind it. -/
theorem one_before {w wr w' : World} {x : Value} {b : UInt8} (hx : x = bv b) (hw : w.heap.size ≤ wr.heap.size) (hb : Below (wr.alloc (.cells #[x] 5)).drew.heap.size (wr.alloc (.cells #[x] 5)).drew w') : Own w' w.heap.size (.slice (some ⟨wr.heap.size, 0, none⟩) 1 1) [b] := by
  have hr : Row (wr.alloc (.cells #[x] 5)).drew wr.heap.size [b] := row_new wr _ [b] (by rw [hx]; rfl)
  exact (hr.own hw (by unfold maxLen; simp)).keep hb
theorem one_behind {w w' : World} {x : Value} {b : UInt8} (hx : x = bv b) (hw : w.heap.size ≤ w'.heap.size) : Own (w'.alloc (.cells #[x] 5)) w.heap.size (.slice (some ⟨w'.heap.size, 0, none⟩) 1 1) [b] := by
  have hr : Row (w'.alloc (.cells #[x] 5)) w'.heap.size [b] := row_new w' _ [b] (by rw [hx]; rfl)
  exact hr.own hw (by unfold maxLen; simp)
theorem wrap_bv (x : Int) : Value.int .u8 (IntKind.u8.wrap x) = bv (Proofs.YtoophonmonojcaaDoor.u8 x) := by rw [bv_u8, IntKind.wrap_u8]
/-- What jotterref06.Encode answers. -/
def RefEncPost (w : World) (m : M) (e : Ending) (w' : World) : Prop := ∃ bs c a v, encR m bs c a ∧ e = .returned (.tuple #[v, .int .i64 c, .int .i64 a]) ∧ Own w' w.heap.size v bs ∧ Below w.heap.size w w'
theorem msKeep {w : World} {g : Nat} {k ep c ha fi nu ac re ta ok op oc ol os : Int} (h : MS w g k ep c ha fi nu ac re ta ok op oc ol os) (X : Obj) : MS (w.alloc X) g k ep c ha fi nu ac re ta ok op oc ol os := by
  obtain ⟨h0, h1, h2, h3, h4, h5, h6, h7, h8, h9, h10, h11, h12, h13⟩ := h
  exact ⟨cell_alloc h0 X, cell_alloc h1 X, cell_alloc h2 X, cell_alloc h3 X, cell_alloc h4 X, cell_alloc h5 X, cell_alloc h6 X, cell_alloc h7 X, cell_alloc h8 X, cell_alloc h9 X, cell_alloc h10 X, cell_alloc h11 X, cell_alloc h12 X, cell_alloc h13 X⟩

set_option maxRecDepth 100000 in
set_option maxHeartbeats 400000 in
theorem refEncode_kind (m : M) (w : World) (hk : m.k < 1 ∨ 6 < m.k) : Calls Tryd.prog 68 #[.agg m.cs] w (RefEncPost w m) := by
  have hM0 : MsgAt (w.alloc (.cells m.cs 25)) w.heap.size m := heap_alloc_new _ _
  have hb0 := below1 w (.cells m.cs 25)
  have e0 : shapeN m.k.toNat = [] := by
    unfold shapeN
    split
    · omega
    · omega
    · omega
    · omega
    · omega
    · omega
    · rfl
  have hcall : ∀ w, Calls Tryd.prog 104 #[.int .i64 m.k] w (ListPost w []) := fun w => by have := refNamed_any m.k w; rwa [e0] at this
  have HC := Lib.hid hcall; have HB0 := Lib.hid hb0; have HENC := Lib.hid (show encR m [] 61 0 from .inl ⟨hk, rfl, rfl, rfl⟩)
  obtain ⟨k, ep, c, ha, fi, nu, ac, re, ta, ⟨ok, op, oc, ol, os⟩⟩ := m
  have hc0 := (msg_cells14 hM0).1
  simp only [M.cs] at hc0 HB0 ⊢
  clear hM0 e0 hcall hb0 hk
  go_enter Tryd.func68, Tryd.ntmps68
  go_wp2_with fail
  refine (HC.out _).mono ?_
  rintro e w1 ⟨ao, rfl, _, _, hb1⟩
  have HB1 := Lib.hid (HB0.out.trans (hb1.mono HB0.out.size))
  clear hb1
  go_wp2_with fail
  go_ret3
  exact ⟨_, _, _, _, HENC.out, rfl, Own.nil _ _, HB1.out⟩

set_option maxRecDepth 100000 in
set_option maxHeartbeats 400000 in
theorem refEncode_any (m : M) (k : Nat) (w : World) (hk : m.k = k) (h1 : 1 ≤ k) (h6 : k ≤ 6) (hch : 0 ≤ m.op.ch ∧ m.op.ch ≤ 255) : Calls Tryd.prog 68 #[.agg m.cs] w (RefEncPost w m) := by
  have hM0 : MsgAt (w.alloc (.cells m.cs 25)) w.heap.size m := heap_alloc_new _ _
  have hb0 := below1 w (.cells m.cs 25)
  have hcall : ∀ w, Calls Tryd.prog 104 #[.int .i64 (k : Int)] w (ListPost w (shapeN k)) := fun w => refNamed_any k w
  have hget : ∀ f : Nat, 1 ≤ f → f < 14 → ∀ w, Calls Tryd.prog 92 #[.agg m.cs, .int .i64 f] w (RetV w (.int .i64 (m.at f))) := fun f h1 h2 w => get_any m f w h1 h2 hch
  have hhold : ∀ f : Nat, 1 ≤ f → f < 14 → ∀ w, Calls Tryd.prog 91 #[.agg m.cs, .int .i64 f] w (RetV w (.bool (refHolds m f))) := fun f h1 h2 w => holds_any m f w h1 h2 hch
  have hbad : ∀ f, 1 ≤ f → f < 14 → (∀ j, 1 ≤ j → j < f → badAt (shapeN k) m.at (makerOf m) j = false) → refBad (shapeN k) m f = badAt (shapeN k) m.at (makerOf m) f := fun f f1 f2 h => refBad_eq k m hk h1 h6 f f1 f2 h
  have hQ : ∀ e w', RefEncPost w m e w' → RefEncPost w m e w' := fun _ _ h => h
  have hfull : ∀ v w', (∀ j, 1 ≤ j → j < 14 → badAt (shapeN k) m.at (makerOf m) j = false) → Own w' w.heap.size v (encB m) → Below w.heap.size w w' → RefEncPost w m (.returned (.tuple #[v, .int .i64 0, .int .i64 (-1)])) w' := fun v w' hg ho hb =>
    ⟨_, _, _, _, .inr (.inl ⟨k, hk, h1, h6, hg, rfl, rfl, rfl⟩), rfl, ho, hb⟩
  have hpart : ∀ (f : Nat) w', 1 ≤ f → f < 14 → (∀ j, 1 ≤ j → j < f → badAt (shapeN k) m.at (makerOf m) j = false) → badAt (shapeN k) m.at (makerOf m) f = true → Below w.heap.size w w' → RefEncPost w m (.returned (.tuple #[.slice none 0 0, .int .i64 63, .int .i64 f])) w' := fun f w' f1 f2 hg hb hbl =>
    ⟨_, _, _, _, .inr (.inr ⟨k, f, hk, h1, h6, f1, f2, hg, hb, rfl, rfl, rfl⟩), rfl, Own.nil _ _, hbl⟩
  have hgood : (∀ j, 1 ≤ j → j < 14 → badAt (shapeN k) m.at (makerOf m) j = false) → ∀ f ∈ shapeN k, 1 ≤ f ∧ f < 14 ∧ 0 ≤ m.at f ∧ m.at f ≤ 65535 := fun hg => fine_range ((good_fine k m hk h1 h6).1 hg) k hk
  have henc : encB m = sealed (Proofs.YtoophonmonojcaaDoor.u8 (k : Int) :: laidB m.at (shapeN k)) := by
    unfold encB layB laidB
    have e1 : m.k.toNat = k := by omega
    have e2 : m.at 0 = (k : Int) := hk
    rw [e1, e2]
  have hwr : ∀ (ao : Option Addr) (cap : Nat) (X : World), (∀ f ∈ shapeN k, 1 ≤ f ∧ f < 14 ∧ 0 ≤ m.at f ∧ m.at f ≤ 65535) → RdN X ao (shapeN k) → Calls Tryd.prog 93 #[.agg m.cs, .slice ao (shapeN k).length cap] X (OwnPost X (laidB m.at (shapeN k))) := fun ao cap X hr hx =>
    written_any m ao _ cap (shapeN k) X rfl hx (by have := shape_len k h1 h6; omega) (fun f hf => ⟨(hr f hf).1, (hr f hf).2.1⟩) (fun f hf => (hr f hf).2.2) hch
  have hsl := shape_len k h1 h6
  obtain ⟨L, hL⟩ : ∃ L, L = shapeN k := ⟨_, rfl⟩
  rw [← hL] at hcall hbad hfull hpart hgood henc hwr hsl
  have HC := Lib.hid hcall; have HB0 := Lib.hid hb0; have HGET := Lib.hid hget; have HHOLD := Lib.hid hhold; have HBAD := Lib.hid hbad; have HFULL := Lib.hid hfull; have HPART := Lib.hid hpart; have HGOOD := Lib.hid hgood; have HENC := Lib.hid henc; have HWR := Lib.hid hwr
  clear hcall hb0 hget hhold hbad hfull hpart hgood henc hwr hL hch hQ
  have HM0 := Lib.hid hM0
  obtain ⟨V, hV⟩ : ∃ V, V = m.at := ⟨_, rfl⟩
  obtain ⟨H, hH⟩ : ∃ H, H = refHolds m := ⟨_, rfl⟩
  have HVV := Lib.hid hV; have HHH := Lib.hid hH
  rw [← hV] at HGET HBAD HFULL HPART HGOOD HENC HWR
  rw [← hH] at HHOLD
  obtain ⟨MK, hMK⟩ : ∃ MK, MK = makerOf m := ⟨_, rfl⟩
  rw [← hMK] at HBAD HFULL HPART HGOOD
  obtain ⟨RP, hRP⟩ : ∃ RP, RP = RefEncPost w m := ⟨_, rfl⟩
  rw [← hRP] at HFULL HPART ⊢
  obtain ⟨EB, hEB⟩ : ∃ EB, EB = encB m := ⟨_, rfl⟩
  rw [← hEB] at HFULL HENC
  obtain ⟨RB, hRB⟩ : ∃ RB, RB = refBad L m := ⟨_, rfl⟩
  have HRB := Lib.hid (show ∀ f, RB f = (if f ∈ L then !H f else V f != 0) from fun f => by rw [hRB, hH, hV]; rfl)
  rw [← hRB] at HBAD
  clear hV hH hMK hRP hEB hRB HVV HHH
  obtain ⟨mk, ep, c, ha, fi, nu, ac, re, ta, ⟨ok, op, oc, ol, os⟩⟩ := m
  dsimp only at hk
  subst hk
  have hc0 := (msg_cells14 hM0).1
  clear hM0
  simp only [M.cs] at hc0 HB0 HGET HHOLD HWR HM0 ⊢
  go_enter Tryd.func68, Tryd.ntmps68
  go_wp2_with fail
  refine (HC.out _).mono ?_
  rintro e w1 ⟨ao, rfl, hrn, hnil, hb1⟩
  have HB1 := Lib.hid (HB0.out.trans (hb1.mono HB0.out.size)); have HM1 := Lib.hid (HM0.out.keep hb1); have HRN := Lib.hid hrn
  clear hb1 hrn hnil hc0
  obtain ⟨n, hn⟩ : ∃ n, n = L.length := ⟨_, rfl⟩
  rw [← hn] at hsl HWR ⊢
  have HN := Lib.hid hn
  clear hn
  have hn0 : ((n : Int) == 0) = false := by rw [beq_eq_false_iff_ne]; omega
  go_wp2_with fail
  go_loopw [6] (fun i wr => ∃ f : Nat, 1 ≤ f ∧ f ≤ 14 ∧ i = .int .i64 f ∧ Below w1.heap.size w1 wr ∧ Hid (∀ j, 1 ≤ j → j < f → badAt L V MK j = false)) (fun i _ => 14 - (intOf i).toNat)
  case atStart => exact ⟨1, by omega, by omega, rfl, Below.refl _ _, fun j h1 h2 => by omega⟩
  case round =>
    obtain ⟨f, f1, f14, rfl, hbel, hgd⟩ := hrel
    have HBEL := Lib.hid hbel; have HM2 := Lib.hid (HM1.out.keep hbel); have HRN2 := Lib.hid (HRN.out.keep hbel); have HB2 := Lib.hid (HB1.out.trans (hbel.mono HB1.out.size))
    clear hbel
    by_cases hlt : f < 14
    · have hle13 : (f : Int) ≤ 13 := by omega
      have hbd := HBAD.out f f1 hlt hgd.out
      have hrb := HRB.out f
      go_wp2_with fail
      refine (among_ref ao n n L f _ HN.out.symm HRN2.out (by omega)).mono ?_
      rintro e w2 ⟨rfl, rfl⟩
      by_cases hm : f ∈ L
      · have hd : decide (f ∈ L) = true := by simp [hm]
        rw [if_pos hm] at hrb
        rw [hd]
        have HBD := Lib.hid (hrb.symm.trans hbd)
        clear hm hd hrb hbd
        go_wp2_with (with_reducible refine wpList_loadMsg rfl (.tmp 1) rfl w.heap.size _ rfl HM2.out ?_)
        refine (HHOLD.out f f1 hlt _).mono ?_
        rintro e w3 ⟨rfl, hb3⟩
        have HB3 := Lib.hid (HB2.out.trans (hb3.mono HB2.out.size)); have HBEL3 := Lib.hid (HBEL.out.trans (hb3.mono HBEL.out.size))
        clear hb3
        cases hh : H f
        · rw [hh] at HBD
          clear hh
          go_wp2_with fail
          go_ret3
          have h := HPART.out f w3 f1 hlt hgd.out HBD.out.symm HB3.out
          exact h
        · rw [hh] at HBD
          clear hh
          go_wp2_with fail
          go_roundw
          case rel =>
            refine ⟨f + 1, by omega, by omega, by go_num, HBEL3.out, ?_⟩
            intro j j1 j2
            rcases Nat.lt_or_ge j f with h | h
            · exact hgd.out j j1 h
            · obtain rfl : j = f := by omega
              exact HBD.out.symm
          case measure => simp [intOf]; omega
      · have hd : decide (f ∈ L) = false := by simp [hm]
        rw [if_neg hm] at hrb
        rw [hd]
        have HBD := Lib.hid (hrb.symm.trans hbd)
        clear hm hd hrb hbd
        go_wp2_with (with_reducible refine wpList_loadMsg rfl (.tmp 1) rfl w.heap.size _ rfl HM2.out ?_)
        refine (HGET.out f f1 hlt _).mono ?_
        rintro e w3 ⟨rfl, hb3⟩
        have HB3 := Lib.hid (HB2.out.trans (hb3.mono HB2.out.size)); have HBEL3 := Lib.hid (HBEL.out.trans (hb3.mono HBEL.out.size))
        clear hb3
        cases hh : (V f != 0)
        · rw [hh] at HBD
          go_wp2_with fail
          go_roundw
          case rel =>
            refine ⟨f + 1, by omega, by omega, by go_num, HBEL3.out, ?_⟩
            intro j j1 j2
            rcases Nat.lt_or_ge j f with h | h
            · exact hgd.out j j1 h
            · obtain rfl : j = f := by omega
              exact HBD.out.symm
          case measure => simp [intOf]; omega
        · rw [hh] at HBD
          go_wp2_with fail
          go_ret3
          have h := HPART.out f w3 f1 hlt hgd.out HBD.out.symm HB3.out
          exact h
    · obtain rfl : f = 14 := by omega
      have hgd2 := HGOOD.out hgd.out
      have HG2 := Lib.hid hgd2
      clear hgd2
      have hms : MS wr w.heap.size (k : Int) ep c ha fi nu ac re ta ok op oc ol os := msg_cells14 HM2.out
      have HMS := Lib.hid hms
      have hgf := Nat.le_refl wr.heap.size
      have hbel2 := Below.refl wr.heap.size wr
      have HSZ := Lib.hid HB2.out.size
      have hlb := laidB_le V L
      have hlb1 := laidB_pos V L (by have := HN.out; omega)
      have HPOS := Lib.hid hlb1; have HLEN := Lib.hid (show [Proofs.YtoophonmonojcaaDoor.u8 (k : Int)].length + (laidB V L).length ≤ 140737488355328 by have := HN.out; simp; omega)
      have HLB := Lib.hid hlb
      clear hlb hlb1
      go_wp2_with fail
      go_region_held3 (fun w' => MS w' w.heap.size (k : Int) ep c ha fi nu ac re ta ok op oc ol os) (with_reducible first | exact hms | exact msDrew hms | exact msKeep hms _ | exact msDrew (msKeep hms _))
        (first
         | ((with_reducible refine (HWR.out ao n _ HG2.out (HRN2.out.keep (by first | exact Below.refl _ _ | exact (Below.refl _ _).drew | exact (below1 _ _).drew | exact below1 _ _))).mono ?_); rintro e w' ⟨vw, rfl, how, hb3⟩; first | (have hms := msTail hms hb3 rfl; have HBL := Lib.hid (below_tail hbel2 hb3 rfl rfl rfl rfl hgf)) | (have hms := msTail (msKeep hms (.cells #[Value.int IntKind.u8 (IntKind.u8.wrap (k : Int))] 5)) hb3 rfl; have HBL := Lib.hid (below_tail (hbel2.alloc hgf (.cells #[Value.int IntKind.u8 (IntKind.u8.wrap (k : Int))] 5)) hb3 rfl rfl rfl rfl (by simp))))
         | (refine step_appendB rfl (.tmp 34) (.tmp 37) rfl wr.heap.size (.slice (some ⟨wr.heap.size, 0, none⟩) 1 1) [Proofs.YtoophonmonojcaaDoor.u8 (k : Int)] (laidB V L) rfl (one_before (wrap_bv _) (Nat.le_refl _) hb3) vw rfl _ how HPOS.out HLEN.out HBL.out.size ?_; intro v4 w4 ho4 hg4; have HBM := Lib.hid (Own.grown (one_before (wrap_bv _) (Nat.le_refl _) hb3) HBL.out HBL.out.size hg4); have hms := msTail HMS.out HBM.out rfl)
         | (refine step_appendB rfl (.tmp 34) (.tmp 37) rfl wr.heap.size (.slice (some ⟨w'.heap.size, 0, none⟩) 1 1) [Proofs.YtoophonmonojcaaDoor.u8 (k : Int)] (laidB V L) rfl (one_behind (wrap_bv _) HBL.out.size) vw rfl _ (how.keep (below1 _ _)) HPOS.out HLEN.out (by have := HBL.out.size; simp; omega) ?_; intro v4 w4 ho4 hg4; have HBM := Lib.hid (Own.grown (one_behind (wrap_bv _) HBL.out.size) (HBL.out.alloc HBL.out.size (.cells #[Value.int IntKind.u8 (IntKind.u8.wrap (k : Int))] 5)) (by have := HBL.out.size; simp; omega) hg4); have hms := msTail HMS.out HBM.out rfl))
      all_goals
        have HB4 := Lib.hid (HB2.out.trans (HBM.out.mono HSZ.out))
        obtain ⟨ao4, cap4, rfl, _, _, hrd4, _, _, _⟩ := ho4.shape
        have HRD4 := Lib.hid hrd4
        obtain ⟨N4, hN4⟩ : ∃ N4, N4 = ([Proofs.YtoophonmonojcaaDoor.u8 (k : Int)] ++ laidB V L).length := ⟨_, rfl⟩
        have hN4l : N4 ≤ 1000 := by have := HLB.out; have := HN.out; rw [hN4]; simp; omega
        rw [← hN4]
        have HN4 := Lib.hid hN4
        clear hms ho4 hg4 how hb3 hrd4 hN4
        go_wp2_with fail
        refine (refSeal_any ao4 N4 cap4 _ _ HN4.out.symm HRD4.out hN4l).mono ?_
        rintro e w5 ⟨v5, rfl, ho5, hb5⟩
        have HO5 := Lib.hid (ho5.lower HB4.out.size); have HB5 := Lib.hid (HB4.out.trans (hb5.mono HB4.out.size))
        clear ho5 hb5
        go_wp2_with fail
        go_ret3
        have ho := HO5.out
        rw [show [Proofs.YtoophonmonojcaaDoor.u8 (k : Int)] ++ laidB V L = Proofs.YtoophonmonojcaaDoor.u8 (k : Int) :: laidB V L from rfl, ← HENC.out] at ho
        exact HFULL.out v5 w5 hgd.out ho HB5.out
theorem refEncode_all (m : M) (w : World) (hch : 0 ≤ m.op.ch ∧ m.op.ch ≤ 255) : Calls Tryd.prog 68 #[.agg m.cs] w (RefEncPost w m) := by
  by_cases hk : m.k < 1 ∨ 6 < m.k
  · exact refEncode_kind m w hk
  · exact refEncode_any m m.k.toNat w (by omega) (by omega) (by omega) hch
end Go.Proofs.YtoophonmonojcaaDoor

/- Several texts laid as one, in this order: RefA, RefB, RefC, RefSpec. -/
import Derived.Test.YtoophonmonojcaaDoorGEnc
import Derived.Test.YtoophonmonojcaaDoorGSpec
import Derived.Test.YtoophonmonojcaaDoorItemDec
import Derived.Test.YtoophonmonojcaaDoorGFix
import Derived.Test.YtoophonmonojcaaDoorGPick
/- Contracts of jotterref06's small functions: wide, get, from, to, holds, among, length, itemFields, asMsg. -/
namespace Go.Proofs.YtoophonmonojcaaDoor
open Go.RowKit

theorem fields13 {f : Nat} (h1 : 1 ≤ f) (h2 : f < 14) : f = 1 ∨ f = 2 ∨ f = 3 ∨ f = 4 ∨ f = 5 ∨ f = 6 ∨ f = 7 ∨ f = 8 ∨ f = 9 ∨ f = 10 ∨ f = 11 ∨ f = 12 ∨ f = 13 := by omega

set_option maxRecDepth 100000 in
theorem wide_any (f : Nat) (w : World) (h1 : 1 ≤ f) (h2 : f < 14) : Calls Tryd.prog 126 #[.int .i64 f] w fun e w' => e = .returned (.int .i64 ((sizeL.getD f 0 : Nat) : Int)) ∧ w = w' := by
  rcases fields13 h1 h2 with rfl | rfl | rfl | rfl | rfl | rfl | rfl | rfl | rfl | rfl | rfl | rfl | rfl
  all_goals
    go_enter Tryd.func126, Tryd.ntmps126
    go_wp2_with fail
    go_ret
    exact ⟨rfl, rfl⟩

theorem below2 (w : World) (X Y : Obj) : Below w.heap.size w ((w.alloc X).alloc Y) := ((Below.refl _ w).alloc (Nat.le_refl _) X).alloc (by simp) Y
set_option maxRecDepth 100000 in
theorem get_any (m : M) (f : Nat) (w : World) (h1 : 1 ≤ f) (h2 : f < 14) (hch : 0 ≤ m.op.ch ∧ m.op.ch ≤ 255) : Calls Tryd.prog 92 #[.agg m.cs, .int .i64 f] w (RetV w (.int .i64 (m.at f))) := by
  obtain ⟨k, ep, c, ha, fi, nu, ac, re, ta, ⟨ok, op, oc, ol, os⟩⟩ := m
  dsimp only at hch
  unfold M.cs
  go_enter Tryd.func92, Tryd.ntmps92
  go_wp2_with fail
  rcases fields13 h1 h2 with rfl | rfl | rfl | rfl | rfl | rfl | rfl | rfl | rfl | rfl | rfl | rfl | rfl
  all_goals
    go_ret
    exact ⟨rfl, below2 _ _ _⟩

def refFrom (m : M) (f : Nat) : Int := if f = 3 ∨ f = 6 ∨ f = 8 ∨ f = 9 ∨ f = 10 then 0 else if f = 11 then (if m.op.k = 1 then 32 else 0) else if f = 12 then (if m.k = 2 then m.c else 1) else 1
def refTo (m : M) (f : Nat) : Int := if f = 1 then 255 else if f = 2 ∨ f = 13 then 64 else if f = 4 then 65 else if f = 9 then 2 else if f = 10 then (if m.op.k = 0 then 0 else 4095) else if f = 11 then (if m.op.k = 1 then 126 else 0) else if f = 12 then (if m.k = 2 then m.c else 64) else 4096
theorem below1 (w : World) (X : Obj) : Below w.heap.size w (w.alloc X) := (Below.refl _ w).alloc (Nat.le_refl _) X

set_option maxRecDepth 100000 in
set_option maxHeartbeats 1000000 in
theorem from_any (m : M) (f : Nat) (w : World) (h1 : 1 ≤ f) (h2 : f < 14) : Calls Tryd.prog 124 #[.agg m.cs, .int .i64 f] w (RetV w (.int .i64 (refFrom m f))) := by
  obtain ⟨k, ep, c, ha, fi, nu, ac, re, ta, ⟨ok, op, oc, ol, os⟩⟩ := m
  have e11 : refFrom ⟨k, ep, c, ha, fi, nu, ac, re, ta, ⟨ok, op, oc, ol, os⟩⟩ 11 = if ok = 1 then 32 else 0 := by simp [refFrom]
  have e12 : refFrom ⟨k, ep, c, ha, fi, nu, ac, re, ta, ⟨ok, op, oc, ol, os⟩⟩ 12 = if k = 2 then c else 1 := by simp [refFrom]
  unfold M.cs
  have HE := Lib.hid e11; have HF := Lib.hid e12
  clear e11 e12
  rcases fields13 h1 h2 with rfl | rfl | rfl | rfl | rfl | rfl | rfl | rfl | rfl | rfl | rfl | rfl | rfl
  case inr.inr.inr.inr.inr.inr.inr.inr.inr.inr.inl =>
    rw [HE.out]
    by_cases h : ok = 1
    · rw [if_pos h]
      subst h
      go_enter Tryd.func124, Tryd.ntmps124
      go_wp2_with fail
      go_ret
      exact ⟨rfl, below1 _ _⟩
    · rw [if_neg h]
      go_enter Tryd.func124, Tryd.ntmps124
      go_wp2_with fail
      go_ret
      exact ⟨rfl, below1 _ _⟩
  case inr.inr.inr.inr.inr.inr.inr.inr.inr.inr.inr.inl =>
    rw [HF.out]
    by_cases h : k = 2
    · rw [if_pos h]
      subst h
      go_enter Tryd.func124, Tryd.ntmps124
      go_wp2_with fail
      go_ret
      exact ⟨rfl, below1 _ _⟩
    · rw [if_neg h]
      go_enter Tryd.func124, Tryd.ntmps124
      go_wp2_with fail
      go_ret
      exact ⟨rfl, below1 _ _⟩
  all_goals
    go_enter Tryd.func124, Tryd.ntmps124
    go_wp2_with fail
    go_ret
    exact ⟨rfl, below1 _ _⟩

set_option maxRecDepth 100000 in
set_option maxHeartbeats 1000000 in
theorem to_any (m : M) (f : Nat) (w : World) (h1 : 1 ≤ f) (h2 : f < 14) : Calls Tryd.prog 125 #[.agg m.cs, .int .i64 f] w (RetV w (.int .i64 (refTo m f))) := by
  obtain ⟨k, ep, c, ha, fi, nu, ac, re, ta, ⟨ok, op, oc, ol, os⟩⟩ := m
  have e10 : refTo ⟨k, ep, c, ha, fi, nu, ac, re, ta, ⟨ok, op, oc, ol, os⟩⟩ 10 = if ok = 0 then 0 else 4095 := by simp [refTo]
  have e11 : refTo ⟨k, ep, c, ha, fi, nu, ac, re, ta, ⟨ok, op, oc, ol, os⟩⟩ 11 = if ok = 1 then 126 else 0 := by simp [refTo]
  have e12 : refTo ⟨k, ep, c, ha, fi, nu, ac, re, ta, ⟨ok, op, oc, ol, os⟩⟩ 12 = if k = 2 then c else 64 := by simp [refTo]
  unfold M.cs
  have HD := Lib.hid e10; have HE := Lib.hid e11; have HF := Lib.hid e12
  clear e10 e11 e12
  rcases fields13 h1 h2 with rfl | rfl | rfl | rfl | rfl | rfl | rfl | rfl | rfl | rfl | rfl | rfl | rfl
  case inr.inr.inr.inr.inr.inr.inr.inr.inr.inl =>
    rw [HD.out]
    by_cases h : ok = 0
    · rw [if_pos h]
      subst h
      go_enter Tryd.func125, Tryd.ntmps125
      go_wp2_with fail
      go_ret
      exact ⟨rfl, below1 _ _⟩
    · rw [if_neg h]
      go_enter Tryd.func125, Tryd.ntmps125
      go_wp2_with fail
      go_ret
      exact ⟨rfl, below1 _ _⟩
  case inr.inr.inr.inr.inr.inr.inr.inr.inr.inr.inl =>
    rw [HE.out]
    by_cases h : ok = 1
    · rw [if_pos h]
      subst h
      go_enter Tryd.func125, Tryd.ntmps125
      go_wp2_with fail
      go_ret
      exact ⟨rfl, below1 _ _⟩
    · rw [if_neg h]
      go_enter Tryd.func125, Tryd.ntmps125
      go_wp2_with fail
      go_ret
      exact ⟨rfl, below1 _ _⟩
  case inr.inr.inr.inr.inr.inr.inr.inr.inr.inr.inr.inl =>
    rw [HF.out]
    by_cases h : k = 2
    · rw [if_pos h]
      subst h
      go_enter Tryd.func125, Tryd.ntmps125
      go_wp2_with fail
      go_ret
      exact ⟨rfl, below1 _ _⟩
    · rw [if_neg h]
      go_enter Tryd.func125, Tryd.ntmps125
      go_wp2_with fail
      go_ret
      exact ⟨rfl, below1 _ _⟩
  all_goals
    go_enter Tryd.func125, Tryd.ntmps125
    go_wp2_with fail
    go_ret
    exact ⟨rfl, below1 _ _⟩
end Go.Proofs.YtoophonmonojcaaDoor

/- Contracts of jotterref06's holds, among, length, itemFields, asMsg, put. -/
namespace Go.Proofs.YtoophonmonojcaaDoor
open Go.RowKit

def refHolds (m : M) (f : Nat) : Bool := decide (refFrom m f ≤ m.at f) && decide (m.at f ≤ refTo m f)

set_option maxRecDepth 100000 in
set_option maxHeartbeats 1000000 in
theorem holds_any (m : M) (f : Nat) (w : World) (h1 : 1 ≤ f) (h2 : f < 14) (hch : 0 ≤ m.op.ch ∧ m.op.ch ≤ 255) : Calls Tryd.prog 91 #[.agg m.cs, .int .i64 f] w (RetV w (.bool (refHolds m f))) := by
  have hget : ∀ w, Calls Tryd.prog 92 #[.agg m.cs, .int .i64 f] w (RetV w (.int .i64 (m.at f))) := fun w => get_any m f w h1 h2 hch
  have hfrom : ∀ w, Calls Tryd.prog 124 #[.agg m.cs, .int .i64 f] w (RetV w (.int .i64 (refFrom m f))) := fun w => from_any m f w h1 h2
  have hto : ∀ w, Calls Tryd.prog 125 #[.agg m.cs, .int .i64 f] w (RetV w (.int .i64 (refTo m f))) := fun w => to_any m f w h1 h2
  unfold refHolds
  obtain ⟨z, hz⟩ : ∃ z, z = m.at f := ⟨_, rfl⟩
  obtain ⟨lo, hlo⟩ : ∃ z, z = refFrom m f := ⟨_, rfl⟩
  obtain ⟨hi, hhi⟩ : ∃ z, z = refTo m f := ⟨_, rfl⟩
  rw [← hz] at hget ⊢
  rw [← hlo] at hfrom ⊢
  rw [← hhi] at hto ⊢
  have HG := Lib.hid hget; have HF := Lib.hid hfrom; have HT := Lib.hid hto
  clear hget hfrom hto hz hlo hhi
  have hM0 : MsgAt (w.alloc (.cells m.cs 25)) w.heap.size m := heap_alloc_new _ _
  have HM0 := Lib.hid hM0
  clear hM0
  go_enter Tryd.func91, Tryd.ntmps91
  go_wp2_with (with_reducible refine wpList_loadMsg rfl (.tmp 2) rfl w.heap.size m rfl HM0.out ?_)
  refine (HG.out _).mono ?_
  rintro e w1 ⟨rfl, hb1⟩
  have HM1 := Lib.hid (HM0.out.keep hb1); have HB1 := Lib.hid ((below1 w _).trans (hb1.mono (below1 w _).size))
  clear hb1
  go_wp2_with (with_reducible refine wpList_loadMsg rfl (.tmp 2) rfl w.heap.size m rfl HM1.out ?_)
  refine (HF.out _).mono ?_
  rintro e w2 ⟨rfl, hb2⟩
  have HM2 := Lib.hid (HM1.out.keep hb2); have HB2 := Lib.hid (HB1.out.trans (hb2.mono HB1.out.size))
  clear hb2
  by_cases hlo : lo ≤ z
  · go_wp2_with (first
      | (with_reducible refine wpList_loadMsgG (.tmp 2) rfl w.heap.size m rfl HM2.out (by kernel_rfl) ?_)
      | (with_reducible refine wpList_loadMsg rfl (.tmp 2) rfl w.heap.size m rfl HM2.out ?_))
    refine (HT.out _).mono ?_
    rintro e w3 ⟨rfl, hb3⟩
    have HB3 := Lib.hid (HB2.out.trans (hb3.mono HB2.out.size))
    clear hb3
    go_wp2_with fail
    go_ret
    exact ⟨by simp [*], HB3.out⟩
  · go_wp2_with fail
    go_ret
    exact ⟨by simp [*]; omega, HB2.out⟩

theorem notin_snoc {l t : List Nat} {f q : Nat} (e : l = t ++ [q]) (h : f ∉ t) (hq : q ≠ f) : f ∉ l := by
  rw [e]
  intro hm
  rcases List.mem_append.1 hm with h' | h'
  · exact h h'
  · simp at h'; exact hq h'.symm
set_option maxRecDepth 100000 in
set_option maxHeartbeats 1000000 in
theorem among_ref (ao : Option Addr) (n cap : Nat) (l : List Nat) (f : Nat) (w : World) (hl : l.length = n) (hr : RdN w ao l) (hb : n ≤ 1000) :
    Calls Tryd.prog 90 #[.slice ao n cap, .int .i64 f] w fun e w' => e = .returned (.bool (decide (f ∈ l))) ∧ w = w' := by
  have HL := Lib.hid hl; have HR := Lib.hid hr
  clear hl hr
  go_enter Tryd.func90, Tryd.ntmps90
  go_wp2_with fail
  go_loopw [5] (fun i wr => ∃ (k : Nat), k ≤ n ∧ i = .int .i64 k ∧ Hid (f ∉ l.take k) ∧ w = wr) (fun i _ => n - (intOf i).toNat)
  case atStart => exact ⟨0, Nat.zero_le _, rfl, by simp [Hid], rfl⟩
  case round =>
    obtain ⟨k, hk, rfl, hno, rfl⟩ := hrel
    have HNO := Lib.hid hno.out
    clear hno
    by_cases hlt : k < n
    · obtain ⟨b, off, rfl, _, hc⟩ := HR.out.some (by have := HL.out; omega)
      have hck := hc k (by have := HL.out; omega)
      have hkl : k < l.length := by have := HL.out; omega
      have htk : l.take (k + 1) = l.take k ++ [l.getD k 0] := by rw [List.take_succ_eq_append_getElem hkl, List.getD_eq_getElem?_getD, List.getElem?_eq_getElem hkl]; rfl
      have hmem : l.getD k 0 ∈ l := by rw [List.getD_eq_getElem?_getD, List.getElem?_eq_getElem hkl]; exact List.getElem_mem _
      obtain ⟨q, hq⟩ : ∃ q, q = l.getD k 0 := ⟨_, rfl⟩
      rw [← hq] at hck htk hmem
      have HTK := Lib.hid htk; have HME := Lib.hid hmem
      clear htk hmem hq hc hkl
      by_cases hqf : q = f
      · subst hqf
        go_wp2_with fail
        go_ret
        exact ⟨by simp [HME.out], rfl⟩
      · have hqf' : ¬ ((q : Int) = (f : Int)) := by omega
        go_wp2_with fail
        go_roundw
        case rel => exact ⟨k + 1, by omega, by go_num, notin_snoc HTK.out HNO.out hqf, by trivial⟩
        case measure => simp [intOf]; omega
    · obtain rfl : k = n := by omega
      go_wp2_with fail
      go_ret
      have h := HNO.out
      rw [List.take_of_length_le (by have := HL.out; omega)] at h
      exact ⟨by simp [h], rfl⟩

def lenOf (l : List Nat) : Nat := (l.map fun f => sizeL.getD f 0).sum
theorem size_one (f : Nat) : sizeL.getD f 0 ≤ 2 := by
  rcases Nat.lt_or_ge f 14 with h | h
  · have hc : ∀ f < 14, sizeL.getD f 0 ≤ 2 := by decide
    exact hc f h
  · rw [List.getD_eq_getElem?_getD, List.getElem?_eq_none (by simpa [sizeL] using h)]; simp
theorem lenOf_le (l : List Nat) : lenOf l ≤ 2 * l.length := by
  induction l with
  | nil => simp [lenOf]
  | cons a t ih => have := size_one a; simp only [lenOf, List.map_cons, List.sum_cons, List.length_cons] at *; omega
theorem lenOf_take (l : List Nat) (k : Nat) (h : k < l.length) : lenOf (l.take (k + 1)) = lenOf (l.take k) + sizeL.getD (l.getD k 0) 0 := by
  have e : l.getD k 0 = l[k] := by rw [List.getD_eq_getElem?_getD, List.getElem?_eq_getElem h]; rfl
  rw [List.take_succ_eq_append_getElem h, e]
  unfold lenOf
  rw [List.map_append, List.sum_append]
  rfl

set_option maxRecDepth 100000 in
set_option maxHeartbeats 1000000 in
theorem length_any (ao : Option Addr) (n cap : Nat) (l : List Nat) (w : World) (hl : l.length = n) (hr : RdN w ao l) (hb : n ≤ 1000) (hf : ∀ f ∈ l, 1 ≤ f ∧ f < 14) :
    Calls Tryd.prog 94 #[.slice ao n cap] w fun e w' => e = .returned (.int .i64 (lenOf l)) ∧ w = w' := by
  have HL := Lib.hid hl; have HR := Lib.hid hr; have HF := Lib.hid hf
  clear hl hr hf
  go_enter Tryd.func94, Tryd.ntmps94
  go_wp2_with fail
  go_loopw [3, 4] (fun s i wr => ∃ (k : Nat), k ≤ n ∧ i = .int .i64 k ∧ s = .int .i64 (lenOf (l.take k)) ∧ w = wr) (fun _ i _ => n - (intOf i).toNat)
  case atStart => exact ⟨0, Nat.zero_le _, rfl, rfl, rfl⟩
  case round =>
    obtain ⟨k, hk, rfl, rfl, rfl⟩ := hrel
    have hle := lenOf_le (l.take k)
    have htk := List.length_take_le k l
    by_cases hlt : k < n
    · obtain ⟨b, off, rfl, _, hc⟩ := HR.out.some (by have := HL.out; omega)
      have hkl : k < l.length := by have := HL.out; omega
      have hck := hc k hkl
      have hlt' := lenOf_take l k hkl
      have hmem := HF.out (l.getD k 0) (by rw [List.getD_eq_getElem?_getD, List.getElem?_eq_getElem hkl]; exact List.getElem_mem _)
      obtain ⟨q, hq⟩ : ∃ q, q = l.getD k 0 := ⟨_, rfl⟩
      rw [← hq] at hck hlt' hmem
      have hs := size_one q
      obtain ⟨N, hN⟩ : ∃ N, N = lenOf (l.take k) := ⟨_, rfl⟩
      rw [← hN] at hle hlt' ⊢
      have HLT := Lib.hid hlt'
      clear hlt' hq hc hkl hN
      go_wp2_with fail
      refine (wide_any q _ hmem.1 hmem.2).mono ?_
      rintro e w1 ⟨rfl, rfl⟩
      obtain ⟨s, hs'⟩ : ∃ s, s = sizeL.getD q 0 := ⟨_, rfl⟩
      rw [← hs'] at hs ⊢
      have HS := Lib.hid hs'
      clear hs'
      go_wp2_with fail
      go_roundw
      case rel => exact ⟨k + 1, by omega, by go_num, by rw [HLT.out, HS.out]; go_num, by trivial⟩
      case measure => simp [intOf]; omega
    · obtain rfl : k = n := by omega
      go_wp2_with fail
      go_ret
      rw [List.take_of_length_le (by have := HL.out; omega)]
      exact ⟨rfl, rfl⟩
end Go.Proofs.YtoophonmonojcaaDoor

/- Contracts of jotterref06's put, itemFields, asMsg. -/
namespace Go.Proofs.YtoophonmonojcaaDoor
open Go.RowKit
def putM (m : M) (f : Nat) (v : Int) : M := M.of fun i => if i = f then v else m.at i
theorem run_storeF (w : World) (g f : Nat) (m : M) (t : TypeId) (v : Value) (hg : MsgAt w g m) (hf : f < 14) (hi : (Tryd.prog.info? t).map (·.size) = some 1) (h1 : v.oneCell' = true) (hc : v.cells = #[v]) : (storeVar t ⟨g, f, none⟩ v).run Tryd.prog w = .ok () (w.setCell ⟨g, f, none⟩ v) := by
  have hsome : (w.cell? ⟨g, f, none⟩).isSome = true := by
    unfold MsgAt at hg
    have hl : m.cs.size = 14 := rfl
    simp [World.cell?, hg, hl, hf]
  have := run_storeCells_cells (P := Tryd.prog) g f [v] 0 w (fun j hj => by obtain rfl : j = 0 := (by simp at hj; exact hj); simpa using hsome) (fun j hj => by simp [hg.frozen]) (fun u hu => by simp at hu; subst hu; exact h1)
  simp only [Nat.add_zero, World.setCells] at this
  cases hq : Tryd.prog.info? t with
  | none => simp [hq] at hi
  | some i =>
    have hs : i.size = 1 := by simpa [hq] using hi
    simp [storeVar, sizeOf, typeInfo, hq, hc, hs, this]
/-- One field is stored. -/
theorem wpList_storeF {ops : Array Oper} {rest : List Oper} {o : Oper} {a : Act} {w : World} {Q : Exit → Act → World → Prop} (hgd : o.guard = none) (t : TypeId) (x y : Operand) (ho : o.op = .store t x y) (hd : o.dst = none) (g f : Nat) (m m' : M) (v : Value)
    (hx : a.eval x = .pointer (some ⟨g, f, none⟩)) (hy : a.eval y = v) (hg : MsgAt w g m) (hf : f < 14) (hi : (Tryd.prog.info? t).map (·.size) = some 1) (h1 : v.oneCell' = true) (hc : v.cells = #[v]) (hm : m.cs.setIfInBounds f v = m'.cs)
    (h : ∀ w', MsgAt w' g m' → w.grownBy w' (some g) → wpList Tryd.prog ops Q rest a w') : wpList Tryd.prog ops Q (o :: rest) a w :=
  wpList_plain hgd fun _ hK => by
    unfold Oper.wp execOp
    simp only [ho, hx, hy, Instr.storeAt, Instr.sureAddr, Sem.run_bind, Sem.run_pure, Result.andThen_ok, run_storeF w g f m t v hg hf hi h1 hc]
    refine hK _ _ ?_
    rw [hd]
    refine h _ ?_ (grown_setCell w ⟨g, f, none⟩ _)
    unfold MsgAt at *
    rw [heap_setCell_same hg, hm]
theorem infoU81 : (Tryd.prog.info? 5).map (·.size) = some 1 := by kernel_rfl
theorem ret_msg1 {fn : Func} {p : Tmp} (h : fn.results = #[.cell p 25]) {R : Ending → World → Prop} {a : Act} {w : World} (hd : a.defers = []) (g : Nat) (m : M) (hp : a.tmps.getD p undef = .pointer (some ⟨g, 0, none⟩)) (hg : MsgAt w g m)
    (hR : R (.returned (.agg m.cs)) w) : bodyPost Tryd.prog fn R .ret a w :=
  bodyPost_ret (results_cell_row h _ w g 25 m.cs (0, 0) _ hp hg Tryd.underlying25 rfl infoMsg) hd hR
theorem setNum (m : M) (f : Nat) (v : Int) (h1 : 1 ≤ f) (h2 : f < 14) (h : f ≠ 11) : m.cs.setIfInBounds f (.int .i64 v) = (putM m f v).cs := by
  rcases fields13 h1 h2 with rfl | rfl | rfl | rfl | rfl | rfl | rfl | rfl | rfl | rfl | rfl | rfl | rfl
  case inr.inr.inr.inr.inr.inr.inr.inr.inr.inr.inl => exact absurd rfl h
  all_goals rfl
theorem one_i64 (v : Int) : (Value.int .i64 v).oneCell' = true := rfl
theorem cells_i64 (v : Int) : (Value.int .i64 v).cells = #[Value.int .i64 v] := rfl
theorem one_u8 (v : Int) : (Value.int .u8 v).oneCell' = true := rfl
theorem cells_u8 (v : Int) : (Value.int .u8 v).cells = #[Value.int .u8 v] := rfl
theorem setCh (m : M) (v : Int) : m.cs.setIfInBounds 11 (.int .u8 v) = (putM m 11 v).cs := rfl

theorem msg_two (w : World) (m m' : M) (cs : Array Value) (h : cs = m'.cs) : MsgAt ((w.alloc (.cells cs 25)).alloc (.cells m.cs 25)) w.heap.size m' ∧ MsgAt ((w.alloc (.cells cs 25)).alloc (.cells m.cs 25)) (w.heap.size + 1) m := by
  subst h
  exact ⟨(heap_push _ _ _ (by simp)).trans (heap_last w _), heap_two _ _ _⟩
set_option maxRecDepth 100000 in
set_option maxHeartbeats 1000000 in
theorem put1 (m : M) (v : Int) (w : World) : Calls Tryd.prog 127 #[.agg m.cs, .int .i64 (1 : Nat), .int .i64 v] w (RetV w (.agg (putM m 1 v).cs)) := by
  have hm1 := msg_two w zeroM (putM m 1 v) _ (setNum m 1 v (by decide) (by decide) (by decide))
  have HM1 := Lib.hid (show MsgAt ((w.alloc (.cells (m.cs.setIfInBounds 1 (.int .i64 v)) 25)).alloc (.cells #[.int .i64 0, .int .i64 0, .int .i64 0, .int .i64 0, .int .i64 0, .int .i64 0, .int .i64 0, .int .i64 0, .int .i64 0, .int .i64 0, .int .i64 0, .int .u8 0, .int .i64 0, .int .i64 0] 25)) w.heap.size (putM m 1 v) from hm1.1)
  have HZ1 := Lib.hid (show MsgAt ((w.alloc (.cells (m.cs.setIfInBounds 1 (.int .i64 v)) 25)).alloc (.cells #[.int .i64 0, .int .i64 0, .int .i64 0, .int .i64 0, .int .i64 0, .int .i64 0, .int .i64 0, .int .i64 0, .int .i64 0, .int .i64 0, .int .i64 0, .int .u8 0, .int .i64 0, .int .i64 0] 25)) (w.heap.size + 1) zeroM from hm1.2)
  clear hm1
  go_enter Tryd.func127, Tryd.ntmps127
  go_wp2_with (first
    | (with_reducible refine wpList_loadMsg rfl (.tmp 3) rfl w.heap.size (putM m 1 v) rfl HM1.out ?_)
    | ((with_reducible refine wpList_storeMsg2 rfl (.tmp 6) (.tmp 66) rfl rfl (w.heap.size + 1) zeroM (putM m 1 v) rfl rfl HZ1.out ?_); intro w2 hm2 ht2 ho2; have HM2 := Lib.hid hm2; have HB2 := Lib.hid (ht2 _ _ (by omega) (below2 w _ _)); clear hm2 ht2 ho2))
  try simp only [Exit.inBlock, Exit.then]
  exact ret_msg1 rfl rfl (w.heap.size + 1) _ rfl HM2.out ⟨rfl, HB2.out⟩
set_option maxRecDepth 100000 in
set_option maxHeartbeats 1000000 in
theorem put2 (m : M) (v : Int) (w : World) : Calls Tryd.prog 127 #[.agg m.cs, .int .i64 (2 : Nat), .int .i64 v] w (RetV w (.agg (putM m 2 v).cs)) := by
  have hm1 := msg_two w zeroM (putM m 2 v) _ (setNum m 2 v (by decide) (by decide) (by decide))
  have HM1 := Lib.hid (show MsgAt ((w.alloc (.cells (m.cs.setIfInBounds 2 (.int .i64 v)) 25)).alloc (.cells #[.int .i64 0, .int .i64 0, .int .i64 0, .int .i64 0, .int .i64 0, .int .i64 0, .int .i64 0, .int .i64 0, .int .i64 0, .int .i64 0, .int .i64 0, .int .u8 0, .int .i64 0, .int .i64 0] 25)) w.heap.size (putM m 2 v) from hm1.1)
  have HZ1 := Lib.hid (show MsgAt ((w.alloc (.cells (m.cs.setIfInBounds 2 (.int .i64 v)) 25)).alloc (.cells #[.int .i64 0, .int .i64 0, .int .i64 0, .int .i64 0, .int .i64 0, .int .i64 0, .int .i64 0, .int .i64 0, .int .i64 0, .int .i64 0, .int .i64 0, .int .u8 0, .int .i64 0, .int .i64 0] 25)) (w.heap.size + 1) zeroM from hm1.2)
  clear hm1
  go_enter Tryd.func127, Tryd.ntmps127
  go_wp2_with (first
    | (with_reducible refine wpList_loadMsg rfl (.tmp 3) rfl w.heap.size (putM m 2 v) rfl HM1.out ?_)
    | ((with_reducible refine wpList_storeMsg2 rfl (.tmp 6) (.tmp 66) rfl rfl (w.heap.size + 1) zeroM (putM m 2 v) rfl rfl HZ1.out ?_); intro w2 hm2 ht2 ho2; have HM2 := Lib.hid hm2; have HB2 := Lib.hid (ht2 _ _ (by omega) (below2 w _ _)); clear hm2 ht2 ho2))
  try simp only [Exit.inBlock, Exit.then]
  exact ret_msg1 rfl rfl (w.heap.size + 1) _ rfl HM2.out ⟨rfl, HB2.out⟩
set_option maxRecDepth 100000 in
set_option maxHeartbeats 1000000 in
theorem put3 (m : M) (v : Int) (w : World) : Calls Tryd.prog 127 #[.agg m.cs, .int .i64 (3 : Nat), .int .i64 v] w (RetV w (.agg (putM m 3 v).cs)) := by
  have hm1 := msg_two w zeroM (putM m 3 v) _ (setNum m 3 v (by decide) (by decide) (by decide))
  have HM1 := Lib.hid (show MsgAt ((w.alloc (.cells (m.cs.setIfInBounds 3 (.int .i64 v)) 25)).alloc (.cells #[.int .i64 0, .int .i64 0, .int .i64 0, .int .i64 0, .int .i64 0, .int .i64 0, .int .i64 0, .int .i64 0, .int .i64 0, .int .i64 0, .int .i64 0, .int .u8 0, .int .i64 0, .int .i64 0] 25)) w.heap.size (putM m 3 v) from hm1.1)
  have HZ1 := Lib.hid (show MsgAt ((w.alloc (.cells (m.cs.setIfInBounds 3 (.int .i64 v)) 25)).alloc (.cells #[.int .i64 0, .int .i64 0, .int .i64 0, .int .i64 0, .int .i64 0, .int .i64 0, .int .i64 0, .int .i64 0, .int .i64 0, .int .i64 0, .int .i64 0, .int .u8 0, .int .i64 0, .int .i64 0] 25)) (w.heap.size + 1) zeroM from hm1.2)
  clear hm1
  go_enter Tryd.func127, Tryd.ntmps127
  go_wp2_with (first
    | (with_reducible refine wpList_loadMsg rfl (.tmp 3) rfl w.heap.size (putM m 3 v) rfl HM1.out ?_)
    | ((with_reducible refine wpList_storeMsg2 rfl (.tmp 6) (.tmp 66) rfl rfl (w.heap.size + 1) zeroM (putM m 3 v) rfl rfl HZ1.out ?_); intro w2 hm2 ht2 ho2; have HM2 := Lib.hid hm2; have HB2 := Lib.hid (ht2 _ _ (by omega) (below2 w _ _)); clear hm2 ht2 ho2))
  try simp only [Exit.inBlock, Exit.then]
  exact ret_msg1 rfl rfl (w.heap.size + 1) _ rfl HM2.out ⟨rfl, HB2.out⟩
set_option maxRecDepth 100000 in
set_option maxHeartbeats 1000000 in
theorem put4 (m : M) (v : Int) (w : World) : Calls Tryd.prog 127 #[.agg m.cs, .int .i64 (4 : Nat), .int .i64 v] w (RetV w (.agg (putM m 4 v).cs)) := by
  have hm1 := msg_two w zeroM (putM m 4 v) _ (setNum m 4 v (by decide) (by decide) (by decide))
  have HM1 := Lib.hid (show MsgAt ((w.alloc (.cells (m.cs.setIfInBounds 4 (.int .i64 v)) 25)).alloc (.cells #[.int .i64 0, .int .i64 0, .int .i64 0, .int .i64 0, .int .i64 0, .int .i64 0, .int .i64 0, .int .i64 0, .int .i64 0, .int .i64 0, .int .i64 0, .int .u8 0, .int .i64 0, .int .i64 0] 25)) w.heap.size (putM m 4 v) from hm1.1)
  have HZ1 := Lib.hid (show MsgAt ((w.alloc (.cells (m.cs.setIfInBounds 4 (.int .i64 v)) 25)).alloc (.cells #[.int .i64 0, .int .i64 0, .int .i64 0, .int .i64 0, .int .i64 0, .int .i64 0, .int .i64 0, .int .i64 0, .int .i64 0, .int .i64 0, .int .i64 0, .int .u8 0, .int .i64 0, .int .i64 0] 25)) (w.heap.size + 1) zeroM from hm1.2)
  clear hm1
  go_enter Tryd.func127, Tryd.ntmps127
  go_wp2_with (first
    | (with_reducible refine wpList_loadMsg rfl (.tmp 3) rfl w.heap.size (putM m 4 v) rfl HM1.out ?_)
    | ((with_reducible refine wpList_storeMsg2 rfl (.tmp 6) (.tmp 66) rfl rfl (w.heap.size + 1) zeroM (putM m 4 v) rfl rfl HZ1.out ?_); intro w2 hm2 ht2 ho2; have HM2 := Lib.hid hm2; have HB2 := Lib.hid (ht2 _ _ (by omega) (below2 w _ _)); clear hm2 ht2 ho2))
  try simp only [Exit.inBlock, Exit.then]
  exact ret_msg1 rfl rfl (w.heap.size + 1) _ rfl HM2.out ⟨rfl, HB2.out⟩
set_option maxRecDepth 100000 in
set_option maxHeartbeats 1000000 in
theorem put5 (m : M) (v : Int) (w : World) : Calls Tryd.prog 127 #[.agg m.cs, .int .i64 (5 : Nat), .int .i64 v] w (RetV w (.agg (putM m 5 v).cs)) := by
  have hm1 := msg_two w zeroM (putM m 5 v) _ (setNum m 5 v (by decide) (by decide) (by decide))
  have HM1 := Lib.hid (show MsgAt ((w.alloc (.cells (m.cs.setIfInBounds 5 (.int .i64 v)) 25)).alloc (.cells #[.int .i64 0, .int .i64 0, .int .i64 0, .int .i64 0, .int .i64 0, .int .i64 0, .int .i64 0, .int .i64 0, .int .i64 0, .int .i64 0, .int .i64 0, .int .u8 0, .int .i64 0, .int .i64 0] 25)) w.heap.size (putM m 5 v) from hm1.1)
  have HZ1 := Lib.hid (show MsgAt ((w.alloc (.cells (m.cs.setIfInBounds 5 (.int .i64 v)) 25)).alloc (.cells #[.int .i64 0, .int .i64 0, .int .i64 0, .int .i64 0, .int .i64 0, .int .i64 0, .int .i64 0, .int .i64 0, .int .i64 0, .int .i64 0, .int .i64 0, .int .u8 0, .int .i64 0, .int .i64 0] 25)) (w.heap.size + 1) zeroM from hm1.2)
  clear hm1
  go_enter Tryd.func127, Tryd.ntmps127
  go_wp2_with (first
    | (with_reducible refine wpList_loadMsg rfl (.tmp 3) rfl w.heap.size (putM m 5 v) rfl HM1.out ?_)
    | ((with_reducible refine wpList_storeMsg2 rfl (.tmp 6) (.tmp 66) rfl rfl (w.heap.size + 1) zeroM (putM m 5 v) rfl rfl HZ1.out ?_); intro w2 hm2 ht2 ho2; have HM2 := Lib.hid hm2; have HB2 := Lib.hid (ht2 _ _ (by omega) (below2 w _ _)); clear hm2 ht2 ho2))
  try simp only [Exit.inBlock, Exit.then]
  exact ret_msg1 rfl rfl (w.heap.size + 1) _ rfl HM2.out ⟨rfl, HB2.out⟩
set_option maxRecDepth 100000 in
set_option maxHeartbeats 1000000 in
theorem put6 (m : M) (v : Int) (w : World) : Calls Tryd.prog 127 #[.agg m.cs, .int .i64 (6 : Nat), .int .i64 v] w (RetV w (.agg (putM m 6 v).cs)) := by
  have hm1 := msg_two w zeroM (putM m 6 v) _ (setNum m 6 v (by decide) (by decide) (by decide))
  have HM1 := Lib.hid (show MsgAt ((w.alloc (.cells (m.cs.setIfInBounds 6 (.int .i64 v)) 25)).alloc (.cells #[.int .i64 0, .int .i64 0, .int .i64 0, .int .i64 0, .int .i64 0, .int .i64 0, .int .i64 0, .int .i64 0, .int .i64 0, .int .i64 0, .int .i64 0, .int .u8 0, .int .i64 0, .int .i64 0] 25)) w.heap.size (putM m 6 v) from hm1.1)
  have HZ1 := Lib.hid (show MsgAt ((w.alloc (.cells (m.cs.setIfInBounds 6 (.int .i64 v)) 25)).alloc (.cells #[.int .i64 0, .int .i64 0, .int .i64 0, .int .i64 0, .int .i64 0, .int .i64 0, .int .i64 0, .int .i64 0, .int .i64 0, .int .i64 0, .int .i64 0, .int .u8 0, .int .i64 0, .int .i64 0] 25)) (w.heap.size + 1) zeroM from hm1.2)
  clear hm1
  go_enter Tryd.func127, Tryd.ntmps127
  go_wp2_with (first
    | (with_reducible refine wpList_loadMsg rfl (.tmp 3) rfl w.heap.size (putM m 6 v) rfl HM1.out ?_)
    | ((with_reducible refine wpList_storeMsg2 rfl (.tmp 6) (.tmp 66) rfl rfl (w.heap.size + 1) zeroM (putM m 6 v) rfl rfl HZ1.out ?_); intro w2 hm2 ht2 ho2; have HM2 := Lib.hid hm2; have HB2 := Lib.hid (ht2 _ _ (by omega) (below2 w _ _)); clear hm2 ht2 ho2))
  try simp only [Exit.inBlock, Exit.then]
  exact ret_msg1 rfl rfl (w.heap.size + 1) _ rfl HM2.out ⟨rfl, HB2.out⟩
set_option maxRecDepth 100000 in
set_option maxHeartbeats 1000000 in
theorem put7 (m : M) (v : Int) (w : World) : Calls Tryd.prog 127 #[.agg m.cs, .int .i64 (7 : Nat), .int .i64 v] w (RetV w (.agg (putM m 7 v).cs)) := by
  have hm1 := msg_two w zeroM (putM m 7 v) _ (setNum m 7 v (by decide) (by decide) (by decide))
  have HM1 := Lib.hid (show MsgAt ((w.alloc (.cells (m.cs.setIfInBounds 7 (.int .i64 v)) 25)).alloc (.cells #[.int .i64 0, .int .i64 0, .int .i64 0, .int .i64 0, .int .i64 0, .int .i64 0, .int .i64 0, .int .i64 0, .int .i64 0, .int .i64 0, .int .i64 0, .int .u8 0, .int .i64 0, .int .i64 0] 25)) w.heap.size (putM m 7 v) from hm1.1)
  have HZ1 := Lib.hid (show MsgAt ((w.alloc (.cells (m.cs.setIfInBounds 7 (.int .i64 v)) 25)).alloc (.cells #[.int .i64 0, .int .i64 0, .int .i64 0, .int .i64 0, .int .i64 0, .int .i64 0, .int .i64 0, .int .i64 0, .int .i64 0, .int .i64 0, .int .i64 0, .int .u8 0, .int .i64 0, .int .i64 0] 25)) (w.heap.size + 1) zeroM from hm1.2)
  clear hm1
  go_enter Tryd.func127, Tryd.ntmps127
  go_wp2_with (first
    | (with_reducible refine wpList_loadMsg rfl (.tmp 3) rfl w.heap.size (putM m 7 v) rfl HM1.out ?_)
    | ((with_reducible refine wpList_storeMsg2 rfl (.tmp 6) (.tmp 66) rfl rfl (w.heap.size + 1) zeroM (putM m 7 v) rfl rfl HZ1.out ?_); intro w2 hm2 ht2 ho2; have HM2 := Lib.hid hm2; have HB2 := Lib.hid (ht2 _ _ (by omega) (below2 w _ _)); clear hm2 ht2 ho2))
  try simp only [Exit.inBlock, Exit.then]
  exact ret_msg1 rfl rfl (w.heap.size + 1) _ rfl HM2.out ⟨rfl, HB2.out⟩
set_option maxRecDepth 100000 in
set_option maxHeartbeats 1000000 in
theorem put8 (m : M) (v : Int) (w : World) : Calls Tryd.prog 127 #[.agg m.cs, .int .i64 (8 : Nat), .int .i64 v] w (RetV w (.agg (putM m 8 v).cs)) := by
  have hm1 := msg_two w zeroM (putM m 8 v) _ (setNum m 8 v (by decide) (by decide) (by decide))
  have HM1 := Lib.hid (show MsgAt ((w.alloc (.cells (m.cs.setIfInBounds 8 (.int .i64 v)) 25)).alloc (.cells #[.int .i64 0, .int .i64 0, .int .i64 0, .int .i64 0, .int .i64 0, .int .i64 0, .int .i64 0, .int .i64 0, .int .i64 0, .int .i64 0, .int .i64 0, .int .u8 0, .int .i64 0, .int .i64 0] 25)) w.heap.size (putM m 8 v) from hm1.1)
  have HZ1 := Lib.hid (show MsgAt ((w.alloc (.cells (m.cs.setIfInBounds 8 (.int .i64 v)) 25)).alloc (.cells #[.int .i64 0, .int .i64 0, .int .i64 0, .int .i64 0, .int .i64 0, .int .i64 0, .int .i64 0, .int .i64 0, .int .i64 0, .int .i64 0, .int .i64 0, .int .u8 0, .int .i64 0, .int .i64 0] 25)) (w.heap.size + 1) zeroM from hm1.2)
  clear hm1
  go_enter Tryd.func127, Tryd.ntmps127
  go_wp2_with (first
    | (with_reducible refine wpList_loadMsg rfl (.tmp 3) rfl w.heap.size (putM m 8 v) rfl HM1.out ?_)
    | ((with_reducible refine wpList_storeMsg2 rfl (.tmp 6) (.tmp 66) rfl rfl (w.heap.size + 1) zeroM (putM m 8 v) rfl rfl HZ1.out ?_); intro w2 hm2 ht2 ho2; have HM2 := Lib.hid hm2; have HB2 := Lib.hid (ht2 _ _ (by omega) (below2 w _ _)); clear hm2 ht2 ho2))
  try simp only [Exit.inBlock, Exit.then]
  exact ret_msg1 rfl rfl (w.heap.size + 1) _ rfl HM2.out ⟨rfl, HB2.out⟩
set_option maxRecDepth 100000 in
set_option maxHeartbeats 1000000 in
theorem put9 (m : M) (v : Int) (w : World) : Calls Tryd.prog 127 #[.agg m.cs, .int .i64 (9 : Nat), .int .i64 v] w (RetV w (.agg (putM m 9 v).cs)) := by
  have hm1 := msg_two w zeroM (putM m 9 v) _ (setNum m 9 v (by decide) (by decide) (by decide))
  have HM1 := Lib.hid (show MsgAt ((w.alloc (.cells (m.cs.setIfInBounds 9 (.int .i64 v)) 25)).alloc (.cells #[.int .i64 0, .int .i64 0, .int .i64 0, .int .i64 0, .int .i64 0, .int .i64 0, .int .i64 0, .int .i64 0, .int .i64 0, .int .i64 0, .int .i64 0, .int .u8 0, .int .i64 0, .int .i64 0] 25)) w.heap.size (putM m 9 v) from hm1.1)
  have HZ1 := Lib.hid (show MsgAt ((w.alloc (.cells (m.cs.setIfInBounds 9 (.int .i64 v)) 25)).alloc (.cells #[.int .i64 0, .int .i64 0, .int .i64 0, .int .i64 0, .int .i64 0, .int .i64 0, .int .i64 0, .int .i64 0, .int .i64 0, .int .i64 0, .int .i64 0, .int .u8 0, .int .i64 0, .int .i64 0] 25)) (w.heap.size + 1) zeroM from hm1.2)
  clear hm1
  go_enter Tryd.func127, Tryd.ntmps127
  go_wp2_with (first
    | (with_reducible refine wpList_loadMsg rfl (.tmp 3) rfl w.heap.size (putM m 9 v) rfl HM1.out ?_)
    | ((with_reducible refine wpList_storeMsg2 rfl (.tmp 6) (.tmp 66) rfl rfl (w.heap.size + 1) zeroM (putM m 9 v) rfl rfl HZ1.out ?_); intro w2 hm2 ht2 ho2; have HM2 := Lib.hid hm2; have HB2 := Lib.hid (ht2 _ _ (by omega) (below2 w _ _)); clear hm2 ht2 ho2))
  try simp only [Exit.inBlock, Exit.then]
  exact ret_msg1 rfl rfl (w.heap.size + 1) _ rfl HM2.out ⟨rfl, HB2.out⟩
set_option maxRecDepth 100000 in
set_option maxHeartbeats 1000000 in
theorem put10 (m : M) (v : Int) (w : World) : Calls Tryd.prog 127 #[.agg m.cs, .int .i64 (10 : Nat), .int .i64 v] w (RetV w (.agg (putM m 10 v).cs)) := by
  have hm1 := msg_two w zeroM (putM m 10 v) _ (setNum m 10 v (by decide) (by decide) (by decide))
  have HM1 := Lib.hid (show MsgAt ((w.alloc (.cells (m.cs.setIfInBounds 10 (.int .i64 v)) 25)).alloc (.cells #[.int .i64 0, .int .i64 0, .int .i64 0, .int .i64 0, .int .i64 0, .int .i64 0, .int .i64 0, .int .i64 0, .int .i64 0, .int .i64 0, .int .i64 0, .int .u8 0, .int .i64 0, .int .i64 0] 25)) w.heap.size (putM m 10 v) from hm1.1)
  have HZ1 := Lib.hid (show MsgAt ((w.alloc (.cells (m.cs.setIfInBounds 10 (.int .i64 v)) 25)).alloc (.cells #[.int .i64 0, .int .i64 0, .int .i64 0, .int .i64 0, .int .i64 0, .int .i64 0, .int .i64 0, .int .i64 0, .int .i64 0, .int .i64 0, .int .i64 0, .int .u8 0, .int .i64 0, .int .i64 0] 25)) (w.heap.size + 1) zeroM from hm1.2)
  clear hm1
  go_enter Tryd.func127, Tryd.ntmps127
  go_wp2_with (first
    | (with_reducible refine wpList_loadMsg rfl (.tmp 3) rfl w.heap.size (putM m 10 v) rfl HM1.out ?_)
    | ((with_reducible refine wpList_storeMsg2 rfl (.tmp 6) (.tmp 66) rfl rfl (w.heap.size + 1) zeroM (putM m 10 v) rfl rfl HZ1.out ?_); intro w2 hm2 ht2 ho2; have HM2 := Lib.hid hm2; have HB2 := Lib.hid (ht2 _ _ (by omega) (below2 w _ _)); clear hm2 ht2 ho2))
  try simp only [Exit.inBlock, Exit.then]
  exact ret_msg1 rfl rfl (w.heap.size + 1) _ rfl HM2.out ⟨rfl, HB2.out⟩
set_option maxRecDepth 100000 in
set_option maxHeartbeats 1000000 in
theorem put11 (m : M) (v : Int) (w : World) (hv : 0 ≤ v ∧ v ≤ 255): Calls Tryd.prog 127 #[.agg m.cs, .int .i64 (11 : Nat), .int .i64 v] w (RetV w (.agg (putM m 11 v).cs)) := by
  have hm1 := msg_two w zeroM (putM m 11 v) _ (setCh m v)
  have HM1 := Lib.hid (show MsgAt ((w.alloc (.cells (m.cs.setIfInBounds 11 (.int .u8 v)) 25)).alloc (.cells #[.int .i64 0, .int .i64 0, .int .i64 0, .int .i64 0, .int .i64 0, .int .i64 0, .int .i64 0, .int .i64 0, .int .i64 0, .int .i64 0, .int .i64 0, .int .u8 0, .int .i64 0, .int .i64 0] 25)) w.heap.size (putM m 11 v) from hm1.1)
  have HZ1 := Lib.hid (show MsgAt ((w.alloc (.cells (m.cs.setIfInBounds 11 (.int .u8 v)) 25)).alloc (.cells #[.int .i64 0, .int .i64 0, .int .i64 0, .int .i64 0, .int .i64 0, .int .i64 0, .int .i64 0, .int .i64 0, .int .i64 0, .int .i64 0, .int .i64 0, .int .u8 0, .int .i64 0, .int .i64 0] 25)) (w.heap.size + 1) zeroM from hm1.2)
  clear hm1
  go_enter Tryd.func127, Tryd.ntmps127
  go_wp2_with (first
    | (with_reducible refine wpList_loadMsg rfl (.tmp 3) rfl w.heap.size (putM m 11 v) rfl HM1.out ?_)
    | ((with_reducible refine wpList_storeMsg2 rfl (.tmp 6) (.tmp 66) rfl rfl (w.heap.size + 1) zeroM (putM m 11 v) rfl rfl HZ1.out ?_); intro w2 hm2 ht2 ho2; have HM2 := Lib.hid hm2; have HB2 := Lib.hid (ht2 _ _ (by omega) (below2 w _ _)); clear hm2 ht2 ho2))
  try simp only [Exit.inBlock, Exit.then]
  exact ret_msg1 rfl rfl (w.heap.size + 1) _ rfl HM2.out ⟨rfl, HB2.out⟩
set_option maxRecDepth 100000 in
set_option maxHeartbeats 1000000 in
theorem put12 (m : M) (v : Int) (w : World) : Calls Tryd.prog 127 #[.agg m.cs, .int .i64 (12 : Nat), .int .i64 v] w (RetV w (.agg (putM m 12 v).cs)) := by
  have hm1 := msg_two w zeroM (putM m 12 v) _ (setNum m 12 v (by decide) (by decide) (by decide))
  have HM1 := Lib.hid (show MsgAt ((w.alloc (.cells (m.cs.setIfInBounds 12 (.int .i64 v)) 25)).alloc (.cells #[.int .i64 0, .int .i64 0, .int .i64 0, .int .i64 0, .int .i64 0, .int .i64 0, .int .i64 0, .int .i64 0, .int .i64 0, .int .i64 0, .int .i64 0, .int .u8 0, .int .i64 0, .int .i64 0] 25)) w.heap.size (putM m 12 v) from hm1.1)
  have HZ1 := Lib.hid (show MsgAt ((w.alloc (.cells (m.cs.setIfInBounds 12 (.int .i64 v)) 25)).alloc (.cells #[.int .i64 0, .int .i64 0, .int .i64 0, .int .i64 0, .int .i64 0, .int .i64 0, .int .i64 0, .int .i64 0, .int .i64 0, .int .i64 0, .int .i64 0, .int .u8 0, .int .i64 0, .int .i64 0] 25)) (w.heap.size + 1) zeroM from hm1.2)
  clear hm1
  go_enter Tryd.func127, Tryd.ntmps127
  go_wp2_with (first
    | (with_reducible refine wpList_loadMsg rfl (.tmp 3) rfl w.heap.size (putM m 12 v) rfl HM1.out ?_)
    | ((with_reducible refine wpList_storeMsg2 rfl (.tmp 6) (.tmp 66) rfl rfl (w.heap.size + 1) zeroM (putM m 12 v) rfl rfl HZ1.out ?_); intro w2 hm2 ht2 ho2; have HM2 := Lib.hid hm2; have HB2 := Lib.hid (ht2 _ _ (by omega) (below2 w _ _)); clear hm2 ht2 ho2))
  try simp only [Exit.inBlock, Exit.then]
  exact ret_msg1 rfl rfl (w.heap.size + 1) _ rfl HM2.out ⟨rfl, HB2.out⟩
set_option maxRecDepth 100000 in
set_option maxHeartbeats 1000000 in
theorem put13 (m : M) (v : Int) (w : World) : Calls Tryd.prog 127 #[.agg m.cs, .int .i64 (13 : Nat), .int .i64 v] w (RetV w (.agg (putM m 13 v).cs)) := by
  have hm1 := msg_two w zeroM (putM m 13 v) _ (setNum m 13 v (by decide) (by decide) (by decide))
  have HM1 := Lib.hid (show MsgAt ((w.alloc (.cells (m.cs.setIfInBounds 13 (.int .i64 v)) 25)).alloc (.cells #[.int .i64 0, .int .i64 0, .int .i64 0, .int .i64 0, .int .i64 0, .int .i64 0, .int .i64 0, .int .i64 0, .int .i64 0, .int .i64 0, .int .i64 0, .int .u8 0, .int .i64 0, .int .i64 0] 25)) w.heap.size (putM m 13 v) from hm1.1)
  have HZ1 := Lib.hid (show MsgAt ((w.alloc (.cells (m.cs.setIfInBounds 13 (.int .i64 v)) 25)).alloc (.cells #[.int .i64 0, .int .i64 0, .int .i64 0, .int .i64 0, .int .i64 0, .int .i64 0, .int .i64 0, .int .i64 0, .int .i64 0, .int .i64 0, .int .i64 0, .int .u8 0, .int .i64 0, .int .i64 0] 25)) (w.heap.size + 1) zeroM from hm1.2)
  clear hm1
  go_enter Tryd.func127, Tryd.ntmps127
  go_wp2_with (first
    | (with_reducible refine wpList_loadMsg rfl (.tmp 3) rfl w.heap.size (putM m 13 v) rfl HM1.out ?_)
    | ((with_reducible refine wpList_storeMsg2 rfl (.tmp 6) (.tmp 66) rfl rfl (w.heap.size + 1) zeroM (putM m 13 v) rfl rfl HZ1.out ?_); intro w2 hm2 ht2 ho2; have HM2 := Lib.hid hm2; have HB2 := Lib.hid (ht2 _ _ (by omega) (below2 w _ _)); clear hm2 ht2 ho2))
  try simp only [Exit.inBlock, Exit.then]
  exact ret_msg1 rfl rfl (w.heap.size + 1) _ rfl HM2.out ⟨rfl, HB2.out⟩
theorem put_any (m : M) (f : Nat) (v : Int) (w : World) (h1 : 1 ≤ f) (h2 : f < 14) (hv : f = 11 → 0 ≤ v ∧ v ≤ 255) : Calls Tryd.prog 127 #[.agg m.cs, .int .i64 f, .int .i64 v] w (RetV w (.agg (putM m f v).cs)) := by
  rcases fields13 h1 h2 with rfl | rfl | rfl | rfl | rfl | rfl | rfl | rfl | rfl | rfl | rfl | rfl | rfl
  case inr.inr.inr.inr.inr.inr.inr.inr.inr.inr.inl => exact put11 m v w (hv rfl)
  · exact put1 m v w
  · exact put2 m v w
  · exact put3 m v w
  · exact put4 m v w
  · exact put5 m v w
  · exact put6 m v w
  · exact put7 m v w
  · exact put8 m v w
  · exact put9 m v w
  · exact put10 m v w
  · exact put12 m v w
  · exact put13 m v w

def asM (x : It) : M := ⟨5, x.e, 0, 0, 0, 0, 0, 0, x.t, x.op⟩
set_option maxRecDepth 100000 in
set_option maxHeartbeats 2000000 in
theorem asMsg_any (x : It) (w : World) : Calls Tryd.prog 89 #[.agg x.cs] w (RetV w (.agg (asM x).cs)) := by
  obtain ⟨r, hr⟩ : ∃ r, r = (asM x).cs := ⟨_, rfl⟩
  rw [← hr]
  have HR := Lib.hid hr
  clear hr
  obtain ⟨k, ep, ta, ⟨ok, op, oc, ol, os⟩⟩ := x
  unfold It.cs
  go_enter Tryd.func89, Tryd.ntmps89
  go_wp2_with fail
  try simp only [Exit.inBlock, Exit.then]
  exact bodyPost_ret (results_cell_row rfl _ _ (w.heap.size + 1) 25 _ (0, 0) _ rfl (heap_two _ _ _) Tryd.underlying25 rfl (by kernel_rfl)) rfl ⟨by rw [HR.out]; simp [asM, M.cs], below2 _ _ _⟩

def ListPost (w : World) (l : List Nat) (e : Ending) (w' : World) : Prop := ∃ ao, e = .returned (.slice ao l.length l.length) ∧ RdN w' ao l ∧ (ao = none → l.length = 0) ∧ Below w.heap.size w w'
theorem rdN_new (w : World) (l : List Nat) (cs : Array Value) (t : TypeId) (h : cs = (l.map fun f : Nat => Value.int .i64 (f : Int)).toArray) : RdN (w.alloc (.cells cs t)) (some ⟨w.heap.size, 0, none⟩) l := by
  intro i hi
  refine ⟨_, _, rfl, ?_⟩
  rw [Nat.zero_add]
  refine cell_last w cs t i _ ?_
  rw [h]
  simp [List.getD_eq_getElem?_getD, hi]
set_option maxRecDepth 100000 in
theorem itemFields_any (k : Int) (w : World) : Calls Tryd.prog 88 #[.int .i64 k] w (ListPost w (shapeI k.toNat)) := by
  by_cases h1 : k = 1
  · subst h1
    go_enter Tryd.func88, Tryd.ntmps88
    go_wp2_with fail
    go_ret
    exact ⟨_, rfl, rdN_new w [1] _ _ rfl, (fun h => by cases h), below1 _ _⟩
  · by_cases h2 : k = 2
    · subst h2
      go_enter Tryd.func88, Tryd.ntmps88
      go_wp2_with fail
      go_ret
      exact ⟨_, rfl, rdN_new w [8, 9, 10, 11, 12, 13] _ _ rfl, (fun h => by cases h), below1 _ _⟩
    · have e : shapeI k.toNat = [] := by
        unfold shapeI
        split
        · omega
        · omega
        · rfl
      rw [e]
      go_enter Tryd.func88, Tryd.ntmps88
      go_wp2_with fail
      go_ret
      exact ⟨none, rfl, (fun i hi => by simp at hi), (fun _ => rfl), Below.refl _ _⟩
end Go.Proofs.YtoophonmonojcaaDoor

/- jotterref06's answers as plain Lean, held against the program's. -/
namespace Go.Proofs.YtoophonmonojcaaDoor
open Go.RowKit

def refBad (l : List Nat) (m : M) (f : Nat) : Bool := if f ∈ l then !refHolds m f else m.at f != 0
theorem refBounds (m : M) (mk : Int) (f : Nat) (h1 : 1 ≤ f) (h2 : f < 14) (h : f = 12 → (m.k = 2 → mk = m.c ∧ mk ≠ 0) ∧ (m.k ≠ 2 → mk = 0)) : boundsOf f m.at mk = (refFrom m f, refTo m f) := by
  rcases fields13 h1 h2 with rfl | rfl | rfl | rfl | rfl | rfl | rfl | rfl | rfl | rfl | rfl | rfl | rfl
  · simp [bnd1, refFrom, refTo]
  · simp [bnd2, refFrom, refTo]
  · simp [bnd3, refFrom, refTo]
  · simp [bnd4, refFrom, refTo]
  · simp [bnd5, refFrom, refTo]
  · simp [bnd6, refFrom, refTo]
  · simp [bnd7, refFrom, refTo]
  · simp [bnd8, refFrom, refTo]
  · simp [bnd9, refFrom, refTo]
  · by_cases k0 : m.op.k = 0 <;> simp [bnd10, refFrom, refTo, M.at, k0]
  · by_cases k0 : m.op.k = 1 <;> simp [bnd11, refFrom, refTo, M.at, k0]
  · obtain ⟨ha, hb⟩ := h rfl
    rw [bnd12]
    by_cases k2 : m.k = 2
    · obtain ⟨e, hne⟩ := ha k2
      rw [if_pos hne, e]
      simp [refFrom, refTo, k2]
    · rw [hb k2]
      simp [refFrom, refTo, k2]
  · simp [bnd13, refFrom, refTo]
theorem refHolds_may (m : M) (mk : Int) (f : Nat) (h1 : 1 ≤ f) (h2 : f < 14) (h : f = 12 → (m.k = 2 → mk = m.c ∧ mk ≠ 0) ∧ (m.k ≠ 2 → mk = 0)) : refHolds m f = mayB f m.at mk := by
  unfold refHolds mayB
  rw [refBounds m mk f h1 h2 h]
theorem in_shape2 (k : Nat) (h1 : 1 ≤ k) (h6 : k ≤ 6) : 2 ∈ shapeN k := by
  have hc : k = 1 ∨ k = 2 ∨ k = 3 ∨ k = 4 ∨ k = 5 ∨ k = 6 := by omega
  rcases hc with rfl | rfl | rfl | rfl | rfl | rfl <;> decide
/-- The first field that may not stand is the same one. -/
theorem refBad_eq (k : Nat) (m : M) (_hk : m.k = k) (h1 : 1 ≤ k) (h6 : k ≤ 6) (f : Nat) (f1 : 1 ≤ f) (f2 : f < 14) (h : ∀ j, 1 ≤ j → j < f → badAt (shapeN k) m.at (makerOf m) j = false) : refBad (shapeN k) m f = badAt (shapeN k) m.at (makerOf m) f := by
  unfold refBad badAt
  split
  · rw [refHolds_may m (makerOf m) f f1 f2]
    rintro rfl
    refine ⟨fun h2 => ?_, fun h2 => by unfold makerOf; rw [if_neg h2]⟩
    have := h 2 (by omega) (by omega)
    rw [badAt_in (in_shape2 k h1 h6), bnd2] at this
    have e : makerOf m = m.c := by unfold makerOf; rw [if_pos h2]
    have e2 : m.at 2 = m.c := rfl
    rw [e2] at this
    exact ⟨e, by rw [e]; have := this.1; dsimp only at this; omega⟩
  · rfl
theorem asM_at (x : It) (f : Nat) (h : f ∈ fieldsI) : (asM x).at f = x.m.at f := by
  simp [fieldsI] at h
  rcases h with rfl | rfl | rfl | rfl | rfl | rfl | rfl <;> rfl
theorem refBadI_eq (k : Nat) (x : It) (f : Nat) (h : f ∈ fieldsI) : refBad (shapeI k) (asM x) f = badAt (shapeI k) x.m.at 0 f := by
  have hf := fieldsI_lt f h
  unfold refBad badAt
  rw [asM_at x f h]
  split
  · rw [refHolds_may (asM x) 0 f hf.1 hf.2 (fun _ => ⟨fun h2 => absurd h2 (by simp [asM]), fun _ => rfl⟩)]
    rw [may_congrI f (asM x).at x.m.at 0 h (fun g hg => asM_at x g hg)]
  · rfl

/-- What is read, of a kind of its own. -/
def readM (b : List UInt8) (l : List Nat) (kind : Int) : M := M.of fun f => if f = 0 then kind else readB b l f
theorem readM_at (b : List UInt8) (l : List Nat) (kind : Int) (f : Nat) (h1 : 1 ≤ f) (h : f < 14) : (readM b l kind).at f = readB b l f := by
  unfold readM
  rw [M.at_of _ f h, if_neg (by omega)]
theorem readM_k (b : List UInt8) (l : List Nat) (kind : Int) : (readM b l kind).k = kind := rfl
theorem find_same (n : Nat) (p q : Nat → Bool) (h : ∀ i, i < n → (∀ j, j < i → p j = false) → q i = p i) : (List.range n).find? q = (List.range n).find? p := by
  cases hp : (List.range n).find? p with
  | none =>
    rw [List.find?_range_eq_none] at hp ⊢
    intro i hi
    have hp' : ∀ j, j < n → p j = false := fun j hj => by simpa using hp j hj
    rw [h i hi (fun j hj => hp' j (by omega)), hp' i hi]
    rfl
  | some i =>
    rw [List.find?_range_eq_some] at hp ⊢
    obtain ⟨h1, h2, h3⟩ := hp
    have hp' : ∀ j, j < i → p j = false := fun j hj => by simpa using h3 j hj
    have hi := List.mem_range.1 h2
    refine ⟨by rw [h i hi hp']; exact h1, h2, fun j hj => ?_⟩
    rw [h j (by omega) (fun t ht => hp' t (by omega)), hp' j hj]
    rfl
def refFind (b : List UInt8) (l : List Nat) (kind : Int) : Option Nat := (List.range l.length).find? fun i => !refHolds (readM b l kind) (l.getD i 0)
theorem refFind_eq (b : List UInt8) (l : List Nat) (kind : Int) (own : Bool) (ho : Ord l own) (hk : own = true ↔ kind = 2) : refFind b l kind = badI b l own := by
  unfold refFind badI
  apply find_same
  intro i hi hp
  have hm : l.getD i 0 ∈ l := by rw [List.getD_eq_getElem?_getD, List.getElem?_eq_getElem hi]; exact List.getElem_mem _
  have hf := ho.2.2 _ hm
  obtain ⟨f, hfd⟩ : ∃ f, f = l.getD i 0 := ⟨_, rfl⟩
  have h2 := (ho.2.1 i hi).2
  rw [← hfd] at hf h2 ⊢
  have e : mayB f (readM b l kind).at (makerB own (readB b l)) = mayB f (readB b l) (makerB own (readB b l)) := by
    unfold mayB boundsOf
    rw [readM_at b l kind f hf.1 hf.2, readM_at b l kind 9 (by omega) (by omega)]
  rw [← e, refHolds_may _ (makerB own (readB b l)) f hf.1 hf.2]
  rintro rfl
  rw [readM_k]
  constructor
  · intro k2
    have hown := hk.2 k2
    have h2 := h2 hown rfl
    obtain ⟨j, hj, ej⟩ := List.mem_iff_getElem.1 h2
    have hj' : j < i ∧ j < l.length := by have h := hj; rw [List.length_take] at h; omega
    have ej' : l.getD j 0 = 2 := by
      rw [List.getElem_take] at ej
      rw [List.getD_eq_getElem?_getD, List.getElem?_eq_getElem hj'.2]
      exact ej
    have hg := hp j hj'.1
    rw [ej'] at hg
    have hg' : mayB 2 (readB b l) (makerB own (readB b l)) = true := by simpa using hg
    rw [may_nat, bnd2] at hg'
    have ec : (readM b l kind).c = readB b l 2 := rfl
    have em : makerB own (readB b l) = readB b l 2 := by unfold makerB; rw [hown]; rfl
    rw [ec, em]
    exact ⟨rfl, by have := hg'.1; dsimp only at this; omega⟩
  · intro k2
    have : own = false := by cases own with
      | false => rfl
      | true => exact absurd (hk.1 rfl) k2
    rw [this]; rfl
/-- The fields read so far, in a message of that kind. -/
def cutM (b : List UInt8) (l : List Nat) (kind : Int) (i : Nat) : M := M.of fun f => if f = 0 then kind else cut b l i f
theorem cutM_zero (b : List UInt8) (l : List Nat) (kind : Int) : cutM b l kind 0 = ⟨kind, 0, 0, 0, 0, 0, 0, 0, 0, zeroO⟩ := by
  unfold cutM cut
  simp [M.of, zeroO]
theorem cutM_succ (b : List UInt8) (l : List Nat) (kind : Int) (i : Nat) (hi : i < l.length) (h1 : 1 ≤ l.getD i 0) (v : Int) (hv : v = readB b l (l.getD i 0)) : putM (cutM b l kind i) (l.getD i 0) v = cutM b l kind (i + 1) := by
  subst hv
  unfold putM cutM
  apply M.of_congr
  intro f hf
  rw [cut_succ b l i hi f]
  by_cases e : f = l.getD i 0
  · rw [if_pos e, if_pos e, if_neg (by omega)]
  · rw [if_neg e, if_neg e, M.at_of _ f hf]
theorem cutM_all (b : List UInt8) (l : List Nat) (kind : Int) : cutM b l kind l.length = readM b l kind := by
  unfold cutM readM
  apply M.of_congr
  intro f _
  rw [cut_all]
theorem readM_same (b : List UInt8) (l : List Nat) : readM b l ((b.getD 0 0).toNat : Int) = M.of (readB b l) := by
  unfold readM
  apply M.of_congr
  intro f _
  by_cases h : f = 0
  · subst h; rw [if_pos rfl]; unfold readB; rw [if_pos rfl]
  · rw [if_neg h]

/-- What the two Encodes answer: the bytes, the error's number and place. -/
def encR (m : M) (bs : List UInt8) (c a : Int) : Prop :=
  ((m.k < 1 ∨ 6 < m.k) ∧ bs = [] ∧ c = 61 ∧ a = 0) ∨
  (∃ k : Nat, m.k = k ∧ 1 ≤ k ∧ k ≤ 6 ∧ Good k m ∧ bs = encB m ∧ c = 0 ∧ a = -1) ∨
  (∃ k f : Nat, m.k = k ∧ 1 ≤ k ∧ k ≤ 6 ∧ 1 ≤ f ∧ f < 14 ∧ (∀ i, 1 ≤ i → i < f → badAt (shapeN k) m.at (makerOf m) i = false) ∧ badAt (shapeN k) m.at (makerOf m) f = true ∧ bs = [] ∧ c = 63 ∧ a = f)
theorem encR_det {m : M} {bs bs' : List UInt8} {c a c' a' : Int} (h : encR m bs c a) (h' : encR m bs' c' a') : bs = bs' ∧ c = c' ∧ a = a' := by
  rcases h with ⟨h0, rfl, rfl, rfl⟩ | ⟨k, hk, h1, h6, hg, rfl, rfl, rfl⟩ | ⟨k, f, hk, h1, h6, f1, f2, hg, hb, rfl, rfl, rfl⟩ <;>
    rcases h' with ⟨h0', rfl, rfl, rfl⟩ | ⟨k', hk', h1', h6', hg', rfl, rfl, rfl⟩ | ⟨k', f', hk', h1', h6', f1', f2', hg', hb', rfl, rfl, rfl⟩
  · exact ⟨rfl, rfl, rfl⟩
  · omega
  · omega
  · omega
  · exact ⟨rfl, rfl, rfl⟩
  · obtain rfl : k = k' := by omega
    rw [hg f' f1' f2'] at hb'; cases hb'
  · omega
  · obtain rfl : k = k' := by omega
    rw [hg' f f1 f2] at hb; cases hb
  · obtain rfl : k = k' := by omega
    rcases Nat.lt_trichotomy f f' with h | h | h
    · rw [hg' f f1 h] at hb; cases hb
    · subst h; exact ⟨rfl, rfl, rfl⟩
    · rw [hg f' f1' h] at hb'; cases hb'
/-- Likewise of items. -/
def encIR (x : It) (bs : List UInt8) (c a : Int) : Prop :=
  ((x.k < 1 ∨ 2 < x.k) ∧ bs = [] ∧ c = 61 ∧ a = 0) ∨
  (∃ k : Nat, x.k = k ∧ 1 ≤ k ∧ k ≤ 2 ∧ GoodI k x ∧ bs = encI x ∧ c = 0 ∧ a = -1) ∨
  (∃ k j : Nat, x.k = k ∧ 1 ≤ k ∧ k ≤ 2 ∧ j < 7 ∧ (∀ q, q < j → badAt (shapeI k) x.m.at 0 (fieldsI.getD q 0) = false) ∧ badAt (shapeI k) x.m.at 0 (fieldsI.getD j 0) = true ∧ bs = [] ∧ c = 63 ∧ a = (j + 1 : Nat))
theorem fieldsI_mem (j : Nat) (h : j < 7) : fieldsI.getD j 0 ∈ fieldsI := by
  have : ∀ j < 7, fieldsI.getD j 0 ∈ fieldsI := by decide
  exact this j h
theorem encIR_det {x : It} {bs bs' : List UInt8} {c a c' a' : Int} (h : encIR x bs c a) (h' : encIR x bs' c' a') : bs = bs' ∧ c = c' ∧ a = a' := by
  rcases h with ⟨h0, rfl, rfl, rfl⟩ | ⟨k, hk, h1, h6, hg, rfl, rfl, rfl⟩ | ⟨k, j, hk, h1, h6, j7, hg, hb, rfl, rfl, rfl⟩ <;>
    rcases h' with ⟨h0', rfl, rfl, rfl⟩ | ⟨k', hk', h1', h6', hg', rfl, rfl, rfl⟩ | ⟨k', j', hk', h1', h6', j7', hg', hb', rfl, rfl, rfl⟩
  · exact ⟨rfl, rfl, rfl⟩
  · omega
  · omega
  · omega
  · exact ⟨rfl, rfl, rfl⟩
  · obtain rfl : k = k' := by omega
    rw [hg _ (fieldsI_mem j' j7')] at hb'; cases hb'
  · omega
  · obtain rfl : k = k' := by omega
    rw [hg' _ (fieldsI_mem j j7)] at hb; cases hb
  · obtain rfl : k = k' := by omega
    rcases Nat.lt_trichotomy j j' with h | h | h
    · rw [hg' j h] at hb; cases hb
    · subst h; exact ⟨rfl, rfl, rfl⟩
    · rw [hg j' h] at hb'; cases hb'
end Go.Proofs.YtoophonmonojcaaDoor

/- Several texts laid as one, in this order: WireNamed, WireBounds, WireFlat, WireLay, WireSpec, WireDecSpec. -/
import Derived.Test.YtoophonmonojcaaDoorGEq
import Derived.Test.YtoophonmonojcaaDoorWireOp
import Derived.StillTailTactics
/- Contracts of wire's named, bounds, may. -/
namespace Go.Proofs.YtoophonmonojcaaDoor
open Go.RowKit

/-- The cells of a slice of numbers whose address is 'ao' read as 'l'. -/
def RdN (w : World) (ao : Option Addr) (l : List Nat) : Prop :=
  ∀ i, i < l.length → ∃ b off, ao = some ⟨b, off, none⟩ ∧ w.cell? ⟨b, off + i, none⟩ = some (.int .i64 ((l.getD i 0 : Nat) : Int))
theorem RdN.some {w : World} {ao : Option Addr} {l : List Nat} (h : RdN w ao l) (hp : 0 < l.length) :
    ∃ b off, ao = Option.some ⟨b, off, none⟩ ∧ b < w.heap.size ∧ ∀ i, i < l.length → w.cell? ⟨b, off + i, none⟩ = Option.some (Value.int .i64 ((l.getD i 0 : Nat) : Int)) := by
  obtain ⟨b, off, rfl, hc⟩ := h 0 hp
  refine ⟨b, off, rfl, block_lt hc, fun i hi => ?_⟩
  obtain ⟨b', off', e, hc'⟩ := h i hi
  cases e
  exact hc'
theorem RdN.keep {w w' : World} {ao : Option Addr} {l : List Nat} (h : RdN w ao l) (hb : Below w.heap.size w w') : RdN w' ao l := by
  intro i hi
  obtain ⟨b, off, rfl, hc⟩ := h i hi
  exact ⟨b, off, rfl, (hb.cell (p := ⟨b, off + i, none⟩) (block_lt hc)).trans hc⟩

set_option maxRecDepth 100000 in
theorem named_any (ao : Option Addr) (n cap : Nat) (l : List Nat) (f : Nat) (w : World) (hl : l.length = n) (hr : RdN w ao l) (hb : n ≤ 1000000) :
    Calls Tryd.prog 76 #[.slice ao n cap, .int .i64 f] w fun e w' => e = .returned (.bool (decide (f ∈ l))) ∧ w = w' := by
  rcases Nat.eq_zero_or_pos n with h0 | h0
  · subst h0
    obtain rfl : l = [] := List.eq_nil_of_length_eq_zero hl
    go_enter Tryd.func76, Tryd.ntmps76
    go_wp2
    refine wp_loop_rounds 1 ?_
    rw [rounds_succ]
    go_wp2
    go_ret
    exact ⟨by simp, rfl⟩
  · obtain ⟨b, off, rfl, hbw, hc⟩ := hr.some (by omega)
    rw [hl] at hc
    have HL := Lib.hid hl; have HC := Lib.hid hc; clear hl hr hc
    go_enter Tryd.func76, Tryd.ntmps76
    go_wp2
    go_loopw [6, 9] (fun _ i wr => ∃ (k : Nat), k ≤ n ∧ i = .int .i64 k ∧ f ∉ l.take k ∧ wr = w) (fun _ i _ => n - (intOf i).toNat)
    case atStart => exact ⟨0, Nat.zero_le _, rfl, by simp, rfl⟩
    case round =>
      obtain ⟨k, hk, rfl, hnot, rfl⟩ := hrel
      have HNOT := Lib.hid hnot; clear hnot
      by_cases hlt : k < n
      · have hx := HC.out k hlt
        have hkl : k < l.length := by have := HL.out; omega
        have hg : l.getD k 0 = l[k] := by simp [List.getD_eq_getElem?_getD, hkl]
        by_cases he : l[k] = f
        · have HM := Lib.hid (show f ∈ l by rw [← he]; exact List.getElem_mem hkl)
          have hd : (((l[k]?.getD 0 : Nat) : Int) == (f : Int)) = true := by simp [hkl, he]
          clear he hg hkl
          go_wp2
          go_ret
          exact ⟨by simp [HM.out], rfl⟩
        · have HN := Lib.hid (show f ∉ l.take (k + 1) by
            rw [List.take_succ_eq_append_getElem hkl, List.mem_append]
            rintro (h | h)
            · exact HNOT.out h
            · simp at h; exact he h.symm)
          have hd : (((l[k]?.getD 0 : Nat) : Int) == (f : Int)) = false := by simp [hkl]; omega
          clear he hg hkl
          go_wp2
          exact ⟨⟨k + 1, by omega, by go_num, HN.out, trivial⟩, by simp [intOf]; omega⟩
      · obtain rfl : k = n := by omega
        go_wp2
        go_ret
        have h := HNOT.out
        rw [List.take_of_length_le (by have := HL.out; omega)] at h
        exact ⟨by simp [h], rfl⟩
end Go.Proofs.YtoophonmonojcaaDoor

/- Contracts of wire's bounds and may. -/
namespace Go.Proofs.YtoophonmonojcaaDoor
open Go.RowKit

/-- The least and the greatest value of a field; the fields as a function of their number. -/
def boundsOf (f : Nat) (v : Nat → Int) (maker : Int) : Int × Int :=
  if f = 1 then (1, 255) else if f = 2 then (1, 64) else if f = 3 ∨ f = 8 then (0, 4096) else if f = 4 then (1, 65) else if f = 5 then (1, 4096) else if f = 6 then (0, 4096)
  else if f = 7 then (1, 4096) else if f = 9 then (0, 2) else if f = 10 then (if v 9 = 0 then (0, 0) else (0, 4095)) else if f = 11 then (if v 9 = 1 then (32, 126) else (0, 0))
  else if f = 12 then (if maker ≠ 0 then (maker, maker) else (1, 64)) else (1, 64)

/-- A block holds the fourteen numbers. -/
def Nums (w : World) (g : Nat) (v : Nat → Int) : Prop := ∀ i, i < 14 → w.cell? ⟨g, i, none⟩ = some (.int .i64 (v i))
theorem Nums.keep {w w' : World} {g : Nat} {v : Nat → Int} (h : Nums w g v) (hb : Below w.heap.size w w') : Nums w' g v := fun i hi => (hb.cell (p := ⟨g, i, none⟩) (block_lt (h i hi))).trans (h i hi)

set_option maxRecDepth 100000 in
set_option maxHeartbeats 1000000 in
theorem bounds_any (f : Nat) (g : Nat) (v : Nat → Int) (maker : Int) (w : World) (hf : f < 14) (hf1 : 1 ≤ f) (hv : Nums w g v) :
    Calls Tryd.prog 112 #[.int .i64 f, .pointer (some ⟨g, 0, none⟩), .int .i64 maker] w fun e w' => e = .returned (.tuple #[.int .i64 (boundsOf f v maker).1, .int .i64 (boundsOf f v maker).2]) ∧ w = w' := by
  have h9 := hv 9 (by omega)
  have hc : f = 1 ∨ f = 2 ∨ f = 3 ∨ f = 4 ∨ f = 5 ∨ f = 6 ∨ f = 7 ∨ f = 8 ∨ f = 9 ∨ f = 10 ∨ f = 11 ∨ f = 12 ∨ f = 13 := by omega
  rcases hc with rfl | rfl | rfl | rfl | rfl | rfl | rfl | rfl | rfl | rfl | rfl | rfl | rfl
  case inr.inr.inr.inr.inr.inr.inr.inr.inr.inl =>
    by_cases hk : v 9 = 0
    · have hd : (v 9 == 0) = true := by simp [hk]
      go_enter Tryd.func112, Tryd.ntmps112
      go_wp2
      go_ret2
      exact ⟨by simp [boundsOf, hk], rfl⟩
    · have hd : (v 9 == 0) = false := by simp [hk]
      go_enter Tryd.func112, Tryd.ntmps112
      go_wp2
      go_ret2
      exact ⟨by simp [boundsOf, hk], rfl⟩
  case inr.inr.inr.inr.inr.inr.inr.inr.inr.inr.inl =>
    by_cases hk : v 9 = 1
    · have hd : (v 9 == 1) = true := by simp [hk]
      go_enter Tryd.func112, Tryd.ntmps112
      go_wp2
      go_ret2
      exact ⟨by simp [boundsOf, hk], rfl⟩
    · have hd : (v 9 == 1) = false := by simp [hk]
      go_enter Tryd.func112, Tryd.ntmps112
      go_wp2
      go_ret2
      exact ⟨by simp [boundsOf, hk], rfl⟩
  case inr.inr.inr.inr.inr.inr.inr.inr.inr.inr.inr.inl =>
    by_cases hk : maker = 0
    · have hd : (maker != 0) = false := by simp [hk]
      go_enter Tryd.func112, Tryd.ntmps112
      go_wp2
      go_ret2
      exact ⟨by simp [boundsOf, hk], rfl⟩
    · have hd : (maker != 0) = true := by simp [hk]
      go_enter Tryd.func112, Tryd.ntmps112
      go_wp2
      go_ret2
      exact ⟨by simp [boundsOf, hk], rfl⟩
  all_goals
    go_enter Tryd.func112, Tryd.ntmps112
    go_wp2
    go_ret2
    exact ⟨by simp [boundsOf], rfl⟩

/-- May the field's value stand? -/
def mayB (f : Nat) (v : Nat → Int) (maker : Int) : Bool := decide ((boundsOf f v maker).1 ≤ v f) && decide (v f ≤ (boundsOf f v maker).2)

set_option maxRecDepth 100000 in
set_option maxHeartbeats 1000000 in
theorem may_any (f : Nat) (g : Nat) (v : Nat → Int) (maker : Int) (w : World) (hf : f < 14) (hf1 : 1 ≤ f) (hv : Nums w g v) :
    Calls Tryd.prog 77 #[.int .i64 f, .pointer (some ⟨g, 0, none⟩), .int .i64 maker] w fun e w' => e = .returned (.bool (mayB f v maker)) ∧ w = w' := by
  have hx := hv f hf
  have HV := Lib.hid hv; clear hv
  obtain ⟨lo, hi, hb⟩ : ∃ lo hi, boundsOf f v maker = (lo, hi) := ⟨_, _, rfl⟩
  have hm : mayB f v maker = (decide (lo ≤ v f) && decide (v f ≤ hi)) := by unfold mayB; rw [hb]
  rw [hm]
  have HB := Lib.hid hb; clear hb hm
  go_enter Tryd.func77, Tryd.ntmps77
  go_wp2_with fail
  refine (bounds_any f g v maker _ hf hf1 HV.out).mono ?_
  rintro e w1 ⟨rfl, rfl⟩
  rw [HB.out]
  dsimp only
  go_wp2
  all_goals
    go_ret
    exact ⟨by simp [*] <;> omega, rfl⟩
end Go.Proofs.YtoophonmonojcaaDoor

/- Contract of wire's flat. -/
namespace Go.Proofs.YtoophonmonojcaaDoor
open Go.RowKit

/-- A message's numbers by their field's number. -/
def M.at (m : M) : Nat → Int
  | 0 => m.k | 1 => m.e | 2 => m.c | 3 => m.ha | 4 => m.fi | 5 => m.nu | 6 => m.ac | 7 => m.re | 8 => m.ta | 9 => m.op.k | 10 => m.op.p | 11 => m.op.ch | 12 => m.op.cl | 13 => m.op.s | _ => 0
def M.flat (m : M) : Value := .agg #[.int .i64 m.k, .int .i64 m.e, .int .i64 m.c, .int .i64 m.ha, .int .i64 m.fi, .int .i64 m.nu, .int .i64 m.ac, .int .i64 m.re, .int .i64 m.ta, .int .i64 m.op.k, .int .i64 m.op.p, .int .i64 m.op.ch, .int .i64 m.op.cl, .int .i64 m.op.s]

set_option maxRecDepth 100000 in
set_option maxHeartbeats 1000000 in
theorem flat_any (m : M) (w : World) (h : 0 ≤ m.op.ch ∧ m.op.ch ≤ 255) : Calls Tryd.prog 75 #[m.v] w (OpPost w m.flat) := by
  obtain ⟨k, e, c, ha, fi, nu, ac, re, ta, ⟨ok, op, oc, ol, os⟩⟩ := m
  dsimp only at h
  obtain ⟨V, hV⟩ : ∃ V, V = (M.mk k e c ha fi nu ac re ta ⟨ok, op, oc, ol, os⟩).flat := ⟨_, rfl⟩
  rw [← hV]
  have HV := Lib.hid hV; clear hV
  unfold M.v
  go_enter Tryd.func75, Tryd.ntmps75
  go_wp2_with fail
  try simp only [Exit.inBlock, Exit.then]
  exact bodyPost_ret (results_cell_row rfl _ _ (w.heap.size + 1) 114 _ (0, 0) _ rfl (heap_two _ _ _) Tryd.underlying114 rfl (by kernel_rfl)) rfl ⟨by rw [HV.out]; simp [M.flat], _, _, rfl⟩
end Go.Proofs.YtoophonmonojcaaDoor

/- Contract of wire's lay. -/
namespace Go.Proofs.YtoophonmonojcaaDoor
open Go.RowKit

theorem store_nilFunc (P : Program) (w : World) (a : Addr) (m : Mode) : (store a .nilFunc m).run P w = stored P w a .nilFunc m := run_store P w a _ m rfl
theorem store_func (P : Program) (w : World) (a : Addr) (m : Mode) (f : Fn) (x : Array Value) (y : Array Value) : (store a (.func f x y) m).run P w = stored P w a (.func f x y) m := run_store P w a _ m rfl
attribute [local go_sem] store_nilFunc store_func
theorem heap_last (w : World) (A : Obj) : (w.alloc A).heap[w.heap.size]? = some A := by
  show (w.heap.push A)[w.heap.size]? = some A
  rw [Array.getElem?_push_size]
theorem cell_last (w : World) (cs : Array Value) (t : TypeId) (i : Nat) (v : Value) (h : cs[i]? = some v) : (w.alloc (.cells cs t)).cell? ⟨w.heap.size, i, none⟩ = some v := by
  unfold World.cell?
  rw [heap_last]
  exact h
def sizeL : List Nat := [1, 1, 1, 2, 1, 2, 2, 2, 2, 1, 2, 1, 1, 1]
def Sizes (w : World) : Prop := ∀ i, i < 14 → w.cell? ⟨4, i, none⟩ = some (.int .i64 ((sizeL.getD i 0 : Nat) : Int))
theorem Sizes.step {w w' : World} (h : Sizes w) (hb : Below w.heap.size w w') : Sizes w' := fun i hi => (hb.cell (p := ⟨4, i, none⟩) (block_lt (h i hi))).trans (h i hi)
/-- One field's bytes; a body. -/
def fieldB (v : Nat → Int) (f : Nat) : List UInt8 := if sizeL.getD f 0 = 2 then [u8 (v f / 256), u8 (v f)] else [u8 (v f)]
def layB (v : Nat → Int) (shape : List Nat) : List UInt8 := u8 (v 0) :: shape.flatMap (fieldB v)

theorem lay_succ (v : Nat → Int) (l : List Nat) (k f : Nat) (hk : k < l.length) (hf : f = l.getD k 0) : layB v (l.take (k + 1)) = layB v (l.take k) ++ fieldB v f := by
  unfold layB
  have : l[k] = f := by rw [hf, List.getD_eq_getElem?_getD, List.getElem?_eq_getElem hk]; rfl
  rw [List.take_succ_eq_append_getElem hk, List.flatMap_append]
  simp [this]
theorem field_one (v : Nat → Int) (f : Nat) (h : sizeL.getD f 0 = 1) : fieldB v f = [u8 (v f)] := by unfold fieldB; rw [h]; rfl
theorem field_two (v : Nat → Int) (f : Nat) (h : sizeL.getD f 0 = 2) : fieldB v f = [u8 (v f / 256), u8 (v f)] := by unfold fieldB; rw [if_pos h]

theorem lay_len (v : Nat → Int) (l : List Nat) : (layB v l).length ≤ 1 + 2 * l.length := by
  unfold layB
  induction l with
  | nil => simp
  | cons f t ih =>
    have : (fieldB v f).length ≤ 2 := by unfold fieldB; split <;> simp
    simp only [List.flatMap_cons, List.length_cons, List.length_append] at *
    omega

set_option maxRecDepth 100000 in
set_option maxHeartbeats 1000000 in
theorem lay_any (g : Nat) (v : Nat → Int) (b off n cap : Nat) (l : List Nat) (w : World) (hl : l.length = n) (hr : RdN w (some ⟨b, off, none⟩) l) (h0 : 0 < n) (hn : n ≤ 14) (hv : Nums w g v) (hs : Sizes w) (hk : 0 ≤ v 0) (hk' : v 0 ≤ 9223372036854775807) (hp : ∀ f ∈ l, 1 ≤ f ∧ f < 14 ∧ 0 ≤ v f ∧ v f ≤ 65535) :
    Calls Tryd.prog 78 #[.pointer (some ⟨g, 0, none⟩), .slice (some ⟨b, off, none⟩) n cap] w (NewRow w (layB v l)) := by
  have hv0 := hv 0 (by omega)
  have hgw := block_lt hv0
  have hk2 : v 0 ≤ 9223372036854775807 := hk'
  obtain ⟨b', off', e, hbw, hc⟩ := hr.some (by omega)
  cases e
  rw [hl] at hc
  have HL := Lib.hid hl; have HC := Lib.hid hc; have HV := Lib.hid hv; have HS := Lib.hid hs; have HP := Lib.hid hp
  clear hl hr hc hv hs hp
  go_enter Tryd.func78, Tryd.ntmps78
  go_wp2_with fail
  refine (put8_any none 0 0 [] (v 0) _ rfl (fun i hi => by simp at hi) (by omega) hk).mono ?_
  rintro e w1 ⟨g1, rfl, hg1, hrow, hb1⟩
  have hx1 : (w.alloc (.cells #[.nilFunc, .func (.func 113) #[] #[], .func (.func 79) #[] #[]] 162)).cell? ⟨w.heap.size, 1, none⟩ = some (.func (.func 113) #[] #[]) := cell_last _ _ _ _ _ rfl
  have hx2 : (w.alloc (.cells #[.nilFunc, .func (.func 113) #[] #[], .func (.func 79) #[] #[]] 162)).cell? ⟨w.heap.size, 2, none⟩ = some (.func (.func 79) #[] #[]) := cell_last _ _ _ _ _ rfl
  have hb0 : Below w.heap.size w (w.alloc (.cells #[.nilFunc, .func (.func 113) #[] #[], .func (.func 79) #[] #[]] 162)) := (Below.refl _ w).alloc (Nat.le_refl _) _
  generalize w.alloc (.cells #[.nilFunc, .func (.func 113) #[] #[], .func (.func 79) #[] #[]] 162) = w0 at hx1 hx2 hb0 hb1 hrow hg1 ⊢
  have hGw : w.heap.size < w0.heap.size := block_lt hx1
  have hbt0 : Below w.heap.size w w1 := hb0.trans (hb1.mono hb0.size)
  have hg2 : w.heap.size ≤ g1 := Nat.le_trans hb0.size hg1
  have hB0 := Lib.hid hb0
  clear hb0
  go_wp2
  go_loopw [6, 8, 18] (fun s _ i wr => ∃ (k gk : Nat), k ≤ n ∧ i = .int .i64 k ∧ s = .slice (some ⟨gk, 0, none⟩) (layB v (l.take k)).length (layB v (l.take k)).length ∧ w0.heap.size ≤ gk ∧ Row wr gk (layB v (l.take k)) ∧ Below w0.heap.size w0 wr) (fun _ _ i _ => n - (intOf i).toNat)
  case atStart => exact ⟨0, g1, Nat.zero_le _, rfl, rfl, hg1, hrow, hb1⟩
  case round =>
    obtain ⟨k, gk, hk3, rfl, rfl, hgk, hrk, hbk⟩ := hrel
    have HBK := Lib.hid hbk; have HRK := Lib.hid hrk; clear hbk hrk
    obtain ⟨hc1, hf1⟩ := bcell (hB0.out.trans (HBK.out.mono hB0.out.size))
    obtain ⟨hc2, hf2⟩ := bcell HBK.out
    by_cases hlt : k < n
    · have hx := HC.out k hlt
      obtain ⟨f, hf⟩ : ∃ f, f = l.getD k 0 := ⟨_, rfl⟩
      have hkl : k < l.length := by have := HL.out; omega
      obtain ⟨p1, p2, p3, p4⟩ := HP.out f (by rw [hf, List.getD_eq_getElem?_getD, List.getElem?_eq_getElem hkl]; exact List.getElem_mem hkl)
      have hvf := HV.out f p2
      have hsz := HS.out f p2
      rw [← hf] at hx
      have HF := Lib.hid hf
      clear hkl hf
      have h12 : sizeL.getD f 0 = 1 ∨ sizeL.getD f 0 = 2 := by
        have hc : f = 1 ∨ f = 2 ∨ f = 3 ∨ f = 4 ∨ f = 5 ∨ f = 6 ∨ f = 7 ∨ f = 8 ∨ f = 9 ∨ f = 10 ∨ f = 11 ∨ f = 12 ∨ f = 13 := by omega
        rcases hc with h | h | h | h | h | h | h | h | h | h | h | h | h <;> subst h <;> decide
      have hsw := block_lt hsz
      have hll := lay_len v (l.take k)
      rw [List.length_take] at hll
      have q1 : (0 : Int) ≤ (f : Int) := by omega
      have q2 : (f : Int) < 14 := by omega
      rcases h12 with h12 | h12
      · rw [h12] at hsz
        have HE := Lib.hid ((lay_succ v l k f (by have := HL.out; omega) HF.out).trans (by rw [field_one v f h12]))
        go_wp2_with fail
        go_still_tail 12, (by kernel_rfl)
        change wpList _ _ _ _ _ wr.drew
        rw [show IntKind.u64.wrap (v f) = v f by unfold IntKind.wrap; simp [IntKind.bits, IntKind.signed]; omega]
        go_wp2_with fail
        refine (put8_any (some ⟨gk, 0, none⟩) _ _ (layB v (l.take k)) (v f) wr.drew rfl (HRK.out.rd) (by omega) p3).mono ?_
        rintro e w2 ⟨g2, rfl, hg3, hr2, hb2⟩
        rw [← HE.out] at hr2
        rw [← HE.out]
        go_wp2_with fail
        go_roundw
        case rel => exact ⟨k + 1, g2, by omega, by go_num, rfl, Nat.le_trans HBK.out.size hg3, hr2, HBK.out.drew.trans (hb2.mono HBK.out.size)⟩
        case measure => simp [intOf]; omega
      · rw [h12] at hsz
        have HE := Lib.hid ((lay_succ v l k f (by have := HL.out; omega) HF.out).trans (by rw [field_two v f h12]))
        go_wp2_with fail
        go_still_tail 12, (by kernel_rfl)
        change wpList _ _ _ _ _ wr.drew
        rw [show IntKind.u64.wrap (v f) = v f by unfold IntKind.wrap; simp [IntKind.bits, IntKind.signed]; omega]
        go_wp2_with fail
        refine (put16_any (some ⟨gk, 0, none⟩) _ _ (layB v (l.take k)) (v f) wr.drew rfl (HRK.out.rd) (by omega) p3).mono ?_
        rintro e w2 ⟨g2, rfl, hg3, hr2, hb2⟩
        rw [← HE.out] at hr2
        rw [← HE.out]
        go_wp2_with fail
        go_roundw
        case rel => exact ⟨k + 1, g2, by omega, by go_num, rfl, Nat.le_trans HBK.out.size hg3, hr2, HBK.out.drew.trans (hb2.mono HBK.out.size)⟩
        case measure => simp [intOf]; omega
    · obtain rfl : k = n := by omega
      have HTL := Lib.hid (show l.take k = l by rw [List.take_of_length_le]; have := HL.out; omega)
      go_wp2
      go_ret
      refine ⟨gk, ?_, Nat.le_trans hB0.out.size hgk, ?_, hB0.out.trans (HBK.out.mono hB0.out.size)⟩
      · rw [HTL.out]; rfl
      · have := HRK.out
        rw [HTL.out] at this
        exact this
end Go.Proofs.YtoophonmonojcaaDoor

/- What wire's Encode answers, as plain Lean: which messages may stand; the laws' message is one of them. -/
namespace Go.Proofs.YtoophonmonojcaaDoor
open Go.RowKit

def shapeN (k : Nat) : List Nat := match k with
  | 1 => [1, 2, 3, 4] | 2 => [1, 2, 5, 6, 8, 9, 10, 11, 12, 13] | 3 => [1, 2, 6] | 4 => [1, 2] | 5 => [1, 2, 5, 6, 7, 9, 10, 11, 12, 13] | 6 => [1, 2, 6] | _ => []
def makerOf (m : M) : Int := if m.k = 2 then m.c else 0
/-- The field may not stand. -/
def badAt (l : List Nat) (v : Nat → Int) (maker : Int) (f : Nat) : Bool := if f ∈ l then !mayB f v maker else v f != 0
/-- Each field of the message may stand. -/
def Good (k : Nat) (m : M) : Prop := ∀ f, 1 ≤ f → f < 14 → badAt (shapeN k) m.at (makerOf m) f = false
/-- A message's datagram. -/
def encB (m : M) : List UInt8 := sealed (layB m.at (shapeN m.k.toNat))

/-- An operation that may stand. -/
def O.fine (o : O) : Prop := 0 ≤ o.k ∧ o.k ≤ 2 ∧ (o.k = 0 → o.p = 0) ∧ 0 ≤ o.p ∧ o.p ≤ 4095 ∧ (o.k = 1 → 32 ≤ o.ch ∧ o.ch ≤ 126) ∧ (o.k ≠ 1 → o.ch = 0) ∧ 1 ≤ o.cl ∧ o.cl ≤ 64 ∧ 1 ≤ o.s ∧ o.s ≤ 64
/-- A message that may stand. -/
def M.fine (m : M) : Prop := 1 ≤ m.k ∧ m.k ≤ 6 ∧ 1 ≤ m.e ∧ m.e ≤ 255 ∧ 1 ≤ m.c ∧ m.c ≤ 64 ∧
  (m.k = 1 → 0 ≤ m.ha ∧ m.ha ≤ 4096 ∧ 1 ≤ m.fi ∧ m.fi ≤ 65) ∧ (m.k ≠ 1 → m.ha = 0 ∧ m.fi = 0) ∧
  (m.k = 2 ∨ m.k = 5 → 1 ≤ m.nu ∧ m.nu ≤ 4096 ∧ m.op.fine) ∧ (m.k ≠ 2 → m.k ≠ 5 → m.nu = 0 ∧ m.op = zeroO) ∧
  (m.k ≠ 1 → m.k ≠ 4 → 0 ≤ m.ac ∧ m.ac ≤ 4096) ∧ (m.k = 1 ∨ m.k = 4 → m.ac = 0) ∧
  (m.k = 2 → 0 ≤ m.ta ∧ m.ta ≤ 4096 ∧ m.op.cl = m.c) ∧ (m.k ≠ 2 → m.ta = 0) ∧ (m.k = 5 → 1 ≤ m.re ∧ m.re ≤ 4096) ∧ (m.k ≠ 5 → m.re = 0)

theorem within_of {v lo hi : Int} (h1 : lo ≤ v) (h2 : v ≤ hi) : within v lo hi = v := by unfold within; rw [if_pos ⟨h1, h2⟩]
theorem operate_fine (o : O) : (operate o).fine := by
  have k0 := within_ge o.k 0 2 (by omega); have k1 := within_le o.k 0 2 (by omega)
  have p0 := within_ge o.p 0 4095 (by omega); have p1 := within_le o.p 0 4095 (by omega)
  have c0 := within_ge o.ch 32 126 (by omega); have c1 := within_le o.ch 32 126 (by omega)
  have l0 := within_ge o.cl 1 64 (by omega); have l1 := within_le o.cl 1 64 (by omega)
  have s0 := within_ge o.s 1 64 (by omega); have s1 := within_le o.s 1 64 (by omega)
  unfold O.fine operate
  dsimp only
  refine ⟨k0, k1, fun h => by rw [if_pos h], ?_, ?_, fun h => by rw [if_pos h]; exact ⟨c0, c1⟩, fun h => by rw [if_neg h], l0, l1, s0, s1⟩
  all_goals split <;> omega
theorem operate_of {o : O} (h : o.fine) : operate o = o := by
  obtain ⟨k, p, ch, cl, s⟩ := o
  obtain ⟨h1, h2, h3, h4, h5, h6, h7, h8, h9, h10, h11⟩ := h
  dsimp only at *
  unfold operate
  simp only [within_of h1 h2, within_of h8 h9, within_of h10 h11, within_of h4 h5]
  congr 1
  · split
    · rw [h3 (by assumption)]
    · rfl
  · split
    · exact within_of (h6 (by assumption)).1 (h6 (by assumption)).2
    · rw [h7 (by assumption)]
theorem mess_fine (m : M) : (mess m).fine := by
  have k0 := within_ge m.k 1 6 (by omega); have k1 := within_le m.k 1 6 (by omega)
  have e0 := within_ge m.e 1 255 (by omega); have e1 := within_le m.e 1 255 (by omega)
  have c0 := within_ge m.c 1 64 (by omega); have c1 := within_le m.c 1 64 (by omega)
  have h0 := within_ge m.ha 0 4096 (by omega); have h1 := within_le m.ha 0 4096 (by omega)
  have f0 := within_ge m.fi 1 65 (by omega); have f1 := within_le m.fi 1 65 (by omega)
  have n0 := within_ge m.nu 1 4096 (by omega); have n1 := within_le m.nu 1 4096 (by omega)
  have a0 := within_ge m.ac 0 4096 (by omega); have a1 := within_le m.ac 0 4096 (by omega)
  have r0 := within_ge m.re 1 4096 (by omega); have r1 := within_le m.re 1 4096 (by omega)
  have t0 := within_ge m.ta 0 4096 (by omega); have t1 := within_le m.ta 0 4096 (by omega)
  have ho := operate_fine m.op
  unfold M.fine mess
  dsimp only
  refine ⟨k0, k1, e0, e1, c0, c1, fun h => ?_, fun h => ?_, fun h => ?_, fun h h' => ?_, fun h h' => ?_, fun h => ?_, fun h => ?_, fun h => ?_, fun h => ?_, fun h => ?_⟩
  · simp only [if_pos h]; exact ⟨h0, h1, f0, f1⟩
  · simp only [if_neg h]; exact ⟨trivial, trivial⟩
  · rw [if_pos h]
    refine ⟨n0, n1, ?_⟩
    rcases h with h | h
    · rw [if_pos h]
      obtain ⟨q1, q2, q3, q4, q5, q6, q7, q8, q9, q10, q11⟩ := ho
      exact ⟨q1, q2, q3, q4, q5, q6, q7, c0, c1, q10, q11⟩
    · rw [if_neg (by omega), if_pos h]; exact ho
  · rw [if_neg (by omega), if_neg h, if_neg h']; exact ⟨rfl, rfl⟩
  · rw [if_pos ⟨h, h'⟩]; exact ⟨a0, a1⟩
  · rw [if_neg (by omega)]
  · simp only [if_pos h]; exact ⟨t0, t1, trivial⟩
  · rw [if_neg h]
  · rw [if_pos h]; exact ⟨r0, r1⟩
  · rw [if_neg h]
theorem mess_of {m : M} (h : m.fine) : mess m = m := by
  obtain ⟨k, e, c, ha, fi, nu, ac, re, ta, op⟩ := m
  obtain ⟨h1, h2, h3, h4, h5, h6, h7, h8, h9, h10, h11, h12, h13, h14, h15, h16⟩ := h
  dsimp only at *
  unfold mess
  simp only [within_of h1 h2, within_of h3 h4, within_of h5 h6]
  congr 1
  · split
    · rename_i h; exact within_of (h7 h).1 (h7 h).2.1
    · rename_i h; exact (h8 h).1.symm
  · split
    · rename_i h; exact within_of (h7 h).2.2.1 (h7 h).2.2.2
    · rename_i h; exact (h8 h).2.symm
  · split
    · rename_i h; exact within_of (h9 h).1 (h9 h).2.1
    · rename_i h; exact (h10 (by omega) (by omega)).1.symm
  · split
    · rename_i h; exact within_of (h11 h.1 h.2).1 (h11 h.1 h.2).2
    · rename_i h; exact (h12 (by omega)).symm
  · split
    · rename_i h; exact within_of (h15 h).1 (h15 h).2
    · rename_i h; exact (h16 h).symm
  · split
    · rename_i h; exact within_of (h13 h).1 (h13 h).2.1
    · rename_i h; exact (h14 h).symm
  · split
    · rename_i h; rw [operate_of (h9 (.inl h)).2.2, ← (h13 h).2.2]
    · split
      · rename_i h; exact operate_of (h9 (.inr h)).2.2
      · rename_i h h'; exact (h10 h h').2.symm

theorem all13 {P : Nat → Prop} : (∀ f, 1 ≤ f → f < 14 → P f) ↔ P 1 ∧ P 2 ∧ P 3 ∧ P 4 ∧ P 5 ∧ P 6 ∧ P 7 ∧ P 8 ∧ P 9 ∧ P 10 ∧ P 11 ∧ P 12 ∧ P 13 := by
  constructor
  · intro h
    exact ⟨h 1 (by omega) (by omega), h 2 (by omega) (by omega), h 3 (by omega) (by omega), h 4 (by omega) (by omega), h 5 (by omega) (by omega), h 6 (by omega) (by omega), h 7 (by omega) (by omega), h 8 (by omega) (by omega), h 9 (by omega) (by omega), h 10 (by omega) (by omega), h 11 (by omega) (by omega), h 12 (by omega) (by omega), h 13 (by omega) (by omega)⟩
  · rintro ⟨a1, a2, a3, a4, a5, a6, a7, a8, a9, a10, a11, a12, a13⟩ f h1 h2
    have hc : f = 1 ∨ f = 2 ∨ f = 3 ∨ f = 4 ∨ f = 5 ∨ f = 6 ∨ f = 7 ∨ f = 8 ∨ f = 9 ∨ f = 10 ∨ f = 11 ∨ f = 12 ∨ f = 13 := by omega
    rcases hc with rfl | rfl | rfl | rfl | rfl | rfl | rfl | rfl | rfl | rfl | rfl | rfl | rfl <;> assumption

theorem may_nat (f : Nat) (v : Nat → Int) (maker : Int) : mayB f v maker = true ↔ (boundsOf f v maker).1 ≤ v f ∧ v f ≤ (boundsOf f v maker).2 := by unfold mayB; simp
theorem badAt_in {l : List Nat} {v : Nat → Int} {maker : Int} {f : Nat} (h : f ∈ l) : badAt l v maker f = false ↔ (boundsOf f v maker).1 ≤ v f ∧ v f ≤ (boundsOf f v maker).2 := by
  unfold badAt; rw [if_pos h, ← may_nat]; simp
theorem badAt_out {l : List Nat} {v : Nat → Int} {maker : Int} {f : Nat} (h : f ∉ l) : badAt l v maker f = false ↔ v f = 0 := by
  unfold badAt; rw [if_neg h]; simp

theorem bnd1 (v : Nat → Int) (k : Int) : boundsOf 1 v k = (1, 255) := rfl
theorem bnd2 (v : Nat → Int) (k : Int) : boundsOf 2 v k = (1, 64) := rfl
theorem bnd3 (v : Nat → Int) (k : Int) : boundsOf 3 v k = (0, 4096) := rfl
theorem bnd4 (v : Nat → Int) (k : Int) : boundsOf 4 v k = (1, 65) := rfl
theorem bnd5 (v : Nat → Int) (k : Int) : boundsOf 5 v k = (1, 4096) := rfl
theorem bnd6 (v : Nat → Int) (k : Int) : boundsOf 6 v k = (0, 4096) := rfl
theorem bnd7 (v : Nat → Int) (k : Int) : boundsOf 7 v k = (1, 4096) := rfl
theorem bnd8 (v : Nat → Int) (k : Int) : boundsOf 8 v k = (0, 4096) := rfl
theorem bnd9 (v : Nat → Int) (k : Int) : boundsOf 9 v k = (0, 2) := rfl
theorem bnd10 (v : Nat → Int) (k : Int) : boundsOf 10 v k = if v 9 = 0 then (0, 0) else (0, 4095) := rfl
theorem bnd11 (v : Nat → Int) (k : Int) : boundsOf 11 v k = if v 9 = 1 then (32, 126) else (0, 0) := rfl
theorem bnd12 (v : Nat → Int) (k : Int) : boundsOf 12 v k = if k ≠ 0 then (k, k) else (1, 64) := rfl
theorem bnd13 (v : Nat → Int) (k : Int) : boundsOf 13 v k = (1, 64) := rfl

set_option maxHeartbeats 4000000 in
/-- Just those may stand. -/
theorem good_fine (k : Nat) (m : M) (hm : m.k = k) (h1 : 1 ≤ k) (h2 : k ≤ 6) : Good k m ↔ m.fine := by
  obtain ⟨mk, e, c, ha, fi, nu, ac, re, ta, ⟨ok, op, oc, ol, os⟩⟩ := m
  dsimp only at hm
  subst hm
  unfold Good
  rw [all13]
  have hc : k = 1 ∨ k = 2 ∨ k = 3 ∨ k = 4 ∨ k = 5 ∨ k = 6 := by omega
  rcases hc with rfl | rfl | rfl | rfl | rfl | rfl
  · rw [badAt_in (by decide), badAt_in (by decide), badAt_in (by decide), badAt_in (by decide), badAt_out (by decide), badAt_out (by decide), badAt_out (by decide), badAt_out (by decide), badAt_out (by decide), badAt_out (by decide), badAt_out (by decide), badAt_out (by decide), badAt_out (by decide)]
    simp only [bnd1, bnd2, bnd3, bnd4, M.at, M.fine, zeroO, O.mk.injEq]
    omega
  · rw [badAt_in (by decide), badAt_in (by decide), badAt_out (by decide), badAt_out (by decide), badAt_in (by decide), badAt_in (by decide), badAt_out (by decide), badAt_in (by decide), badAt_in (by decide), badAt_in (by decide), badAt_in (by decide), badAt_in (by decide), badAt_in (by decide)]
    simp only [bnd1, bnd2, bnd5, bnd6, bnd8, bnd9, bnd10, bnd11, bnd12, bnd13, M.at, M.fine, O.fine, zeroO, O.mk.injEq, makerOf]
    by_cases c0 : c = 0 <;> by_cases k0 : ok = 0 <;> by_cases k1 : ok = 1 <;> simp [c0, k0, k1] <;> omega
  · rw [badAt_in (by decide), badAt_in (by decide), badAt_out (by decide), badAt_out (by decide), badAt_out (by decide), badAt_in (by decide), badAt_out (by decide), badAt_out (by decide), badAt_out (by decide), badAt_out (by decide), badAt_out (by decide), badAt_out (by decide), badAt_out (by decide)]
    simp only [bnd1, bnd2, bnd6, M.at, M.fine, zeroO, O.mk.injEq]
    omega
  · rw [badAt_in (by decide), badAt_in (by decide), badAt_out (by decide), badAt_out (by decide), badAt_out (by decide), badAt_out (by decide), badAt_out (by decide), badAt_out (by decide), badAt_out (by decide), badAt_out (by decide), badAt_out (by decide), badAt_out (by decide), badAt_out (by decide)]
    simp only [bnd1, bnd2, M.at, M.fine, zeroO, O.mk.injEq]
    omega
  · rw [badAt_in (by decide), badAt_in (by decide), badAt_out (by decide), badAt_out (by decide), badAt_in (by decide), badAt_in (by decide), badAt_in (by decide), badAt_out (by decide), badAt_in (by decide), badAt_in (by decide), badAt_in (by decide), badAt_in (by decide), badAt_in (by decide)]
    simp only [bnd1, bnd2, bnd5, bnd6, bnd7, bnd9, bnd10, bnd11, bnd12, bnd13, M.at, M.fine, O.fine, zeroO, O.mk.injEq, makerOf]
    by_cases k0 : ok = 0 <;> by_cases k1 : ok = 1 <;> simp [k0, k1] <;> omega
  · rw [badAt_in (by decide), badAt_in (by decide), badAt_out (by decide), badAt_out (by decide), badAt_out (by decide), badAt_in (by decide), badAt_out (by decide), badAt_out (by decide), badAt_out (by decide), badAt_out (by decide), badAt_out (by decide), badAt_out (by decide), badAt_out (by decide)]
    simp only [bnd1, bnd2, bnd6, M.at, M.fine, zeroO, O.mk.injEq]
    omega

theorem fine_range {m : M} (h : m.fine) (k : Nat) (hk : m.k = k) : ∀ f ∈ shapeN k, 1 ≤ f ∧ f < 14 ∧ 0 ≤ m.at f ∧ m.at f ≤ 65535 := by
  obtain ⟨mk, e, c, ha, fi, nu, ac, re, ta, ⟨ok, op, oc, ol, os⟩⟩ := m
  dsimp only at hk
  subst hk
  simp only [M.fine, O.fine] at h
  have hc : k = 1 ∨ k = 2 ∨ k = 3 ∨ k = 4 ∨ k = 5 ∨ k = 6 := by omega
  rcases hc with rfl | rfl | rfl | rfl | rfl | rfl
  all_goals
    intro f hf
    simp only [shapeN, List.mem_cons, List.not_mem_nil, or_false] at hf
    first
    | (rcases hf with rfl | rfl | rfl | rfl | rfl | rfl | rfl | rfl | rfl | rfl <;> simp only [M.at] <;> omega)
    | (rcases hf with rfl | rfl | rfl | rfl <;> simp only [M.at] <;> omega)
    | (rcases hf with rfl | rfl | rfl <;> simp only [M.at] <;> omega)
    | (rcases hf with rfl | rfl <;> simp only [M.at] <;> omega)

/-- One number set. -/
def M.set (m : M) (f : Nat) (v : Int) : M := if f = 3 then { m with ha := v } else if f = 4 then { m with fi := v } else if f = 5 then { m with nu := v } else if f = 6 then { m with ac := v } else if f = 7 then { m with re := v } else { m with ta := v }
theorem bad_low (l : List Nat) (v v' : Nat → Int) (a b : Int) (g : Nat) (h1 : 1 ≤ g) (h8 : g ≤ 8) (h : v g = v' g) : badAt l v a g = badAt l v' b g := by
  have hc : g = 1 ∨ g = 2 ∨ g = 3 ∨ g = 4 ∨ g = 5 ∨ g = 6 ∨ g = 7 ∨ g = 8 := by omega
  have hb : boundsOf g v a = boundsOf g v' b := by rcases hc with rfl | rfl | rfl | rfl | rfl | rfl | rfl | rfl <;> rfl
  unfold badAt mayB
  rw [h, hb]
theorem bad_far (l : List Nat) (v : Nat → Int) (a : Int) (g : Nat) (h1 : 3 ≤ g) (h8 : g ≤ 8) (h : v g < 0 ∨ 4096 < v g) : badAt l v a g = true := by
  have hc : g = 3 ∨ g = 4 ∨ g = 5 ∨ g = 6 ∨ g = 7 ∨ g = 8 := by omega
  unfold badAt
  split
  · rw [Bool.not_eq_true', ← Bool.not_eq_true, may_nat]
    rcases hc with rfl | rfl | rfl | rfl | rfl | rfl <;> simp only [bnd3, bnd4, bnd5, bnd6, bnd7, bnd8] <;> omega
  · simp; omega
theorem set_bad {m : M} (k : Nat) (h : Good k m) (f : Nat) (h3 : 3 ≤ f) (h8 : f ≤ 8) (v : Int) (hv : v < 0 ∨ 4096 < v) :
    (∀ g, 1 ≤ g → g < f → badAt (shapeN k) (m.set f v).at (makerOf (m.set f v)) g = false) ∧ badAt (shapeN k) (m.set f v).at (makerOf (m.set f v)) f = true ∧ (m.set f v).k = m.k ∧ (m.set f v).op = m.op := by
  have hc : f = 3 ∨ f = 4 ∨ f = 5 ∨ f = 6 ∨ f = 7 ∨ f = 8 := by omega
  refine ⟨fun g h1 hg => ?_, bad_far _ _ _ _ h3 h8 ?_, ?_⟩
  · rw [bad_low _ _ m.at _ (makerOf m) g h1 (by omega), h g h1 (by omega)]
    have hd : g = 1 ∨ g = 2 ∨ g = 3 ∨ g = 4 ∨ g = 5 ∨ g = 6 ∨ g = 7 := by omega
    rcases hc with rfl | rfl | rfl | rfl | rfl | rfl <;> rcases hd with rfl | rfl | rfl | rfl | rfl | rfl | rfl <;> first | rfl | omega
  · rcases hc with rfl | rfl | rfl | rfl | rfl | rfl <;> exact hv
  · rcases hc with rfl | rfl | rfl | rfl | rfl | rfl <;> exact ⟨rfl, rfl⟩

/-- wire.shapes holds the shapes. -/
def Shapes (w : World) : Prop := ∀ k, k < 7 → ∃ ao n cap, w.cell? ⟨0, k, none⟩ = some (.slice ao n cap) ∧ (shapeN k).length = n ∧ RdN w ao (shapeN k)
theorem Shapes.step {w w' : World} (h : Shapes w) (hb : Below w.heap.size w w') : Shapes w' := by
  intro k hk
  obtain ⟨ao, n, cap, h1, h2, h3⟩ := h k hk
  exact ⟨ao, n, cap, (hb.cell (p := ⟨0, k, none⟩) (block_lt h1)).trans h1, h2, h3.keep hb⟩
end Go.Proofs.YtoophonmonojcaaDoor

/- What wire's Decode answers, as plain Lean. -/
namespace Go.Proofs.YtoophonmonojcaaDoor
open Go.RowKit

/-- Where the i-th field of a shape stands; how long a body of it is. -/
def posI (l : List Nat) (i : Nat) : Nat := 1 + ((l.take i).map fun f => sizeL.getD f 0).sum
def longOf (l : List Nat) : Nat := 1 + (l.map fun f => sizeL.getD f 0).sum
/-- The field's number, read of the bytes. -/
def readB (b : List UInt8) (l : List Nat) (f : Nat) : Int :=
  if f = 0 then ((b.getD 0 0).toNat : Int) else if f ∈ l then ((num ((b.drop (posI l (l.idxOf f))).take (sizeL.getD f 0)) : Nat) : Int) else 0
def makerB (own : Bool) (v : Nat → Int) : Int := if own then v 2 else 0
/-- The first field that may not stand. -/
def badI (b : List UInt8) (l : List Nat) (own : Bool) : Option Nat := (List.range l.length).find? fun i => !mayB (l.getD i 0) (readB b l) (makerB own (readB b l))
/-- The message of fourteen numbers. -/
def M.of (v : Nat → Int) : M := ⟨v 0, v 1, v 2, v 3, v 4, v 5, v 6, v 7, v 8, ⟨v 9, v 10, v 11, v 12, v 13⟩⟩
theorem M.of_at (m : M) : M.of m.at = m := rfl
theorem M.at_of (v : Nat → Int) (f : Nat) (h : f < 14) : (M.of v).at f = v f := by
  have hc : f = 0 ∨ f = 1 ∨ f = 2 ∨ f = 3 ∨ f = 4 ∨ f = 5 ∨ f = 6 ∨ f = 7 ∨ f = 8 ∨ f = 9 ∨ f = 10 ∨ f = 11 ∨ f = 12 ∨ f = 13 := by omega
  rcases hc with rfl | rfl | rfl | rfl | rfl | rfl | rfl | rfl | rfl | rfl | rfl | rfl | rfl | rfl <;> rfl
theorem M.of_congr {v v' : Nat → Int} (h : ∀ f, f < 14 → v f = v' f) : M.of v = M.of v' := by
  unfold M.of
  rw [h 0 (by omega), h 1 (by omega), h 2 (by omega), h 3 (by omega), h 4 (by omega), h 5 (by omega), h 6 (by omega), h 7 (by omega), h 8 (by omega), h 9 (by omega), h 10 (by omega), h 11 (by omega), h 12 (by omega), h 13 (by omega)]

/-- What Decode answers of a body: the error's number and place, or the message. -/
def bodyOf (i : List UInt8) : (Int × Int) ⊕ M :=
  if i = [] then .inl (62, 0) else
  let k := (i.getD 0 0).toNat
  if k < 1 ∨ 6 < k then .inl (61, 0) else
  if i.length ≠ longOf (shapeN k) then .inl (62, i.length) else
  match badI i (shapeN k) (k == 2) with
  | some j => .inl (63, posI (shapeN k) j)
  | none => .inr (M.of (readB i (shapeN k)))

theorem fieldB_one (v : Nat → Int) (f : Nat) (h : sizeL.getD f 0 = 1) : fieldB v f = [u8 (v f)] := by unfold fieldB; rw [h]; rfl
theorem fieldB_two (v : Nat → Int) (f : Nat) (h : sizeL.getD f 0 = 2) : fieldB v f = [u8 (v f / 256), u8 (v f)] := by unfold fieldB; rw [if_pos h]
theorem num_u8 (x : Int) (h0 : 0 ≤ x) (h1 : x ≤ 255) : ((num [u8 x] : Nat) : Int) = x := by rw [num_one, u8_toNat]; omega
theorem num_u16 (x : Int) (h0 : 0 ≤ x) (h1 : x ≤ 65535) : ((num [u8 (x / 256), u8 x] : Nat) : Int) = x := by
  rw [num_two]
  have e1 := u8_toNat (x / 256)
  have e2 := u8_toNat x
  omega
theorem u8_num1 (a : UInt8) : u8 ((num [a] : Nat) : Int) = a := by rw [num_one, u8_of]
theorem u8_num2l (a b : UInt8) : u8 ((num [a, b] : Nat) : Int) = b := by
  rw [num_two]
  apply UInt8.toNat_inj.1
  have := u8_toNat ((a.toNat * 256 + b.toNat : Nat) : Int)
  have := b.toNat_lt
  omega
theorem u8_num2h (a b : UInt8) : u8 (((num [a, b] : Nat) : Int) / 256) = a := by
  rw [num_two]
  apply UInt8.toNat_inj.1
  have := u8_toNat (((a.toNat * 256 + b.toNat : Nat) : Int) / 256)
  have := b.toNat_lt
  have := a.toNat_lt
  omega

theorem list3 {α} (l : List α) (h : l.length = 3) : ∃ a b c, l = [a, b, c] := by
  match l, h with | [a, b, c], _ => exact ⟨a, b, c, rfl⟩
theorem list5 {α} (l : List α) (h : l.length = 5) : ∃ a b c d e, l = [a, b, c, d, e] := by
  match l, h with | [a, b, c, d, e], _ => exact ⟨a, b, c, d, e, rfl⟩
theorem list6 {α} (l : List α) (h : l.length = 6) : ∃ a b c d e f, l = [a, b, c, d, e, f] := by
  match l, h with | [a, b, c, d, e, f], _ => exact ⟨a, b, c, d, e, f, rfl⟩
theorem list15 {α} (l : List α) (h : l.length = 15) : ∃ a b c d e f g i j k m n o p q, l = [a, b, c, d, e, f, g, i, j, k, m, n, o, p, q] := by
  match l, h with | [a, b, c, d, e, f, g, i, j, k, m, n, o, p, q], _ => exact ⟨a, b, c, d, e, f, g, i, j, k, m, n, o, p, q, rfl⟩

/-- What is read of a body is written as that body. -/
theorem lay_read (i : List UInt8) (k : Nat) (h1 : 1 ≤ k) (h6 : k ≤ 6) (hl : i.length = longOf (shapeN k)) : layB (readB i (shapeN k)) (shapeN k) = i := by
  have hc : k = 1 ∨ k = 2 ∨ k = 3 ∨ k = 4 ∨ k = 5 ∨ k = 6 := by omega
  rcases hc with rfl | rfl | rfl | rfl | rfl | rfl
  · obtain ⟨a, b, c, d, e, f, rfl⟩ := list6 i hl
    simp [layB, shapeN, fieldB, sizeL, readB, posI, u8_of, u8_num1, u8_num2l, u8_num2h, List.idxOf_cons]
  · obtain ⟨a, b, c, d, e, f, g, i', j, k, m, n, o, p, q, rfl⟩ := list15 i hl
    simp [layB, shapeN, fieldB, sizeL, readB, posI, u8_of, u8_num1, u8_num2l, u8_num2h, List.idxOf_cons]
  · obtain ⟨a, b, c, d, e, rfl⟩ := list5 i hl
    simp [layB, shapeN, fieldB, sizeL, readB, posI, u8_of, u8_num1, u8_num2l, u8_num2h, List.idxOf_cons]
  · obtain ⟨a, b, c, rfl⟩ := list3 i hl
    simp [layB, shapeN, fieldB, sizeL, readB, posI, u8_of, u8_num1, List.idxOf_cons]
  · obtain ⟨a, b, c, d, e, f, g, i', j, k, m, n, o, p, q, rfl⟩ := list15 i hl
    simp [layB, shapeN, fieldB, sizeL, readB, posI, u8_of, u8_num1, u8_num2l, u8_num2h, List.idxOf_cons]
  · obtain ⟨a, b, c, d, e, rfl⟩ := list5 i hl
    simp [layB, shapeN, fieldB, sizeL, readB, posI, u8_of, u8_num1, u8_num2l, u8_num2h, List.idxOf_cons]
theorem lay_length (v : Nat → Int) (k : Nat) (h1 : 1 ≤ k) (h6 : k ≤ 6) : (layB v (shapeN k)).length = longOf (shapeN k) := by
  have hc : k = 1 ∨ k = 2 ∨ k = 3 ∨ k = 4 ∨ k = 5 ∨ k = 6 := by omega
  rcases hc with rfl | rfl | rfl | rfl | rfl | rfl <;> rfl
theorem all14 {P : Nat → Prop} (h0 : P 0) (h1 : P 1) (h2 : P 2) (h3 : P 3) (h4 : P 4) (h5 : P 5) (h6 : P 6) (h7 : P 7) (h8 : P 8) (h9 : P 9) (h10 : P 10) (h11 : P 11) (h12 : P 12) (h13 : P 13) : ∀ f, f < 14 → P f := by
  intro f h
  have hc : f = 0 ∨ f = 1 ∨ f = 2 ∨ f = 3 ∨ f = 4 ∨ f = 5 ∨ f = 6 ∨ f = 7 ∨ f = 8 ∨ f = 9 ∨ f = 10 ∨ f = 11 ∨ f = 12 ∨ f = 13 := by omega
  rcases hc with rfl | rfl | rfl | rfl | rfl | rfl | rfl | rfl | rfl | rfl | rfl | rfl | rfl | rfl <;> assumption

/-- What is written of a message is read as it was. -/
theorem read_lay {m : M} (h : m.fine) (k : Nat) (hk : m.k = k) : ∀ f, f < 14 → readB (layB m.at (shapeN k)) (shapeN k) f = m.at f := by
  have hr := fine_range h k hk
  obtain ⟨mk, e, c, ha, fi, nu, ac, re, ta, ⟨ok, op, oc, ol, os⟩⟩ := m
  dsimp only at hk
  subst hk
  simp only [M.fine, O.fine, zeroO, O.mk.injEq] at h
  have hc : k = 1 ∨ k = 2 ∨ k = 3 ∨ k = 4 ∨ k = 5 ∨ k = 6 := by omega
  rcases hc with rfl | rfl | rfl | rfl | rfl | rfl
  all_goals
    apply all14
    all_goals
      simp [layB, shapeN, fieldB, sizeL, readB, posI, List.idxOf_cons, M.at]
      first
      | omega
      | (rw [num_u8 _ (by omega) (by omega)])
      | (rw [num_u16 _ (by omega) (by omega)])
      | (rw [u8_toNat]; omega)
      | skip

theorem may_congr (f : Nat) (v v' : Nat → Int) (a : Int) (hf : f < 14) (h : ∀ f, f < 14 → v f = v' f) : mayB f v a = mayB f v' a := by
  unfold mayB boundsOf
  rw [h f hf, h 9 (by omega)]
theorem badI_none (b : List UInt8) (l : List Nat) (own : Bool) : badI b l own = none ↔ ∀ f ∈ l, mayB f (readB b l) (makerB own (readB b l)) = true := by
  unfold badI
  rw [List.find?_range_eq_none]
  constructor
  · intro h f hf
    obtain ⟨i, hi, rfl⟩ := List.mem_iff_getElem.1 hf
    have := h i hi
    simpa [List.getD_eq_getElem?_getD, hi] using this
  · intro h i hi
    have := h l[i] (List.getElem_mem hi)
    simpa [List.getD_eq_getElem?_getD, hi] using this
theorem shape_lt (k : Nat) : ∀ f ∈ shapeN k, 1 ≤ f ∧ f < 14 := by
  intro f hf
  unfold shapeN at hf
  split at hf <;> simp at hf <;> omega
theorem badI_good (b : List UInt8) (k : Nat) (hk : (b.getD 0 0).toNat = k) (h1 : 1 ≤ k) (h6 : k ≤ 6) : badI b (shapeN k) (k == 2) = none ↔ (M.of (readB b (shapeN k))).fine := by
  have hm : (M.of (readB b (shapeN k))).k = k := by show readB b (shapeN k) 0 = _; unfold readB; rw [if_pos rfl, hk]
  have hmk : makerB (k == 2) (readB b (shapeN k)) = makerOf (M.of (readB b (shapeN k))) := by
    unfold makerB makerOf
    rw [hm]
    by_cases h : k = 2
    · subst h; rfl
    · rw [if_neg (by simpa using h), if_neg (by omega)]
  rw [badI_none, ← good_fine k _ hm h1 h6, hmk]
  unfold Good
  constructor
  · intro h f h1 h2
    by_cases hf : f ∈ shapeN k
    · rw [badAt_in hf, ← may_nat]
      rw [may_congr f _ (readB b (shapeN k)) _ h2 (fun f h => M.at_of _ f h)]
      exact h f hf
    · rw [badAt_out hf, M.at_of _ f h2]
      unfold readB
      rw [if_neg (by omega), if_neg hf]
  · intro h f hf
    obtain ⟨g1, g2⟩ := shape_lt k f hf
    have := h f g1 g2
    rw [badAt_in hf, ← may_nat] at this
    rw [may_congr f _ (readB b (shapeN k)) _ g2 (fun f h => M.at_of _ f h)] at this
    exact this

/-- The bytes of a fine message's body answer that message. -/
theorem body_lay {m : M} (h : m.fine) : bodyOf (layB m.at (shapeN m.k.toNat)) = .inr m := by
  obtain ⟨k, hk⟩ : ∃ k : Nat, m.k = k := ⟨m.k.toNat, by have := h.1; omega⟩
  have h1 := h.1
  have h6 := h.2.1
  have e : m.k.toNat = k := by omega
  rw [e]
  have hb0 : ((layB m.at (shapeN k)).getD 0 0).toNat = k := by
    show (u8 m.k).toNat = k
    have := u8_toNat m.k
    omega
  have hr := read_lay h k hk
  have hof : M.of (readB (layB m.at (shapeN k)) (shapeN k)) = m := (M.of_congr hr).trans (M.of_at m)
  unfold bodyOf
  rw [if_neg (by unfold layB; simp)]
  dsimp only
  rw [hb0, if_neg (by omega), if_neg (by rw [lay_length _ k (by omega) (by omega)]; simp)]
  rw [(badI_good _ k hb0 (by omega) (by omega)).2 (by rw [hof]; exact h)]
  dsimp only
  rw [hof]
/-- A body that answers a message is that message's. -/
theorem body_ok {i : List UInt8} {m : M} (h : bodyOf i = .inr m) : m.fine ∧ layB m.at (shapeN m.k.toNat) = i := by
  unfold bodyOf at h
  split at h
  · cases h
  dsimp only at h
  split at h
  · cases h
  split at h
  · cases h
  rename_i h0 h1 h2
  obtain ⟨k, hk⟩ : ∃ k, (i.getD 0 0).toNat = k := ⟨_, rfl⟩
  rw [hk] at h h1 h2
  split at h
  · cases h
  · rename_i hn
    cases h
    refine ⟨(badI_good i k hk (by omega) (by omega)).1 hn, ?_⟩
    have hkk : (M.of (readB i (shapeN k))).k.toNat = k := by
      show (readB i (shapeN k) 0).toNat = k
      unfold readB; rw [if_pos rfl, hk]; rfl
    rw [hkk]
    have := lay_read i k (by omega) (by omega) (by omega)
    rw [← this]
    have e2 : ∀ (v v' : Nat → Int), (∀ f, f < 14 → v f = v' f) → layB v (shapeN k) = layB v' (shapeN k) := by
      intro v v' hv
      unfold layB
      rw [hv 0 (by omega)]
      congr 1
      have : ∀ l : List Nat, (∀ f ∈ l, f < 14) → l.flatMap (fieldB v) = l.flatMap (fieldB v') := by
        intro l hl
        induction l with
        | nil => rfl
        | cons f t ih =>
          rw [List.flatMap_cons, List.flatMap_cons, ih (fun g hg => hl g (by simp [hg]))]
          congr 1
          unfold fieldB
          rw [hv f (hl f (by simp))]
      exact this _ (fun f hf => (shape_lt k f hf).2)
    rw [this]
    exact (e2 _ _ (fun f hf => M.at_of _ f hf)).trans this
theorem posI_le (l : List Nat) (i : Nat) : posI l i ≤ longOf l := by
  unfold posI longOf
  have : ∀ (l : List Nat) (i : Nat), ((l.take i).map fun f => sizeL.getD f 0).sum ≤ (l.map fun f => sizeL.getD f 0).sum := by
    intro l
    induction l with
    | nil => intro i; simp
    | cons a t ih =>
      intro i
      cases i with
      | zero => simp
      | succ i => have := ih i; simp only [List.take_succ_cons, List.map_cons, List.sum_cons]; omega
  have := this l i
  omega
theorem body_err {i : List UInt8} {c a : Int} (h : bodyOf i = .inl (c, a)) : 61 ≤ c ∧ c ≤ 63 ∧ 0 ≤ a ∧ a ≤ i.length := by
  unfold bodyOf at h
  split at h
  · cases h; simp
  dsimp only at h
  split at h
  · cases h; simp
  split at h
  · cases h; simp
  rename_i h0 h1 h2
  split at h
  · rename_i j _
    cases h
    have := posI_le (shapeN (i.getD 0 0).toNat) j
    omega
  · cases h

/-- What Decode answers. -/
def decode (b : List UInt8) : (Int × Int) ⊕ M :=
  if 64 < b.length then .inl (60, 64) else if b.length < 4 then .inl (62, b.length) else
  if b.drop (b.length - 4) = le4 (sum (b.take (b.length - 4))) then bodyOf (b.take (b.length - 4)) else .inl (64, (b.length - 4 : Nat))
theorem decode_enc {m : M} (h : m.fine) : decode (encB m) = .inr m := by
  have hl : (layB m.at (shapeN m.k.toNat)).length ≤ 15 := by
    have h1 := h.1
    have h6 := h.2.1
    obtain ⟨k, hk⟩ : ∃ k : Nat, m.k.toNat = k := ⟨_, rfl⟩
    rw [hk, lay_length _ k (by omega) (by omega)]
    have hc : k = 1 ∨ k = 2 ∨ k = 3 ∨ k = 4 ∨ k = 5 ∨ k = 6 := by omega
    rcases hc with rfl | rfl | rfl | rfl | rfl | rfl <;> decide
  obtain ⟨l, hl0⟩ : ∃ l, l = layB m.at (shapeN m.k.toNat) := ⟨_, rfl⟩
  have e1 : (encB m).length = l.length + 4 := by rw [hl0]; simp [encB, sealed, le4]
  have e2 : (encB m).length - 4 = l.length := by omega
  rw [← hl0] at hl
  unfold decode
  rw [e2, if_neg (by omega), if_neg (by omega)]
  have e3 : (encB m).take l.length = l := by rw [hl0]; simp [encB, sealed]
  have e4 : (encB m).drop l.length = le4 (sum l) := by rw [hl0]; simp [encB, sealed]
  rw [e3, e4, if_pos rfl, hl0, body_lay h]
theorem decode_ok {b : List UInt8} {m : M} (h : decode b = .inr m) : m.fine ∧ encB m = b := by
  unfold decode at h
  split at h
  · cases h
  split at h
  · cases h
  split at h
  · rename_i hd
    obtain ⟨h1, h2⟩ := body_ok h
    refine ⟨h1, ?_⟩
    unfold encB sealed
    rw [h2, ← hd, List.take_append_drop]
  · cases h
theorem decode_err {b : List UInt8} {c a : Int} (h : decode b = .inl (c, a)) : 60 ≤ c ∧ c ≤ 64 ∧ 0 ≤ a ∧ a ≤ 64 ∧ a ≤ b.length := by
  unfold decode at h
  split at h
  · cases h; omega
  split at h
  · cases h; omega
  split at h
  · have := body_err h
    rw [List.length_take] at this
    omega
  · cases h; omega
end Go.Proofs.YtoophonmonojcaaDoor

/- Contract of wire's lay. -/
import Derived.Test.YtoophonmonojcaaDoorWireFlat
import Derived.StillTailTactics
namespace Go.Proofs.YtoophonmonojcaaDoor
open Go.RowKit

theorem store_nilFunc (P : Program) (w : World) (a : Addr) (m : Mode) : (store a .nilFunc m).run P w = stored P w a .nilFunc m := run_store P w a _ m rfl
theorem store_func (P : Program) (w : World) (a : Addr) (m : Mode) (f : Fn) (x : Array Value) (y : Array Value) : (store a (.func f x y) m).run P w = stored P w a (.func f x y) m := run_store P w a _ m rfl
attribute [local go_sem] store_nilFunc store_func
theorem heap_last (w : World) (A : Obj) : (w.alloc A).heap[w.heap.size]? = some A := by
  show (w.heap.push A)[w.heap.size]? = some A
  rw [Array.getElem?_push_size]
theorem cell_last (w : World) (cs : Array Value) (t : TypeId) (i : Nat) (v : Value) (h : cs[i]? = some v) : (w.alloc (.cells cs t)).cell? ⟨w.heap.size, i, none⟩ = some v := by
  unfold World.cell?
  rw [heap_last]
  exact h
def sizeL : List Nat := [1, 1, 1, 2, 1, 2, 2, 2, 2, 1, 2, 1, 1, 1]
def Sizes (w : World) : Prop := ∀ i, i < 14 → w.cell? ⟨4, i, none⟩ = some (.int .i64 ((sizeL.getD i 0 : Nat) : Int))
theorem Sizes.step {w w' : World} (h : Sizes w) (hb : Below w.heap.size w w') : Sizes w' := fun i hi => (hb.cell (p := ⟨4, i, none⟩) (block_lt (h i hi))).trans (h i hi)
/-- One field's bytes; a body. -/
def fieldB (v : Nat → Int) (f : Nat) : List UInt8 := if sizeL.getD f 0 = 2 then [u8 (v f / 256), u8 (v f)] else [u8 (v f)]
def layB (v : Nat → Int) (shape : List Nat) : List UInt8 := u8 (v 0) :: shape.flatMap (fieldB v)

theorem lay_succ (v : Nat → Int) (l : List Nat) (k f : Nat) (hk : k < l.length) (hf : f = l.getD k 0) : layB v (l.take (k + 1)) = layB v (l.take k) ++ fieldB v f := by
  unfold layB
  have : l[k] = f := by rw [hf, List.getD_eq_getElem?_getD, List.getElem?_eq_getElem hk]; rfl
  rw [List.take_succ_eq_append_getElem hk, List.flatMap_append]
  simp [this]
theorem field_one (v : Nat → Int) (f : Nat) (h : sizeL.getD f 0 = 1) : fieldB v f = [u8 (v f)] := by unfold fieldB; rw [h]; rfl
theorem field_two (v : Nat → Int) (f : Nat) (h : sizeL.getD f 0 = 2) : fieldB v f = [u8 (v f / 256), u8 (v f)] := by unfold fieldB; rw [if_pos h]

theorem lay_len (v : Nat → Int) (l : List Nat) : (layB v l).length ≤ 1 + 2 * l.length := by
  unfold layB
  induction l with
  | nil => simp
  | cons f t ih =>
    have : (fieldB v f).length ≤ 2 := by unfold fieldB; split <;> simp
    simp only [List.flatMap_cons, List.length_cons, List.length_append] at *
    omega

set_option maxRecDepth 100000 in
set_option maxHeartbeats 1000000 in
theorem lay_any (g : Nat) (v : Nat → Int) (b off n cap : Nat) (l : List Nat) (w : World) (hl : l.length = n) (hr : RdN w (some ⟨b, off, none⟩) l) (h0 : 0 < n) (hn : n ≤ 14) (hv : Nums w g v) (hs : Sizes w) (hk : 0 ≤ v 0) (hk' : v 0 ≤ 9223372036854775807) (hp : ∀ f ∈ l, 1 ≤ f ∧ f < 14 ∧ 0 ≤ v f ∧ v f ≤ 65535) :
    Calls Tryd.prog 78 #[.pointer (some ⟨g, 0, none⟩), .slice (some ⟨b, off, none⟩) n cap] w (NewRow w (layB v l)) := by
  have hv0 := hv 0 (by omega)
  have hgw := block_lt hv0
  have hk2 : v 0 ≤ 9223372036854775807 := hk'
  obtain ⟨b', off', e, hbw, hc⟩ := hr.some (by omega)
  cases e
  rw [hl] at hc
  have HL := Lib.hid hl; have HC := Lib.hid hc; have HV := Lib.hid hv; have HS := Lib.hid hs; have HP := Lib.hid hp
  clear hl hr hc hv hs hp
  go_enter Tryd.func78, Tryd.ntmps78
  go_wp2_with fail
  refine (put8_any none 0 0 [] (v 0) _ rfl (fun i hi => by simp at hi) (by omega) hk).mono ?_
  rintro e w1 ⟨g1, rfl, hg1, hrow, hb1⟩
  have hx1 : (w.alloc (.cells #[.nilFunc, .func (.func 113) #[] #[], .func (.func 79) #[] #[]] 162)).cell? ⟨w.heap.size, 1, none⟩ = some (.func (.func 113) #[] #[]) := cell_last _ _ _ _ _ rfl
  have hx2 : (w.alloc (.cells #[.nilFunc, .func (.func 113) #[] #[], .func (.func 79) #[] #[]] 162)).cell? ⟨w.heap.size, 2, none⟩ = some (.func (.func 79) #[] #[]) := cell_last _ _ _ _ _ rfl
  have hb0 : Below w.heap.size w (w.alloc (.cells #[.nilFunc, .func (.func 113) #[] #[], .func (.func 79) #[] #[]] 162)) := (Below.refl _ w).alloc (Nat.le_refl _) _
  generalize w.alloc (.cells #[.nilFunc, .func (.func 113) #[] #[], .func (.func 79) #[] #[]] 162) = w0 at hx1 hx2 hb0 hb1 hrow hg1 ⊢
  have hGw : w.heap.size < w0.heap.size := block_lt hx1
  have hbt0 : Below w.heap.size w w1 := hb0.trans (hb1.mono hb0.size)
  have hg2 : w.heap.size ≤ g1 := Nat.le_trans hb0.size hg1
  have hB0 := Lib.hid hb0
  clear hb0
  go_wp2
  go_loopw [6, 8, 18] (fun s _ i wr => ∃ (k gk : Nat), k ≤ n ∧ i = .int .i64 k ∧ s = .slice (some ⟨gk, 0, none⟩) (layB v (l.take k)).length (layB v (l.take k)).length ∧ w0.heap.size ≤ gk ∧ Row wr gk (layB v (l.take k)) ∧ Below w0.heap.size w0 wr) (fun _ _ i _ => n - (intOf i).toNat)
  case atStart => exact ⟨0, g1, Nat.zero_le _, rfl, rfl, hg1, hrow, hb1⟩
  case round =>
    obtain ⟨k, gk, hk3, rfl, rfl, hgk, hrk, hbk⟩ := hrel
    have HBK := Lib.hid hbk; have HRK := Lib.hid hrk; clear hbk hrk
    obtain ⟨hc1, hf1⟩ := bcell (hB0.out.trans (HBK.out.mono hB0.out.size))
    obtain ⟨hc2, hf2⟩ := bcell HBK.out
    by_cases hlt : k < n
    · have hx := HC.out k hlt
      obtain ⟨f, hf⟩ : ∃ f, f = l.getD k 0 := ⟨_, rfl⟩
      have hkl : k < l.length := by have := HL.out; omega
      obtain ⟨p1, p2, p3, p4⟩ := HP.out f (by rw [hf, List.getD_eq_getElem?_getD, List.getElem?_eq_getElem hkl]; exact List.getElem_mem hkl)
      have hvf := HV.out f p2
      have hsz := HS.out f p2
      rw [← hf] at hx
      have HF := Lib.hid hf
      clear hkl hf
      have h12 : sizeL.getD f 0 = 1 ∨ sizeL.getD f 0 = 2 := by
        have hc : f = 1 ∨ f = 2 ∨ f = 3 ∨ f = 4 ∨ f = 5 ∨ f = 6 ∨ f = 7 ∨ f = 8 ∨ f = 9 ∨ f = 10 ∨ f = 11 ∨ f = 12 ∨ f = 13 := by omega
        rcases hc with h | h | h | h | h | h | h | h | h | h | h | h | h <;> subst h <;> decide
      have hsw := block_lt hsz
      have hll := lay_len v (l.take k)
      rw [List.length_take] at hll
      have q1 : (0 : Int) ≤ (f : Int) := by omega
      have q2 : (f : Int) < 14 := by omega
      rcases h12 with h12 | h12
      · rw [h12] at hsz
        have HE := Lib.hid ((lay_succ v l k f (by have := HL.out; omega) HF.out).trans (by rw [field_one v f h12]))
        go_wp2_with fail
        go_still_tail 12, (by kernel_rfl)
        change wpList _ _ _ _ _ wr.drew
        rw [show IntKind.u64.wrap (v f) = v f by unfold IntKind.wrap; simp [IntKind.bits, IntKind.signed]; omega]
        go_wp2_with fail
        refine (put8_any (some ⟨gk, 0, none⟩) _ _ (layB v (l.take k)) (v f) wr.drew rfl (HRK.out.rd) (by omega) p3).mono ?_
        rintro e w2 ⟨g2, rfl, hg3, hr2, hb2⟩
        rw [← HE.out] at hr2
        rw [← HE.out]
        go_wp2_with fail
        go_roundw
        case rel => exact ⟨k + 1, g2, by omega, by go_num, rfl, Nat.le_trans HBK.out.size hg3, hr2, HBK.out.drew.trans (hb2.mono HBK.out.size)⟩
        case measure => simp [intOf]; omega
      · rw [h12] at hsz
        have HE := Lib.hid ((lay_succ v l k f (by have := HL.out; omega) HF.out).trans (by rw [field_two v f h12]))
        go_wp2_with fail
        go_still_tail 12, (by kernel_rfl)
        change wpList _ _ _ _ _ wr.drew
        rw [show IntKind.u64.wrap (v f) = v f by unfold IntKind.wrap; simp [IntKind.bits, IntKind.signed]; omega]
        go_wp2_with fail
        refine (put16_any (some ⟨gk, 0, none⟩) _ _ (layB v (l.take k)) (v f) wr.drew rfl (HRK.out.rd) (by omega) p3).mono ?_
        rintro e w2 ⟨g2, rfl, hg3, hr2, hb2⟩
        rw [← HE.out] at hr2
        rw [← HE.out]
        go_wp2_with fail
        go_roundw
        case rel => exact ⟨k + 1, g2, by omega, by go_num, rfl, Nat.le_trans HBK.out.size hg3, hr2, HBK.out.drew.trans (hb2.mono HBK.out.size)⟩
        case measure => simp [intOf]; omega
    · obtain rfl : k = n := by omega
      have HTL := Lib.hid (show l.take k = l by rw [List.take_of_length_le]; have := HL.out; omega)
      go_wp2
      go_ret
      refine ⟨gk, ?_, Nat.le_trans hB0.out.size hgk, ?_, hB0.out.trans (HBK.out.mono hB0.out.size)⟩
      · rw [HTL.out]; rfl
      · have := HRK.out
        rw [HTL.out] at this
        exact this
end Go.Proofs.YtoophonmonojcaaDoor

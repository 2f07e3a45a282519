/- Contracts of jotterlaw06's operation and message. -/
import Derived.Test.YtoophonmonojcaaDoorGEq
import Derived.Deep.RegionHeld3
import Derived.Deep.CutRange
namespace Go.Proofs.YtoophonmonojcaaDoor
open Go.RowKit

/-- An operation's numbers; a message's. -/
structure O where (k p ch cl s : Int)
def i64 (n : Int) : Prop := -9223372036854775808 ≤ n ∧ n ≤ 9223372036854775807
def O.ok (o : O) : Prop := i64 o.k ∧ i64 o.p ∧ (0 ≤ o.ch ∧ o.ch ≤ 255) ∧ i64 o.cl ∧ i64 o.s
def O.v (o : O) : Value := .agg #[.int .i64 o.k, .int .i64 o.p, .int .u8 o.ch, .int .i64 o.cl, .int .i64 o.s]
def operate (o : O) : O := { k := within o.k 0 2, p := if within o.k 0 2 = 0 then 0 else within o.p 0 4095, ch := if within o.k 0 2 = 1 then within o.ch 32 126 else 0, cl := within o.cl 1 64, s := within o.s 1 64 }

theorem cell_alloc {w : World} {a : Addr} {v : Value} (h : w.cell? a = some v) (X : Obj) : (w.alloc X).cell? a = some v := by
  have hb := World.block_lt_of_cell? w a h
  rw [((Below.refl w.heap.size w).alloc (Nat.le_refl _) X).cell (p := a) hb]; exact h
theorem cell_alloc_drew {w : World} {a : Addr} {v : Value} (h : w.cell? a = some v) (X : Obj) : (w.alloc X).drew.cell? a = some v := cell_alloc h X
theorem heap_one (w : World) (A B : Obj) : ((w.alloc A).alloc B).heap[w.heap.size]? = some A := by
  show ((w.heap.push A).push B)[w.heap.size]? = some A
  rw [Array.getElem?_push_lt (by simp), Array.getElem_push_eq]
theorem heap_push (w : World) (A : Obj) (k : Nat) (h : k < w.heap.size) : (w.alloc A).heap[k]? = w.heap[k]? := by
  show (w.heap.push A)[k]? = _
  rw [Array.getElem?_push_lt h, Array.getElem?_eq_getElem h]
theorem heap_two (w : World) (A B : Obj) : ((w.alloc A).alloc B).heap[w.heap.size + 1]? = some B := by
  show ((w.heap.push A).push B)[w.heap.size + 1]? = some B
  rw [show w.heap.size + 1 = (w.heap.push A).size by simp, Array.getElem?_push_size]
theorem heap_three (w : World) (A B C : Obj) : (((w.alloc A).alloc B).alloc C).drew.heap[w.heap.size + 1]? = some B := by
  show (((w.alloc A).alloc B).alloc C).heap[w.heap.size + 1]? = some B
  rw [heap_push _ _ _ (by simp), heap_two]
theorem heap_five (w : World) (A B C D E : Obj) : (((((w.alloc A).alloc B).alloc C).drew.alloc D).alloc E).heap[w.heap.size + 1]? = some B := by
  rw [heap_push _ _ _ (by simp), heap_push _ _ _ (by simp), heap_three]
theorem below_three (w : World) (A B C : Obj) : Below w.heap.size w (((w.alloc A).alloc B).alloc C).drew :=
  ((((Below.refl _ w).alloc (Nat.le_refl _) _).alloc (by simp) _).alloc (by simp; omega) _).drew
theorem below_five (w : World) (A B C D E : Obj) : Below w.heap.size w (((((w.alloc A).alloc B).alloc C).drew.alloc D).alloc E) :=
  ((below_three w A B C).alloc (by simp; omega) _).alloc (by simp; omega) _
/-- What operation answers: two blocks more. -/
def OpPost (w : World) (v : Value) (e : Ending) (w' : World) : Prop := e = .returned v ∧ ∃ D E : Obj, w' = (w.alloc D).alloc E
set_option maxRecDepth 100000 in
set_option maxHeartbeats 1000000 in
theorem operation_any (k p ch cl s : Int) (w : World) (h1 : i64 k) (h2 : i64 p) (h3 : 0 ≤ ch ∧ ch ≤ 255) (h4 : i64 cl) (h5 : i64 s) :
    Calls Tryd.prog 73 #[.agg #[.int .i64 k, .int .i64 p, .int .u8 ch, .int .i64 cl, .int .i64 s]] w (OpPost w (operate ⟨k, p, ch, cl, s⟩).v) := by
  unfold i64 at h1 h2 h4 h5
  have hk0 := within_ge k 0 2 (by omega)
  have hk1 := within_le k 0 2 (by omega)
  go_enter Tryd.func73, Tryd.ntmps73
  go_wp2_with fail
  refine (within_any k 0 2 _ h1.1 h1.2 (by omega) (by omega) (by omega)).mono ?_
  rintro e w1 ⟨rfl, rfl⟩
  go_wp2_with fail
  refine (within_any cl 1 64 _ h4.1 h4.2 (by omega) (by omega) (by omega)).mono ?_
  rintro e w1 ⟨rfl, rfl⟩
  go_wp2_with fail
  refine (within_any s 1 64 _ h5.1 h5.2 (by omega) (by omega) (by omega)).mono ?_
  rintro e w1 ⟨rfl, rfl⟩
  obtain ⟨kk, hkk⟩ : ∃ kk, kk = within k 0 2 := ⟨_, rfl⟩
  rw [← hkk] at hk0 hk1 ⊢
  have HKK := Lib.hid hkk; clear hkk
  have hc : kk = 0 ∨ kk = 1 ∨ kk = 2 := by omega
  have hc0 := within_ge ch 32 126 (by omega)
  have hc1 := within_le ch 32 126 (by omega)
  rcases hc with rfl | rfl | rfl
  · go_wp2
    try simp only [Exit.inBlock, Exit.then]
    exact bodyPost_ret (results_cell_row rfl _ _ (w.heap.size + 1) 23 _ (0, 0) _ rfl (heap_two _ _ _) Tryd.underlying23 rfl (by kernel_rfl)) rfl ⟨by simp [O.v, operate, ← HKK.out], _, _, rfl⟩
  · go_wp2_with fail
    refine (within_any p 0 4095 _ h2.1 h2.2 (by omega) (by omega) (by omega)).mono ?_
    rintro e w1 ⟨rfl, rfl⟩
    go_wp2_with fail
    refine (within_any ch 32 126 _ (by omega) (by omega) (by omega) (by omega) (by omega)).mono ?_
    rintro e w1 ⟨rfl, rfl⟩
    go_wp2
    try simp only [Exit.inBlock, Exit.then]
    exact bodyPost_ret (results_cell_row rfl _ _ (w.heap.size + 1) 23 _ (0, 0) _ rfl (heap_two _ _ _) Tryd.underlying23 rfl (by kernel_rfl)) rfl ⟨by simp [O.v, operate, ← HKK.out], _, _, rfl⟩
  · go_wp2_with fail
    refine (within_any p 0 4095 _ h2.1 h2.2 (by omega) (by omega) (by omega)).mono ?_
    rintro e w1 ⟨rfl, rfl⟩
    go_wp2
    try simp only [Exit.inBlock, Exit.then]
    exact bodyPost_ret (results_cell_row rfl _ _ (w.heap.size + 1) 23 _ (0, 0) _ rfl (heap_two _ _ _) Tryd.underlying23 rfl (by kernel_rfl)) rfl ⟨by simp [O.v, operate, ← HKK.out], _, _, rfl⟩

/-- A message's numbers, in the order of its fields. -/
structure M where (k e c ha fi nu ac re ta : Int) (op : O)
def M.ok (m : M) : Prop := i64 m.k ∧ i64 m.e ∧ i64 m.c ∧ i64 m.ha ∧ i64 m.fi ∧ i64 m.nu ∧ i64 m.ac ∧ i64 m.re ∧ i64 m.ta ∧ m.op.ok
def M.v (m : M) : Value := .agg #[.int .i64 m.k, .int .i64 m.e, .int .i64 m.c, .int .i64 m.ha, .int .i64 m.fi, .int .i64 m.nu, .int .i64 m.ac, .int .i64 m.re, .int .i64 m.ta, .int .i64 m.op.k, .int .i64 m.op.p, .int .u8 m.op.ch, .int .i64 m.op.cl, .int .i64 m.op.s]
def zeroO : O := ⟨0, 0, 0, 0, 0⟩
def mess (m : M) : M :=
  let k := within m.k 1 6
  let c := within m.c 1 64
  { k := k, e := within m.e 1 255, c := c, ha := if k = 1 then within m.ha 0 4096 else 0, fi := if k = 1 then within m.fi 1 65 else 0,
    nu := if k = 2 ∨ k = 5 then within m.nu 1 4096 else 0, ac := if k ≠ 1 ∧ k ≠ 4 then within m.ac 0 4096 else 0,
    re := if k = 5 then within m.re 1 4096 else 0, ta := if k = 2 then within m.ta 0 4096 else 0,
    op := if k = 2 then { operate m.op with cl := c } else if k = 5 then operate m.op else zeroO }

set_option maxRecDepth 100000 in
set_option maxHeartbeats 2000000 in
theorem message_any (m : M) (w : World) (h : m.ok) : Calls Tryd.prog 22 #[m.v] w (RetV w (mess m).v) := by
  obtain ⟨k, e, c, ha, fi, nu, ac, re, ta, ⟨ok, op, oc, ol, os⟩⟩ := m
  simp only [M.ok, O.ok, i64] at h
  obtain ⟨h0, h1, h2, h3, h4, h5, h6, h7, h8, h9, h10, h11, h12, h13⟩ := h
  obtain ⟨V, hV⟩ : ∃ V, V = (mess ⟨k, e, c, ha, fi, nu, ac, re, ta, ⟨ok, op, oc, ol, os⟩⟩).v := ⟨_, rfl⟩
  rw [← hV]
  have HV := Lib.hid hV; clear hV
  have hop : ∀ w, Calls Tryd.prog 73 #[.agg #[.int .i64 ok, .int .i64 op, .int .u8 oc, .int .i64 ol, .int .i64 os]] w (OpPost w (operate ⟨ok, op, oc, ol, os⟩).v) := fun w => operation_any ok op oc ol os w h9 h10 h11 h12 h13
  obtain ⟨qk, qp, qc, ql, qs, hO⟩ : ∃ qk qp qc ql qs, operate ⟨ok, op, oc, ol, os⟩ = ⟨qk, qp, qc, ql, qs⟩ := ⟨_, _, _, _, _, rfl⟩
  rw [hO] at hop
  simp only [O.v] at hop
  have HOP := Lib.hid hop; have HO := Lib.hid hO; clear hop hO
  unfold M.v
  go_enter Tryd.func22, Tryd.ntmps22
  go_wp2_with fail
  have hb0 : Below w.heap.size w ((w.alloc (.cells #[.int .i64 k, .int .i64 e, .int .i64 c, .int .i64 ha, .int .i64 fi, .int .i64 nu, .int .i64 ac, .int .i64 re, .int .i64 ta, .int .i64 ok, .int .i64 op, .int .u8 oc, .int .i64 ol, .int .i64 os] 25)).alloc (.cells #[.int .i64 0, .int .i64 0, .int .i64 0, .int .i64 0, .int .i64 0, .int .i64 0, .int .i64 0, .int .i64 0, .int .i64 0, .int .i64 0, .int .i64 0, .int .u8 0, .int .i64 0, .int .i64 0] 25)) := ((Below.refl _ w).alloc (Nat.le_refl _) _).alloc (by simp) _
  have hs0 : ((w.alloc (.cells #[.int .i64 k, .int .i64 e, .int .i64 c, .int .i64 ha, .int .i64 fi, .int .i64 nu, .int .i64 ac, .int .i64 re, .int .i64 ta, .int .i64 ok, .int .i64 op, .int .u8 oc, .int .i64 ol, .int .i64 os] 25)).alloc (.cells #[.int .i64 0, .int .i64 0, .int .i64 0, .int .i64 0, .int .i64 0, .int .i64 0, .int .i64 0, .int .i64 0, .int .i64 0, .int .i64 0, .int .i64 0, .int .u8 0, .int .i64 0, .int .i64 0] 25)).heap.size = w.heap.size + 2 := by simp
  have hc0 : ((w.alloc (.cells #[.int .i64 k, .int .i64 e, .int .i64 c, .int .i64 ha, .int .i64 fi, .int .i64 nu, .int .i64 ac, .int .i64 re, .int .i64 ta, .int .i64 ok, .int .i64 op, .int .u8 oc, .int .i64 ol, .int .i64 os] 25)).alloc (.cells #[.int .i64 0, .int .i64 0, .int .i64 0, .int .i64 0, .int .i64 0, .int .i64 0, .int .i64 0, .int .i64 0, .int .i64 0, .int .i64 0, .int .i64 0, .int .u8 0, .int .i64 0, .int .i64 0] 25)).heap[w.heap.size]? = some (.cells #[.int .i64 k, .int .i64 e, .int .i64 c, .int .i64 ha, .int .i64 fi, .int .i64 nu, .int .i64 ac, .int .i64 re, .int .i64 ta, .int .i64 ok, .int .i64 op, .int .u8 oc, .int .i64 ol, .int .i64 os] 25) := heap_one _ _ _
  have hc1 : ((w.alloc (.cells #[.int .i64 k, .int .i64 e, .int .i64 c, .int .i64 ha, .int .i64 fi, .int .i64 nu, .int .i64 ac, .int .i64 re, .int .i64 ta, .int .i64 ok, .int .i64 op, .int .u8 oc, .int .i64 ol, .int .i64 os] 25)).alloc (.cells #[.int .i64 0, .int .i64 0, .int .i64 0, .int .i64 0, .int .i64 0, .int .i64 0, .int .i64 0, .int .i64 0, .int .i64 0, .int .i64 0, .int .i64 0, .int .u8 0, .int .i64 0, .int .i64 0] 25)).heap[w.heap.size + 1]? = some (.cells #[.int .i64 0, .int .i64 0, .int .i64 0, .int .i64 0, .int .i64 0, .int .i64 0, .int .i64 0, .int .i64 0, .int .i64 0, .int .i64 0, .int .i64 0, .int .u8 0, .int .i64 0, .int .i64 0] 25) := heap_two _ _ _
  generalize hW : (w.alloc (.cells #[.int .i64 k, .int .i64 e, .int .i64 c, .int .i64 ha, .int .i64 fi, .int .i64 nu, .int .i64 ac, .int .i64 re, .int .i64 ta, .int .i64 ok, .int .i64 op, .int .u8 oc, .int .i64 ol, .int .i64 os] 25)).alloc (.cells #[.int .i64 0, .int .i64 0, .int .i64 0, .int .i64 0, .int .i64 0, .int .i64 0, .int .i64 0, .int .i64 0, .int .i64 0, .int .i64 0, .int .i64 0, .int .u8 0, .int .i64 0, .int .i64 0] 25) = w2 at hb0 hs0 hc0 hc1 ⊢
  generalize hg : w.heap.size = g at hs0 hc0 hc1 ⊢
  have hy0 : w2.cell? ⟨g, 0, none⟩ = some (.int .i64 k) := by simp [World.cell?, hc0]
  have hx0 : w2.drew.cell? ⟨g, 0, none⟩ = some (.int .i64 k) := hy0
  have hy1 : w2.cell? ⟨g, 1, none⟩ = some (.int .i64 e) := by simp [World.cell?, hc0]
  have hx1 : w2.drew.cell? ⟨g, 1, none⟩ = some (.int .i64 e) := hy1
  have hy2 : w2.cell? ⟨g, 2, none⟩ = some (.int .i64 c) := by simp [World.cell?, hc0]
  have hx2 : w2.drew.cell? ⟨g, 2, none⟩ = some (.int .i64 c) := hy2
  have HC0 := Lib.hid hc0; have HC1 := Lib.hid hc1; have HB0 := Lib.hid hb0; have HG := Lib.hid hg; have HS := Lib.hid hs0; have HW := Lib.hid hW
  clear hc0 hc1 hb0 hg hs0 hW
  go_cut [3] from 4 to 13 (fun s wx => s = .pointer (some ⟨g + 2, 0, none⟩) ∧ wx = (w2.alloc (.cells #[.int .i64 (within k 1 6), .int .i64 (within e 1 255), .int .i64 (within c 1 64), .int .i64 0, .int .i64 0, .int .i64 0, .int .i64 0, .int .i64 0, .int .i64 0, .int .i64 0, .int .i64 0, .int .u8 0, .int .i64 0, .int .i64 0] 25)).drew)
  case first =>
   go_region_held3 (fun w' => w'.cell? ⟨g, 0, none⟩ = some (.int .i64 k) ∧ w'.cell? ⟨g, 1, none⟩ = some (.int .i64 e) ∧ w'.cell? ⟨g, 2, none⟩ = some (.int .i64 c)) (with_reducible first | exact ⟨hx0, hx1, hx2⟩ | exact ⟨cell_alloc hx0 _, cell_alloc hx1 _, cell_alloc hx2 _⟩ | exact ⟨cell_alloc_drew hy0 _, cell_alloc_drew hy1 _, cell_alloc_drew hy2 _⟩)
    (first
     | ((with_reducible refine (within_any k 1 6 _ ?_ ?_ ?_ ?_ ?_).mono ?_); (· omega); (· omega); (· omega); (· omega); (· omega); rintro e w' ⟨rfl, rfl⟩)
     | ((with_reducible refine (within_any e 1 255 _ ?_ ?_ ?_ ?_ ?_).mono ?_); (· omega); (· omega); (· omega); (· omega); (· omega); rintro e w' ⟨rfl, rfl⟩)
     | ((with_reducible refine (within_any c 1 64 _ ?_ ?_ ?_ ?_ ?_).mono ?_); (· omega); (· omega); (· omega); (· omega); (· omega); rintro e w' ⟨rfl, rfl⟩))
   all_goals (go_wp2_with fail; go_meet; rw [HS.out]; exact ⟨rfl, rfl⟩)
  case rest =>
   obtain ⟨rfl, rfl⟩ := hcut
   have hW := HW.out
   subst hW
   have hg := HG.out
   subst hg
   clear hx0 hx1 hx2 hy0 hy1 hy2 HC0 HC1 HB0 HG HS HW
   have hk0 := within_ge k 1 6 (by omega)
   have hk1 := within_le k 1 6 (by omega)
   obtain ⟨kk, hkk⟩ : ∃ kk, kk = within k 1 6 := ⟨_, rfl⟩
   rw [← hkk] at hk0 hk1 ⊢
   have HKK := Lib.hid hkk; clear hkk
   have hc : kk = 1 ∨ kk = 2 ∨ kk = 3 ∨ kk = 4 ∨ kk = 5 ∨ kk = 6 := by omega
   rcases hc with rfl | rfl | rfl | rfl | rfl | rfl
   · go_wp2_with fail
     refine (within_any ha 0 4096 _ h3.1 h3.2 (by omega) (by omega) (by omega)).mono ?_
     rintro e' w1 ⟨rfl, rfl⟩
     go_wp2_with fail
     refine (within_any fi 1 65 _ h4.1 h4.2 (by omega) (by omega) (by omega)).mono ?_
     rintro e' w1 ⟨rfl, rfl⟩
     go_wp2
     try simp only [Exit.inBlock, Exit.then]
     exact bodyPost_ret (results_cell_row rfl _ _ (w.heap.size + 1) 25 _ (0, 0) _ rfl (heap_three _ _ _ _) Tryd.underlying25 rfl (by kernel_rfl)) rfl ⟨by rw [HV.out]; simp [M.v, mess, zeroO, ← HKK.out], below_three _ _ _ _⟩
   · go_wp2_with fail
     refine (within_any nu 1 4096 _ h5.1 h5.2 (by omega) (by omega) (by omega)).mono ?_
     rintro e' w1 ⟨rfl, rfl⟩
     go_wp2_with fail
     refine (HOP.out _).mono ?_
     rintro e' w1 ⟨rfl, D, E, rfl⟩
     go_wp2_with fail
     refine (within_any ac 0 4096 _ h6.1 h6.2 (by omega) (by omega) (by omega)).mono ?_
     rintro e' w1 ⟨rfl, rfl⟩
     go_wp2_with fail
     refine (within_any ta 0 4096 _ h8.1 h8.2 (by omega) (by omega) (by omega)).mono ?_
     rintro e' w1 ⟨rfl, rfl⟩
     go_wp2
     try simp only [Exit.inBlock, Exit.then]
     exact bodyPost_ret (results_cell_row rfl _ _ (w.heap.size + 1) 25 _ (0, 0) _ rfl (heap_five _ _ _ _ _ _) Tryd.underlying25 rfl (by kernel_rfl)) rfl ⟨by rw [HV.out]; simp [M.v, mess, HO.out, ← HKK.out], below_five _ _ _ _ _ _⟩
   · go_wp2_with fail
     refine (within_any ac 0 4096 _ h6.1 h6.2 (by omega) (by omega) (by omega)).mono ?_
     rintro e' w1 ⟨rfl, rfl⟩
     go_wp2
     try simp only [Exit.inBlock, Exit.then]
     exact bodyPost_ret (results_cell_row rfl _ _ (w.heap.size + 1) 25 _ (0, 0) _ rfl (heap_three _ _ _ _) Tryd.underlying25 rfl (by kernel_rfl)) rfl ⟨by rw [HV.out]; simp [M.v, mess, zeroO, ← HKK.out], below_three _ _ _ _⟩
   · go_wp2
     try simp only [Exit.inBlock, Exit.then]
     exact bodyPost_ret (results_cell_row rfl _ _ (w.heap.size + 1) 25 _ (0, 0) _ rfl (heap_three _ _ _ _) Tryd.underlying25 rfl (by kernel_rfl)) rfl ⟨by rw [HV.out]; simp [M.v, mess, zeroO, ← HKK.out], below_three _ _ _ _⟩
   · go_wp2_with fail
     refine (within_any nu 1 4096 _ h5.1 h5.2 (by omega) (by omega) (by omega)).mono ?_
     rintro e' w1 ⟨rfl, rfl⟩
     go_wp2_with fail
     refine (HOP.out _).mono ?_
     rintro e' w1 ⟨rfl, D, E, rfl⟩
     go_wp2_with fail
     refine (within_any ac 0 4096 _ h6.1 h6.2 (by omega) (by omega) (by omega)).mono ?_
     rintro e' w1 ⟨rfl, rfl⟩
     go_wp2_with fail
     refine (within_any re 1 4096 _ h7.1 h7.2 (by omega) (by omega) (by omega)).mono ?_
     rintro e' w1 ⟨rfl, rfl⟩
     go_wp2
     try simp only [Exit.inBlock, Exit.then]
     exact bodyPost_ret (results_cell_row rfl _ _ (w.heap.size + 1) 25 _ (0, 0) _ rfl (heap_five _ _ _ _ _ _) Tryd.underlying25 rfl (by kernel_rfl)) rfl ⟨by rw [HV.out]; simp [M.v, mess, HO.out, ← HKK.out], below_five _ _ _ _ _ _⟩
   · go_wp2_with fail
     refine (within_any ac 0 4096 _ h6.1 h6.2 (by omega) (by omega) (by omega)).mono ?_
     rintro e' w1 ⟨rfl, rfl⟩
     go_wp2
     try simp only [Exit.inBlock, Exit.then]
     exact bodyPost_ret (results_cell_row rfl _ _ (w.heap.size + 1) 25 _ (0, 0) _ rfl (heap_three _ _ _ _) Tryd.underlying25 rfl (by kernel_rfl)) rfl ⟨by rw [HV.out]; simp [M.v, mess, zeroO, ← HKK.out], below_three _ _ _ _⟩
end Go.Proofs.YtoophonmonojcaaDoor

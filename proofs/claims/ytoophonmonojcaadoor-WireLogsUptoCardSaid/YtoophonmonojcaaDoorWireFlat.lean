/- Contract of wire's flat. -/
import Derived.Test.YtoophonmonojcaaDoorWireOp
import Derived.Test.YtoophonmonojcaaDoorWireBounds
namespace Go.Proofs.YtoophonmonojcaaDoor
open Go.RowKit

/-- A message's numbers by their field's number. -/
def M.at (m : M) : Nat → Int
  | 0 => m.k | 1 => m.e | 2 => m.c | 3 => m.ha | 4 => m.fi | 5 => m.nu | 6 => m.ac | 7 => m.re | 8 => m.ta | 9 => m.op.k | 10 => m.op.p | 11 => m.op.ch | 12 => m.op.cl | 13 => m.op.s | _ => 0
def M.flat (m : M) : Value := .agg #[.int .i64 m.k, .int .i64 m.e, .int .i64 m.c, .int .i64 m.ha, .int .i64 m.fi, .int .i64 m.nu, .int .i64 m.ac, .int .i64 m.re, .int .i64 m.ta, .int .i64 m.op.k, .int .i64 m.op.p, .int .i64 m.op.ch, .int .i64 m.op.cl, .int .i64 m.op.s]

set_option maxRecDepth 100000 in
set_option maxHeartbeats 1000000 in
theorem flat_any (m : M) (w : World) (h : 0 ≤ m.op.ch ∧ m.op.ch ≤ 255) : Calls Tryd.prog 75 #[m.v] w (OpPost w m.flat) := by
  obtain ⟨k, e, c, ha, fi, nu, ac, re, ta, ⟨ok, op, oc, ol, os⟩⟩ := m
  dsimp only at h
  obtain ⟨V, hV⟩ : ∃ V, V = (M.mk k e c ha fi nu ac re ta ⟨ok, op, oc, ol, os⟩).flat := ⟨_, rfl⟩
  rw [← hV]
  have HV := Lib.hid hV; clear hV
  unfold M.v
  go_enter Tryd.func75, Tryd.ntmps75
  go_wp2_with fail
  try simp only [Exit.inBlock, Exit.then]
  exact bodyPost_ret (results_cell_row rfl _ _ (w.heap.size + 1) 114 _ (0, 0) _ rfl (heap_two _ _ _) Tryd.underlying114 rfl (by kernel_rfl)) rfl ⟨by rw [HV.out]; simp [M.flat], _, _, rfl⟩
end Go.Proofs.YtoophonmonojcaaDoor

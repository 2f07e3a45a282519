/- What changes above a block leave as they were. -/
import Derived.Test.YtoophonmonojcaaDoorWireFixed
namespace Go.Proofs.YtoophonmonojcaaDoor
open Go.RowKit

theorem below_src {w w' : World} {B : Nat} (h : Below B w.drew w') : Below B w w' := ⟨h.os, h.tape, h.output, h.size, h.block⟩

theorem below_tail {B : Nat} {w6 w X w' : World} (h : Below B w6 w) (hb : Below X.heap.size X w') (e1 : X.os = w.os) (e2 : X.tape = w.tape) (e3 : X.output = w.output) (e4 : X.heap = w.heap) (hle : B ≤ w.heap.size) : Below B w6 w' :=
  ⟨hb.os.trans (e1.trans h.os), hb.tape.trans (e2.trans h.tape), hb.output.trans (e3.trans h.output), by have := hb.size; rw [e4] at this; exact Nat.le_trans h.size this, fun k hk => by rw [hb.block k (by rw [e4]; omega), e4]; exact h.block k hk⟩
theorem cell_tail {w X w' : World} {a : Addr} {v : Value} (h : w.cell? a = some v) (hb : Below X.heap.size X w') (e4 : X.heap = w.heap) : w'.cell? a = some v := by
  have hE : X.cell? a = w.cell? a := by unfold World.cell?; rw [e4]
  exact (hb.cell (p := a) (by rw [e4]; exact block_lt h)).trans (hE.trans h)

theorem msg_cells14 {w : World} {g : Nat} {k ep c ha fi nu ac re ta ok op oc ol os : Int} (h : MsgAt w g ⟨k, ep, c, ha, fi, nu, ac, re, ta, ⟨ok, op, oc, ol, os⟩⟩) : w.cell? ⟨g, 0, none⟩ = some (.int .i64 k) ∧ w.cell? ⟨g, 1, none⟩ = some (.int .i64 ep) ∧ w.cell? ⟨g, 2, none⟩ = some (.int .i64 c) ∧ w.cell? ⟨g, 3, none⟩ = some (.int .i64 ha) ∧ w.cell? ⟨g, 4, none⟩ = some (.int .i64 fi) ∧ w.cell? ⟨g, 5, none⟩ = some (.int .i64 nu) ∧ w.cell? ⟨g, 6, none⟩ = some (.int .i64 ac) ∧ w.cell? ⟨g, 7, none⟩ = some (.int .i64 re) ∧ w.cell? ⟨g, 8, none⟩ = some (.int .i64 ta) ∧ w.cell? ⟨g, 9, none⟩ = some (.int .i64 ok) ∧ w.cell? ⟨g, 10, none⟩ = some (.int .i64 op) ∧ w.cell? ⟨g, 11, none⟩ = some (.int .u8 oc) ∧ w.cell? ⟨g, 12, none⟩ = some (.int .i64 ol) ∧ w.cell? ⟨g, 13, none⟩ = some (.int .i64 os) := by
  unfold MsgAt at h
  refine ⟨?_, ?_, ?_, ?_, ?_, ?_, ?_, ?_, ?_, ?_, ?_, ?_, ?_, ?_⟩ <;> simp [World.cell?, h, M.cs]
end Go.Proofs.YtoophonmonojcaaDoor

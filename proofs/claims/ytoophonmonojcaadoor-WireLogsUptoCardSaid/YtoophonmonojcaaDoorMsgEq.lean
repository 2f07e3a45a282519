/- Two messages compared; two items. -/
import Derived.Test.YtoophonmonojcaaDoorWireMsg
import Derived.Laws.StructEq
namespace Go.Proofs.YtoophonmonojcaaDoor
open Go.RowKit
set_option maxRecDepth 100000

theorem fieldsMsg : Tryd.prog.underlying 25 = some (.struct (Tryd.prog.fieldsOf 25)) := by kernel_rfl
theorem fieldsOp : Tryd.prog.underlying 23 = some (.struct (Tryd.prog.fieldsOf 23)) := by kernel_rfl
theorem stoodMsg : Tryd.prog.stoodInHeld 25 = false := by kernel_rfl
theorem stoodOp : Tryd.prog.stoodInHeld 23 = false := by kernel_rfl
def O.eqB (a b : O) : Bool := (a.k == b.k) && (a.p == b.p) && (a.ch == b.ch) && (a.cl == b.cl) && (a.s == b.s)
def M.eqB (a b : M) : Bool := (a.k == b.k) && (a.e == b.e) && (a.c == b.c) && (a.ha == b.ha) && (a.fi == b.fi) && (a.nu == b.nu) && (a.ac == b.ac) && (a.re == b.re) && (a.ta == b.ta) && a.op.eqB b.op
theorem O.eqB_iff (a b : O) : a.eqB b = true ↔ a = b := by
  obtain ⟨a1, a2, a3, a4, a5⟩ := a
  obtain ⟨b1, b2, b3, b4, b5⟩ := b
  simp [O.eqB, and_assoc]
theorem M.eqB_iff (a b : M) : a.eqB b = true ↔ a = b := by
  obtain ⟨a1, a2, a3, a4, a5, a6, a7, a8, a9, a10⟩ := a
  obtain ⟨b1, b2, b3, b4, b5, b6, b7, b8, b9, b10⟩ := b
  simp [M.eqB, and_assoc, O.eqB_iff]
theorem part_int (xs : Array Value) (off : Nat) (v : Value) (w : World) (h : xs[off]? = some v) : (part 3 xs off).run Tryd.prog w = .ok v w := by
  simp [part, isAgg, run_underlying Tryd.underlying3, h]
theorem part_u8 (xs : Array Value) (off : Nat) (v : Value) (w : World) (h : xs[off]? = some v) : (part 5 xs off).run Tryd.prog w = .ok v w := by
  simp [part, isAgg, run_underlying Tryd.underlying5, h]
/-- One step of the comparison. -/
theorem eq_step (d : Nat) (xs ys : Array Value) (f : Field) (fs : List Field) (w : World) (k : IntKind) (a b : Int) (h0 : f.name ≠ "_") (hx : (part f.type xs f.offset).run Tryd.prog w = .ok (.int k a) w) (hy : (part f.type ys f.offset).run Tryd.prog w = .ok (.int k b) w) (hu : Tryd.prog.underlying f.type = some (.int k))
    (r : Bool) (hr : (Op.eqFields (d + 1) xs ys fs).run Tryd.prog w = .ok r w) : (Op.eqFields (d + 1) xs ys (f :: fs)).run Tryd.prog w = .ok ((a == b) && r) w := by
  rw [Op.eqFields, if_pos h0]
  simp only [Sem.run_bind, hx, hy, Result.andThen_ok, run_equalIn_int w d f.type k k a b hu]
  cases hab : (a == b)
  · simp
  · simp [hr]
def O.cs (o : O) : Array Value := #[.int .i64 o.k, .int .i64 o.p, .int .u8 o.ch, .int .i64 o.cl, .int .i64 o.s]
def fo0 : Field := { name := "Kind", type := 3, offset := 0, embedded := false, tag := "", pkgPath := "", byteOffset := 0 }
def fo1 : Field := { name := "Pos", type := 3, offset := 1, embedded := false, tag := "", pkgPath := "", byteOffset := 8 }
def fo2 : Field := { name := "Ch", type := 5, offset := 2, embedded := false, tag := "", pkgPath := "", byteOffset := 16 }
def fo3 : Field := { name := "Client", type := 3, offset := 3, embedded := false, tag := "", pkgPath := "", byteOffset := 24 }
def fo4 : Field := { name := "Seq", type := 3, offset := 4, embedded := false, tag := "", pkgPath := "", byteOffset := 32 }
def fm0 : Field := { name := "Kind", type := 3, offset := 0, embedded := false, tag := "", pkgPath := "", byteOffset := 0 }
def fm1 : Field := { name := "Epoch", type := 3, offset := 1, embedded := false, tag := "", pkgPath := "", byteOffset := 8 }
def fm2 : Field := { name := "Client", type := 3, offset := 2, embedded := false, tag := "", pkgPath := "", byteOffset := 16 }
def fm3 : Field := { name := "Have", type := 3, offset := 3, embedded := false, tag := "", pkgPath := "", byteOffset := 24 }
def fm4 : Field := { name := "First", type := 3, offset := 4, embedded := false, tag := "", pkgPath := "", byteOffset := 32 }
def fm5 : Field := { name := "Num", type := 3, offset := 5, embedded := false, tag := "", pkgPath := "", byteOffset := 40 }
def fm6 : Field := { name := "Ack", type := 3, offset := 6, embedded := false, tag := "", pkgPath := "", byteOffset := 48 }
def fm7 : Field := { name := "Rev", type := 3, offset := 7, embedded := false, tag := "", pkgPath := "", byteOffset := 56 }
def fm8 : Field := { name := "Tag", type := 3, offset := 8, embedded := false, tag := "", pkgPath := "", byteOffset := 64 }
def fm9 : Field := { name := "Op", type := 23, offset := 9, embedded := false, tag := "", pkgPath := "", byteOffset := 72 }
theorem fieldsOpL : (Tryd.prog.fieldsOf 23).toList = [fo0, fo1, fo2, fo3, fo4] := by
  simp only [Program.fieldsOf, Tryd.underlying23]
  rfl
theorem fieldsMsgL : (Tryd.prog.fieldsOf 25).toList = [fm0, fm1, fm2, fm3, fm4, fm5, fm6, fm7, fm8, fm9] := by
  simp only [Program.fieldsOf, Tryd.underlying25]
  rfl
theorem op_equal (d : Nat) (a b : O) (w : World) : (Op.equalIn (d + 1 + 1) 23 (.agg a.cs) (.agg b.cs)).run Tryd.prog w = .ok (a.eqB b) w := by
  rw [run_equalIn_agg w (d + 1) 23 _ _ fieldsOp stoodOp, fieldsOpL]
  have e : a.eqB b = ((a.k == b.k) && ((a.p == b.p) && ((a.ch == b.ch) && ((a.cl == b.cl) && ((a.s == b.s) && true))))) := by simp [O.eqB, Bool.and_assoc]
  rw [e]
  have h5 : (Op.eqFields (d + 1) a.cs b.cs []).run Tryd.prog w = .ok true w := rfl
  have h4 := eq_step d a.cs b.cs fo4 _ w .i64 a.s b.s (by simp [fo4]) (part_int a.cs 4 (.int .i64 a.s) w rfl) (part_int b.cs 4 (.int .i64 b.s) w rfl) Tryd.underlying3 _ h5
  have h3 := eq_step d a.cs b.cs fo3 _ w .i64 a.cl b.cl (by simp [fo3]) (part_int a.cs 3 (.int .i64 a.cl) w rfl) (part_int b.cs 3 (.int .i64 b.cl) w rfl) Tryd.underlying3 _ h4
  have h2 := eq_step d a.cs b.cs fo2 _ w .u8 a.ch b.ch (by simp [fo2]) (part_u8 a.cs 2 (.int .u8 a.ch) w rfl) (part_u8 b.cs 2 (.int .u8 b.ch) w rfl) Tryd.underlying5 _ h3
  have h1 := eq_step d a.cs b.cs fo1 _ w .i64 a.p b.p (by simp [fo1]) (part_int a.cs 1 (.int .i64 a.p) w rfl) (part_int b.cs 1 (.int .i64 b.p) w rfl) Tryd.underlying3 _ h2
  have h0 := eq_step d a.cs b.cs fo0 _ w .i64 a.k b.k (by simp [fo0]) (part_int a.cs 0 (.int .i64 a.k) w rfl) (part_int b.cs 0 (.int .i64 b.k) w rfl) Tryd.underlying3 _ h1
  exact h0
theorem infoOp : (Tryd.prog.info? 23).map (·.size) = some 5 := by kernel_rfl
theorem part_op (xs : Array Value) (off : Nat) (w : World) : (part 23 xs off).run Tryd.prog w = .ok (.agg (xs.extract off (off + 5))) w := by
  cases hq : Tryd.prog.info? 23 with
  | none => have := infoOp; simp [hq] at this
  | some i =>
    have hs : i.size = 5 := by have := infoOp; simpa [hq] using this
    simp [part, isAgg, run_underlying Tryd.underlying23, sizeOf, typeInfo, hq, hs]
theorem eql_msg (a b : M) (w : World) : (binOp .eql 25 (.agg a.cs) (.agg b.cs)).run Tryd.prog w = .ok (.bool (a.eqB b)) w := by
  rw [run_eql_struct, run_equalIn_agg w 9999 25 _ _ fieldsMsg stoodMsg, fieldsMsgL]
  have e : a.eqB b = ((a.k == b.k) && ((a.e == b.e) && ((a.c == b.c) && ((a.ha == b.ha) && ((a.fi == b.fi) && ((a.nu == b.nu) && ((a.ac == b.ac) && ((a.re == b.re) && ((a.ta == b.ta) && (a.op.eqB b.op)))))))))) := by simp [M.eqB, Bool.and_assoc]
  have h9 : (Op.eqFields (9998 + 1) a.cs b.cs [fm9]).run Tryd.prog w = .ok (a.op.eqB b.op) w := by
    rw [Op.eqFields, if_pos (by simp [fm9])]
    have e1 := part_op a.cs 9 w
    have e2 := part_op b.cs 9 w
    rw [show a.cs.extract 9 (9 + 5) = a.op.cs from rfl] at e1
    rw [show b.cs.extract 9 (9 + 5) = b.op.cs from rfl] at e2
    have e3 := op_equal 9997 a.op b.op w
    simp only [Sem.run_bind, fm9, e1, e2, Result.andThen_ok, e3]
    cases a.op.eqB b.op <;> rfl
  have h8 := eq_step 9998 a.cs b.cs fm8 _ w .i64 a.ta b.ta (by simp [fm8]) (part_int a.cs 8 (.int .i64 a.ta) w rfl) (part_int b.cs 8 (.int .i64 b.ta) w rfl) Tryd.underlying3 _ h9
  have h7 := eq_step 9998 a.cs b.cs fm7 _ w .i64 a.re b.re (by simp [fm7]) (part_int a.cs 7 (.int .i64 a.re) w rfl) (part_int b.cs 7 (.int .i64 b.re) w rfl) Tryd.underlying3 _ h8
  have h6 := eq_step 9998 a.cs b.cs fm6 _ w .i64 a.ac b.ac (by simp [fm6]) (part_int a.cs 6 (.int .i64 a.ac) w rfl) (part_int b.cs 6 (.int .i64 b.ac) w rfl) Tryd.underlying3 _ h7
  have h5 := eq_step 9998 a.cs b.cs fm5 _ w .i64 a.nu b.nu (by simp [fm5]) (part_int a.cs 5 (.int .i64 a.nu) w rfl) (part_int b.cs 5 (.int .i64 b.nu) w rfl) Tryd.underlying3 _ h6
  have h4 := eq_step 9998 a.cs b.cs fm4 _ w .i64 a.fi b.fi (by simp [fm4]) (part_int a.cs 4 (.int .i64 a.fi) w rfl) (part_int b.cs 4 (.int .i64 b.fi) w rfl) Tryd.underlying3 _ h5
  have h3 := eq_step 9998 a.cs b.cs fm3 _ w .i64 a.ha b.ha (by simp [fm3]) (part_int a.cs 3 (.int .i64 a.ha) w rfl) (part_int b.cs 3 (.int .i64 b.ha) w rfl) Tryd.underlying3 _ h4
  have h2 := eq_step 9998 a.cs b.cs fm2 _ w .i64 a.c b.c (by simp [fm2]) (part_int a.cs 2 (.int .i64 a.c) w rfl) (part_int b.cs 2 (.int .i64 b.c) w rfl) Tryd.underlying3 _ h3
  have h1 := eq_step 9998 a.cs b.cs fm1 _ w .i64 a.e b.e (by simp [fm1]) (part_int a.cs 1 (.int .i64 a.e) w rfl) (part_int b.cs 1 (.int .i64 b.e) w rfl) Tryd.underlying3 _ h2
  have h0 := eq_step 9998 a.cs b.cs fm0 _ w .i64 a.k b.k (by simp [fm0]) (part_int a.cs 0 (.int .i64 a.k) w rfl) (part_int b.cs 0 (.int .i64 b.k) w rfl) Tryd.underlying3 _ h1
  rw [e]
  have h0' : (Op.eqFields 9999 a.cs b.cs [fm0, fm1, fm2, fm3, fm4, fm5, fm6, fm7, fm8, fm9]).run Tryd.prog w = _ := h0
  rw [h0']
  rfl
end Go.Proofs.YtoophonmonojcaaDoor

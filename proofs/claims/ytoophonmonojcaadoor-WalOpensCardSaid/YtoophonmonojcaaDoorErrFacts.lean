/- Closed facts on the model's entries for internal/reflectlite at this translation's numbers, as errors.As and errors.Is come to them. -/
import Derived.Test.YtoophonmonojcaaDoorGOct
import Derived.LaidEql
import Derived.Stop.Asserts
import Derived.RowKitTokens
namespace Go.Proofs.YtoophonmonojcaaDoor
open Go.RowKit Go.Extern.Stop Go.Stop Go.Extern

abbrev hnd (t : Nat) : Value := .pointer (some ⟨6, t, none⟩)

theorem Tryd.valueOfPF (t : Addr) (w : World) : (ReflectliteValue.unpack (.iface 108 (.pointer (some t)))).run Tryd.prog w
    = .ok (.agg #[hnd 108, .pointer (some ⟨w.heap.size, 0, none⟩), .int .u64 150]) (w.alloc (.cells #[.pointer (some t)] 108)) := by kernel_rfl
theorem Tryd.valueOfPE (t : Addr) (w : World) : (ReflectliteValue.unpack (.iface 130 (.pointer (some t)))).run Tryd.prog w
    = .ok (.agg #[hnd 130, .pointer (some ⟨w.heap.size, 0, none⟩), .int .u64 150]) (w.alloc (.cells #[.pointer (some t)] 130)) := by kernel_rfl
theorem Tryd.valueOfF (e : Addr) (w : World) : (ReflectliteValue.unpack (.iface 106 (.pointer (some e)))).run Tryd.prog w
    = .ok (.agg #[hnd 106, .pointer (some ⟨w.heap.size, 0, none⟩), .int .u64 150]) (w.alloc (.cells #[.pointer (some e)] 106)) := by kernel_rfl
theorem Tryd.valueOfE (c : Int) (w : World) : (ReflectliteValue.unpack (.iface 49 (.int .i64 c))).run Tryd.prog w
    = .ok (.agg #[hnd 49, .pointer (some ⟨w.heap.size, 0, none⟩), .int .u64 130]) (w.alloc (.cells #[.int .i64 c] 49)) := by kernel_rfl
theorem Tryd.typePF (a : Addr) (w : World) : (ReflectliteValue.methodAny (ReflectliteValue.valueError "reflectlite.Value.Type" 0) (fun t _ _ _ => ReflectliteType.toType t) #[.agg #[hnd 108, .pointer (some a), .int .u64 150]]).run Tryd.prog w
    = .ok (.iface 172 (.agg #[hnd 108])) w := by kernel_rfl
theorem Tryd.typePE (a : Addr) (w : World) : (ReflectliteValue.methodAny (ReflectliteValue.valueError "reflectlite.Value.Type" 0) (fun t _ _ _ => ReflectliteType.toType t) #[.agg #[hnd 130, .pointer (some a), .int .u64 150]]).run Tryd.prog w
    = .ok (.iface 172 (.agg #[hnd 130])) w := by kernel_rfl
theorem Tryd.methodKind (h : Value) (w : World) : (Go.method 320 172 (.agg #[h]) "Kind").run Tryd.prog w = .ok (152, h) w := by kernel_rfl
theorem Tryd.methodElem (h : Value) (w : World) : (Go.method 320 172 (.agg #[h]) "Elem").run Tryd.prog w = .ok (164, .agg #[h]) w := by kernel_rfl
theorem Tryd.methodImplements (h : Value) (w : World) : (Go.method 320 172 (.agg #[h]) "Implements").run Tryd.prog w = .ok (165, .agg #[h]) w := by kernel_rfl
theorem Tryd.methodAssignableTo (h : Value) (w : World) : (Go.method 320 172 (.agg #[h]) "AssignableTo").run Tryd.prog w = .ok (162, .agg #[h]) w := by kernel_rfl
theorem Tryd.methodComparable (h : Value) (w : World) : (Go.method 320 172 (.agg #[h]) "Comparable").run Tryd.prog w = .ok (163, .agg #[h]) w := by kernel_rfl
theorem Tryd.methodUnwrap (a : Addr) (w : World) : (Go.method 320 106 (.pointer (some a)) "Unwrap").run Tryd.prog w = .ok (157, .pointer (some a)) w := by kernel_rfl
theorem Tryd.kindPF (w : World) : ((ReflectliteType.abiMethod fun t => (fun a : Nat => Value.int IntKind.u8 (a : Int)) <$> Rtype.kind t) #[hnd 108]).run Tryd.prog w = .ok (.int .u8 22) w := by kernel_rfl
theorem Tryd.kindPE (w : World) : ((ReflectliteType.abiMethod fun t => (fun a : Nat => Value.int IntKind.u8 (a : Int)) <$> Rtype.kind t) #[hnd 130]).run Tryd.prog w = .ok (.int .u8 22) w := by kernel_rfl
theorem Tryd.kindF (w : World) : ((ReflectliteType.abiMethod fun t => (fun a : Nat => Value.int IntKind.u8 (a : Int)) <$> Rtype.kind t) #[hnd 106]).run Tryd.prog w = .ok (.int .u8 22) w := by kernel_rfl
theorem Tryd.kindE (w : World) : ((ReflectliteType.abiMethod fun t => (fun a : Nat => Value.int IntKind.u8 (a : Int)) <$> Rtype.kind t) #[hnd 49]).run Tryd.prog w = .ok (.int .u8 2) w := by kernel_rfl
theorem Tryd.elemPF (w : World) : (ReflectliteType.method ReflectliteType.elem #[.agg #[hnd 108]]).run Tryd.prog w = .ok (.iface 172 (.agg #[hnd 106])) w := by kernel_rfl
theorem Tryd.elemPE (w : World) : (ReflectliteType.method ReflectliteType.elem #[.agg #[hnd 130]]).run Tryd.prog w = .ok (.iface 172 (.agg #[hnd 49])) w := by kernel_rfl
theorem Tryd.implF (w : World) : (ReflectliteType.relation "Implements" ReflectliteType.implements_ #[.agg #[hnd 106], .iface 172 (.agg #[hnd 29])]).run Tryd.prog w = .ok (.bool true) w := by kernel_rfl
theorem Tryd.implE (w : World) : (ReflectliteType.relation "Implements" ReflectliteType.implements_ #[.agg #[hnd 49], .iface 172 (.agg #[hnd 29])]).run Tryd.prog w = .ok (.bool true) w := by kernel_rfl
theorem Tryd.typeOfF (v : Value) (w : World) : (ReflectliteType.typeOf #[.iface 106 v]).run Tryd.prog w = .ok (.iface 172 (.agg #[hnd 106])) w := by kernel_rfl
theorem Tryd.typeOfE (v : Value) (w : World) : (ReflectliteType.typeOf #[.iface 49 v]).run Tryd.prog w = .ok (.iface 172 (.agg #[hnd 49])) w := by kernel_rfl
theorem Tryd.assFF (w : World) : (ReflectliteType.relation "AssignableTo" ReflectliteType.assignableTo #[.agg #[hnd 106], .iface 172 (.agg #[hnd 106])]).run Tryd.prog w = .ok (.bool true) w := by kernel_rfl
theorem Tryd.assEE (w : World) : (ReflectliteType.relation "AssignableTo" ReflectliteType.assignableTo #[.agg #[hnd 49], .iface 172 (.agg #[hnd 49])]).run Tryd.prog w = .ok (.bool true) w := by kernel_rfl
theorem Tryd.assFE (w : World) : (ReflectliteType.relation "AssignableTo" ReflectliteType.assignableTo #[.agg #[hnd 106], .iface 172 (.agg #[hnd 49])]).run Tryd.prog w = .ok (.bool false) w := by kernel_rfl
theorem Tryd.assEF (w : World) : (ReflectliteType.relation "AssignableTo" ReflectliteType.assignableTo #[.agg #[hnd 49], .iface 172 (.agg #[hnd 106])]).run Tryd.prog w = .ok (.bool false) w := by kernel_rfl
def comparable_ : TypeId → Sem Value := fun t => do Rtype.noPackHeld "Comparable" t; pure (.bool (← typeInfo t).comparable)
theorem Tryd.comparableE (w : World) : (ReflectliteType.method comparable_ #[.agg #[hnd 49]]).run Tryd.prog w = .ok (.bool true) w := by kernel_rfl

theorem rlm (z : Sem Value) (f : TypeId → Addr → Nat → Nat → Sem Value) (v : Value) :
    ReflectliteValue.method z f #[v] = (do match ← ReflectliteValue.parts v with | none => z | some (t, a, fl) => f t a fl (fl % 32)) := rfl
theorem Tryd.partsPF (a : Addr) (w : World) : (ReflectliteValue.parts (.agg #[hnd 108, .pointer (some a), .int .u64 150])).run Tryd.prog w = .ok (some (108, a, 150)) w := by kernel_rfl
theorem Tryd.partsPE (a : Addr) (w : World) : (ReflectliteValue.parts (.agg #[hnd 130, .pointer (some a), .int .u64 150])).run Tryd.prog w = .ok (some (130, a, 150)) w := by kernel_rfl
theorem Tryd.isNilPF (a p : Addr) (W : World) (ha : W.cell? a = some (.pointer (some p))) :
    (ReflectliteValue.method (ReflectliteValue.valueError "reflectlite.Value.IsNil" 0) ReflectliteValue.isNil #[.agg #[hnd 108, .pointer (some a), .int .u64 150]]).run Tryd.prog W = .ok (.bool false) W := by
  rw [rlm]
  simp only [Sem.run_bind, Tryd.partsPF, Result.andThen]
  simp [ReflectliteValue.isNil, loadVar, isAgg, underlying, Tryd.underlying108, ha, Result.andThen]
theorem Tryd.isNilPE (a p : Addr) (W : World) (ha : W.cell? a = some (.pointer (some p))) :
    (ReflectliteValue.method (ReflectliteValue.valueError "reflectlite.Value.IsNil" 0) ReflectliteValue.isNil #[.agg #[hnd 130, .pointer (some a), .int .u64 150]]).run Tryd.prog W = .ok (.bool false) W := by
  rw [rlm]
  simp only [Sem.run_bind, Tryd.partsPE, Result.andThen]
  simp [ReflectliteValue.isNil, loadVar, isAgg, underlying, Tryd.underlying130, ha, Result.andThen]
theorem Tryd.elemOfPF (w : World) : (Rtype.elem? 108).run Tryd.prog w = .ok (some 106) w := by kernel_rfl
theorem Tryd.elemOfPE (w : World) : (Rtype.elem? 130).run Tryd.prog w = .ok (some 49) w := by kernel_rfl
theorem Tryd.mkF (p : Addr) (w : World) : (ReflectliteValue.mk 106 p ReflectliteValue.flagAddr).run Tryd.prog w = .ok (.agg #[hnd 106, .pointer (some p), .int .u64 406]) w := by kernel_rfl
theorem Tryd.mkE (p : Addr) (w : World) : (ReflectliteValue.mk 49 p ReflectliteValue.flagAddr).run Tryd.prog w = .ok (.agg #[hnd 49, .pointer (some p), .int .u64 386]) w := by kernel_rfl
theorem Tryd.elemVPF (a p : Addr) (W : World) (ha : W.cell? a = some (.pointer (some p))) :
    (ReflectliteValue.method (ReflectliteValue.valueError "reflectlite.Value.Elem" 0) ReflectliteValue.elem #[.agg #[hnd 108, .pointer (some a), .int .u64 150]]).run Tryd.prog W
      = .ok (.agg #[hnd 106, .pointer (some p), .int .u64 406]) W := by
  rw [rlm]
  simp only [Sem.run_bind, Tryd.partsPF, Result.andThen]
  simp [ReflectliteValue.elem, loadVar, isAgg, underlying, Tryd.underlying108, ha, Result.andThen, Tryd.elemOfPF, Tryd.mkF]
theorem Tryd.elemVPE (a p : Addr) (W : World) (ha : W.cell? a = some (.pointer (some p))) :
    (ReflectliteValue.method (ReflectliteValue.valueError "reflectlite.Value.Elem" 0) ReflectliteValue.elem #[.agg #[hnd 130, .pointer (some a), .int .u64 150]]).run Tryd.prog W
      = .ok (.agg #[hnd 49, .pointer (some p), .int .u64 386]) W := by
  rw [rlm]
  simp only [Sem.run_bind, Tryd.partsPE, Result.andThen]
  simp [ReflectliteValue.elem, loadVar, isAgg, underlying, Tryd.underlying130, ha, Result.andThen, Tryd.elemOfPE, Tryd.mkE]
theorem rls (v x : Value) : ReflectliteValue.set #[v, x] = (do
    let (some (dst, a, fl), some (src, b, _)) := (← ReflectliteValue.parts v, ← ReflectliteValue.parts x)
      | unsupported (.noEntry "extern/(internal/reflectlite.Value).Set.zeroValue")
    if fl / ReflectliteValue.flagAddr % 2 == 0 then unsupported (.noEntry "extern/(internal/reflectlite.Value).Set.unaddressable")
    let val ← loadVar src b
    if ← Rtype.directlyAssignable dst src then storeVar dst a val
    else if ← Rtype.implements dst src then
      if (← Rtype.kind src) == 20 then
        match val with
        | .nilIface => unsupported (.noEntry "extern/reflectlite: a nil value of one interface type handed on as a value of another")
        | _ => storeVar dst a val
      else storeVar dst a (.iface src val)
    else panicString ("reflectlite.Set: value of type " ++ (← Rtype.spelt src) ++ " is not assignable to type " ++ (← Rtype.spelt dst))
    pure (.tuple #[])) := rfl
theorem Tryd.partsFa (a : Addr) (w : World) : (ReflectliteValue.parts (.agg #[hnd 106, .pointer (some a), .int .u64 406])).run Tryd.prog w = .ok (some (106, a, 406)) w := by kernel_rfl
theorem Tryd.partsF (a : Addr) (w : World) : (ReflectliteValue.parts (.agg #[hnd 106, .pointer (some a), .int .u64 150])).run Tryd.prog w = .ok (some (106, a, 150)) w := by kernel_rfl
theorem Tryd.partsEa (a : Addr) (w : World) : (ReflectliteValue.parts (.agg #[hnd 49, .pointer (some a), .int .u64 386])).run Tryd.prog w = .ok (some (49, a, 386)) w := by kernel_rfl
theorem Tryd.partsE (a : Addr) (w : World) : (ReflectliteValue.parts (.agg #[hnd 49, .pointer (some a), .int .u64 130])).run Tryd.prog w = .ok (some (49, a, 130)) w := by kernel_rfl
theorem Tryd.directF (w : World) : (Rtype.directlyAssignable 106 106).run Tryd.prog w = .ok true w := by kernel_rfl
theorem Tryd.directE (w : World) : (Rtype.directlyAssignable 49 49).run Tryd.prog w = .ok true w := by kernel_rfl
theorem Tryd.setF (ta b e : Addr) (old : Value) (W : World) (hb : W.cell? b = some (.pointer (some e))) (ht : W.cell? ta = some old) (hf : W.frozen? ta = false) :
    (ReflectliteValue.set #[.agg #[hnd 106, .pointer (some ta), .int .u64 406], .agg #[hnd 106, .pointer (some b), .int .u64 150]]).run Tryd.prog W
      = .ok (.tuple #[]) (W.setCell ta (.pointer (some e))) := by
  rw [rls]
  simp only [Sem.run_bind, Tryd.partsFa, Tryd.partsF, Result.andThen]
  simp [ReflectliteValue.flagAddr, loadVar, isAgg, underlying, Tryd.underlying106, hb, Result.andThen, Tryd.directF, storeVar, Value.cells, storeCells, Addr.add]
  rw [run_store Tryd.prog W ta _ _ (by rfl)]
  simp [ht, hf]
theorem Tryd.setE (ta b : Addr) (c : Int) (old : Value) (W : World) (hb : W.cell? b = some (.int .i64 c)) (ht : W.cell? ta = some old) (hf : W.frozen? ta = false) :
    (ReflectliteValue.set #[.agg #[hnd 49, .pointer (some ta), .int .u64 386], .agg #[hnd 49, .pointer (some b), .int .u64 130]]).run Tryd.prog W
      = .ok (.tuple #[]) (W.setCell ta (.int .i64 c)) := by
  rw [rls]
  simp only [Sem.run_bind, Tryd.partsEa, Tryd.partsE, Result.andThen]
  simp [ReflectliteValue.flagAddr, loadVar, isAgg, underlying, Tryd.underlying49, hb, Result.andThen, Tryd.directE, storeVar, Value.cells, storeCells, Addr.add]
  rw [run_store Tryd.prog W ta _ _ (by rfl)]
  simp [ht, hf]
/-! the assertions of errors.As and errors.Is -/
theorem Tryd.noAsF (v : Value) (w : World) : (Instr.typeAssert (.iface 106 v) 29 177 true).run Tryd.prog w = .ok (.tuple #[.nilIface, .bool false]) w := run_typeAssert_lacksB Tryd.underlying177 (by kernel_rfl) (by kernel_rfl) v _ w
theorem Tryd.noAsE (v : Value) (w : World) : (Instr.typeAssert (.iface 49 v) 29 177 true).run Tryd.prog w = .ok (.tuple #[.nilIface, .bool false]) w := run_typeAssert_lacksB Tryd.underlying177 (by kernel_rfl) (by kernel_rfl) v _ w
theorem Tryd.noIsF (v : Value) (w : World) : (Instr.typeAssert (.iface 106 v) 29 189 true).run Tryd.prog w = .ok (.tuple #[.nilIface, .bool false]) w := run_typeAssert_lacksB Tryd.underlying189 (by kernel_rfl) (by kernel_rfl) v _ w
theorem Tryd.noIsE (v : Value) (w : World) : (Instr.typeAssert (.iface 49 v) 29 189 true).run Tryd.prog w = .ok (.tuple #[.nilIface, .bool false]) w := run_typeAssert_lacksB Tryd.underlying189 (by kernel_rfl) (by kernel_rfl) v _ w
theorem Tryd.unwrapF (v : Value) (w : World) : (Instr.typeAssert (.iface 106 v) 29 180 true).run Tryd.prog w = .ok (.tuple #[.iface 106 v, .bool true]) w := run_typeAssert_hasB Tryd.underlying180 (by kernel_rfl) v _ w
theorem Tryd.noUnwrapE (v : Value) (w : World) : (Instr.typeAssert (.iface 49 v) 29 180 true).run Tryd.prog w = .ok (.tuple #[.nilIface, .bool false]) w := run_typeAssert_lacksB Tryd.underlying180 (by kernel_rfl) (by kernel_rfl) v _ w
theorem Tryd.noUnwrapsE (v : Value) (w : World) : (Instr.typeAssert (.iface 49 v) 29 181 true).run Tryd.prog w = .ok (.tuple #[.nilIface, .bool false]) w := run_typeAssert_lacksB Tryd.underlying181 (by kernel_rfl) (by kernel_rfl) v _ w
theorem ext131 (args : Array Value) (w : World) : (callFunc 131 args).run Tryd.prog w = ((ReflectliteType.typeOf args).run Tryd.prog w).andThen fun v w' => .ok (.value v) w' :=
  run_callFunc_extern Tryd.func131 (by kernel_rfl) (by kernel_rfl) (by kernel_rfl) (by kernel_rfl) args w
theorem ext108 (args : Array Value) (w : World) : (callFunc 108 args).run Tryd.prog w = ((ReflectliteValue.unpack (args.getD 0 (.tuple #[]))).run Tryd.prog w).andThen fun v w' => .ok (.value v) w' :=
  run_callFunc_extern (e := fun args => ReflectliteValue.unpack (args.getD 0 (.tuple #[]))) Tryd.func108 (by kernel_rfl) (by kernel_rfl) (by kernel_rfl) (by kernel_rfl) args w
theorem ext109 (args : Array Value) (w : World) : (callFunc 109 args).run Tryd.prog w = (((ReflectliteValue.methodAny (ReflectliteValue.valueError "reflectlite.Value.Type" 0) (fun t _ _ _ => ReflectliteType.toType t)) args).run Tryd.prog w).andThen fun v w' => .ok (.value v) w' :=
  run_callFunc_extern Tryd.func109 (by kernel_rfl) (by kernel_rfl) (by kernel_rfl) (by kernel_rfl) args w
theorem ext110 (args : Array Value) (w : World) : (callFunc 110 args).run Tryd.prog w = (((ReflectliteValue.method (ReflectliteValue.valueError "reflectlite.Value.IsNil" 0) ReflectliteValue.isNil) args).run Tryd.prog w).andThen fun v w' => .ok (.value v) w' :=
  run_callFunc_extern Tryd.func110 (by kernel_rfl) (by kernel_rfl) (by kernel_rfl) (by kernel_rfl) args w
theorem ext132 (args : Array Value) (w : World) : (callFunc 132 args).run Tryd.prog w = (((ReflectliteValue.method (ReflectliteValue.valueError "reflectlite.Value.Elem" 0) ReflectliteValue.elem) args).run Tryd.prog w).andThen fun v w' => .ok (.value v) w' :=
  run_callFunc_extern Tryd.func132 (by kernel_rfl) (by kernel_rfl) (by kernel_rfl) (by kernel_rfl) args w
theorem ext133 (args : Array Value) (w : World) : (callFunc 133 args).run Tryd.prog w = ((ReflectliteValue.set args).run Tryd.prog w).andThen fun v w' => .ok (.value v) w' :=
  run_callFunc_extern Tryd.func133 (by kernel_rfl) (by kernel_rfl) (by kernel_rfl) (by kernel_rfl) args w
theorem ext152 (args : Array Value) (w : World) : (callFunc 152 args).run Tryd.prog w = (((ReflectliteType.abiMethod fun t => do pure (.int .u8 (← Rtype.kind t))) args).run Tryd.prog w).andThen fun v w' => .ok (.value v) w' :=
  run_callFunc_extern Tryd.func152 (by kernel_rfl) (by kernel_rfl) (by kernel_rfl) (by kernel_rfl) args w
theorem ext162 (args : Array Value) (w : World) : (callFunc 162 args).run Tryd.prog w = (((ReflectliteType.relation "AssignableTo" ReflectliteType.assignableTo) args).run Tryd.prog w).andThen fun v w' => .ok (.value v) w' :=
  run_callFunc_extern Tryd.func162 (by kernel_rfl) (by kernel_rfl) (by kernel_rfl) (by kernel_rfl) args w
theorem ext163 (args : Array Value) (w : World) : (callFunc 163 args).run Tryd.prog w = (((ReflectliteType.method comparable_) args).run Tryd.prog w).andThen fun v w' => .ok (.value v) w' :=
  run_callFunc_extern Tryd.func163 (by kernel_rfl) (by kernel_rfl) (by kernel_rfl) (by kernel_rfl) args w
theorem ext164 (args : Array Value) (w : World) : (callFunc 164 args).run Tryd.prog w = (((ReflectliteType.method ReflectliteType.elem) args).run Tryd.prog w).andThen fun v w' => .ok (.value v) w' :=
  run_callFunc_extern Tryd.func164 (by kernel_rfl) (by kernel_rfl) (by kernel_rfl) (by kernel_rfl) args w
theorem ext165 (args : Array Value) (w : World) : (callFunc 165 args).run Tryd.prog w = (((ReflectliteType.relation "Implements" ReflectliteType.implements_) args).run Tryd.prog w).andThen fun v w' => .ok (.value v) w' :=
  run_callFunc_extern Tryd.func165 (by kernel_rfl) (by kernel_rfl) (by kernel_rfl) (by kernel_rfl) args w

end Go.Proofs.YtoophonmonojcaaDoor

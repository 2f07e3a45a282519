/- Contracts of errors.Is and of the laws' own test of an error. -/
import Derived.Test.YtoophonmonojcaaDoorCode
namespace Go.Proofs.YtoophonmonojcaaDoor
open Go.RowKit Go.Extern.Stop Go.Stop Go.Extern

theorem eqlNE (c : Int) (w : World) : (binOp .eql 29 .nilIface (.iface 49 (.int .i64 c))).run Tryd.prog w = .ok (.bool false) w := by kernel_rfl
set_option maxRecDepth 100000 in
theorem Is_nil (c : Int) (w : World) : Calls Tryd.prog 116 #[.nilIface, .iface 49 (.int .i64 c)] w fun e w' => e = .returned (.bool false) ∧ w = w' := by
  have e0 := eqlNE
  go_enter Tryd.func116, Tryd.ntmps116
  go_wp2
  go_ret
  exact ⟨rfl, rfl⟩

theorem eqlFE (g : Addr) (c : Int) (w : World) : (binOp .eql 29 (.iface 106 (.pointer (some g))) (.iface 49 (.int .i64 c))).run Tryd.prog w = .ok (.bool false) w :=
  run_eql_iface_types _ _ _ _ Tryd.underlying29 (by decide) w
theorem eqlEE (a c : Int) (w : World) : (binOp .eql 29 (.iface 49 (.int .i64 a)) (.iface 49 (.int .i64 c))).run Tryd.prog w = .ok (.bool (a == c)) w := by kernel_rfl

set_option maxRecDepth 100000 in
set_option maxHeartbeats 1000000 in
theorem is_fault (g : Nat) (at_ c t : Int) (w : World) (hg : w.heap[g]? = some (faultObj at_ c)) :
    Calls Tryd.prog 135 #[faultV g, .iface 49 (.int .i64 t), .bool true] w fun e w' => e = .returned (.bool (c == t)) ∧ w = w' := by
  have HG := Lib.hid hg; clear hg
  have m1 := Tryd.methodUnwrap; have m2 := Tryd.nilAheadUnwrap
  have g1 := Tryd.noIsF; have g2 := Tryd.unwrapF; have g3 := Tryd.noIsE; have g4 := Tryd.noUnwrapE; have g5 := Tryd.noUnwrapsE
  have e1 := eqlFE; have e2 := eqlEE
  cases hb : (c == t)
  all_goals
    go_enter Tryd.func135, Tryd.ntmps135
    go_wp2
    refine wp_loop_rounds 2 ?_
    rw [rounds_succ]
    go_wp2_with (go_at_call 157; refine (unwrap_any g at_ c _ HG.out).mono ?_; rintro e w' ⟨rfl, rfl⟩)
    rw [rounds_succ]
    go_wp2
    go_ret
    exact ⟨rfl, rfl⟩

set_option maxHeartbeats 1000000 in
theorem Is_fault (g : Nat) (at_ c t : Int) (w : World) (hg : w.heap[g]? = some (faultObj at_ c)) :
    Calls Tryd.prog 116 #[faultV g, .iface 49 (.int .i64 t)] w fun e w' => e = .returned (.bool (c == t)) ∧ w = w' := by
  have HG := Lib.hid hg; clear hg
  have x1 := ext131; have x2 := ext163; have f1 := Tryd.typeOfE; have f2 := Tryd.methodComparable; have f3 := Tryd.comparableE
  go_enter Tryd.func116, Tryd.ntmps116
  go_wp2_with fail
  refine (is_fault g at_ c t _ HG.out).mono ?_
  rintro e w' ⟨rfl, rfl⟩
  go_wp2
  go_ret
  exact ⟨rfl, rfl⟩

set_option maxHeartbeats 400000 in
/-- The laws' test of an error says yes. -/
theorem law03_is (ev : Value) (c a : Int) (w : World) (h : ErrIs w ev c a) (hE : EType w) : Calls Tryd.prog 39 #[ev, .int .i64 c, .int .i64 a] w (RetV w (.bool true)) := by
  have H := Lib.hid h; have HE := Lib.hid hE; clear h hE
  go_enter Tryd.func39, Tryd.ntmps39
  go_wp2_with fail
  refine (code_any ev c a _ H.out HE.out).mono ?_
  rintro e w1 ⟨rfl, hb⟩
  have HB := Lib.hid hb; clear hb
  go_wp2_with fail
  refine (place_any ev c a _ (H.out.step HB.out) (HE.out.step HB.out)).mono ?_
  rintro e w2 ⟨rfl, hb⟩
  have HB2 := Lib.hid hb; clear hb
  go_wp2
  go_ret
  exact ⟨rfl, HB.out.trans (HB2.out.mono HB.out.size)⟩
set_option maxHeartbeats 400000 in
/-- The laws' test of an error says yes. -/
theorem law06_is (ev : Value) (c a : Int) (w : World) (h : ErrIs w ev c a) (hE : EType w) : Calls Tryd.prog 25 #[ev, .int .i64 c, .int .i64 a] w (RetV w (.bool true)) := by
  have H := Lib.hid h; have HE := Lib.hid hE; clear h hE
  go_enter Tryd.func25, Tryd.ntmps25
  go_wp2_with fail
  refine (code_any ev c a _ H.out HE.out).mono ?_
  rintro e w1 ⟨rfl, hb⟩
  have HB := Lib.hid hb; clear hb
  go_wp2_with fail
  refine (place_any ev c a _ (H.out.step HB.out) (HE.out.step HB.out)).mono ?_
  rintro e w2 ⟨rfl, hb⟩
  have HB2 := Lib.hid hb; clear hb
  go_wp2
  go_ret
  exact ⟨rfl, HB.out.trans (HB2.out.mono HB.out.size)⟩
end Go.Proofs.YtoophonmonojcaaDoor

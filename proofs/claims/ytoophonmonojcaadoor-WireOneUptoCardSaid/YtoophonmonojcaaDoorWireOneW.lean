/- The walk of jotterlaw06.WireOne: it answers true. -/
import Derived.Test.YtoophonmonojcaaDoorWireOneB
namespace Go.Proofs.YtoophonmonojcaaDoor
open Go.RowKit

set_option maxRecDepth 100000 in
set_option maxHeartbeats 1000000 in
theorem wireOne_any (ao : Option Addr) (n cap : Nat) (b : List UInt8) (W : World) (hl : b.length = n) (hr : Rd W ao b) (hcap : n ≤ cap) (_hz : ao = none → cap = 0) (hb : n ≤ 1048576) (hT : Tab W) (hE : EType W) (hS : Sizes W) (hSh : Shapes W) :
    Calls Tryd.prog 19 #[.slice ao n cap] W (RetV W (.bool true)) := by
  have hv : Env W := ⟨hT, hE, hS, hSh⟩
  have HV := Lib.hid hv; have HL := Lib.hid hl; have HR := Lib.hid hr
  clear hT hE hS hSh hv hl hr
  go_enter Tryd.func19, Tryd.ntmps19
  go_wp2_with fail
  refine (fixed6_any _ HV.out).mono ?_
  rintro e w1 ⟨rfl, hb1⟩
  have HB1 := Lib.hid hb1; clear hb1
  go_wp2_with fail
  refine (one_any ao n cap b _ HL.out (HR.out.step HB1.out) hcap (by omega) (HV.out.step HB1.out)).mono ?_
  rintro e w2 ⟨rfl, hb2⟩
  have HB2 := Lib.hid (HB1.out.trans (hb2.mono HB1.out.size)); clear hb2
  go_wp2_with fail
  refine (seal_any ao n cap b _ HL.out (HR.out.step HB2.out) (by omega) (HV.out.step HB2.out).tab).mono ?_
  rintro e w3 ⟨g3, rfl, hg3, hr3, hb3⟩
  have HB3 := Lib.hid (HB2.out.trans (hb3.mono HB2.out.size)); have HR3 := Lib.hid hr3; clear hg3 hr3 hb3
  have hsl : (sealed b).length = n + 4 := by have := HL.out; simp [sealed, le4]; omega
  obtain ⟨S, hS⟩ : ∃ S, S = sealed b := ⟨_, rfl⟩
  rw [← hS] at hsl HR3 ⊢
  rw [hsl]
  have HSL := Lib.hid hsl
  clear hS hsl
  go_wp2_with fail
  refine (one_any (some ⟨g3, 0, none⟩) (n + 4) (n + 4) S _ HSL.out HR3.out.rd (Nat.le_refl _) (by omega) (HV.out.step HB3.out)).mono ?_
  rintro e w4 ⟨rfl, hb4⟩
  have HB4 := Lib.hid (HB3.out.trans (hb4.mono HB3.out.size)); clear hb4
  go_wp2
  go_ret
  exact ⟨rfl, HB4.out⟩
end Go.Proofs.YtoophonmonojcaaDoor

/- Proved: the law WireFaults of package jotterlaw06 (whatever is refused, the error holds a Fault, whose place and inner error are what api tells) answers true and leaves its argument as it was, for every argument; octet.table, wire.size, wire.shapes and errors.errorType read as the program lays them (the card ties that). -/
import Derived.Test.YtoophonmonojcaaDoorWireFaultsW
import Derived.Test.YtoophonmonojcaaDoorKitWire
import Derived.Test.YtoophonmonojcaaDoorBytesArg2
import Derived.Deep.DeepWitnessRowRef
namespace Go.Proofs.YtoophonmonojcaaDoor.fnWireFaults
open Go.ChangeShapes Go.WideShapes Go.ChangeAt Go.RowKit

set_option maxRecDepth 100000 in
theorem contract (H : Type) (enc : TypeId × Value → H) (W : World) (base : Nat) (args : Array Value) (ds gs : List (DataW H)) (before : List MemPlace)
    (hval : ∀ (j : Nat) t v, Tryd.f21.params[j]? = some t → args[j]? = some v → Value.okWide Tryd.prog W .any base t v)
    (hW : DataW.Whole enc Tryd.prog Tryd.f21.params.toList Rows.wireFaultsSpec.vars false W args.toList ds gs before) (hL : laidMetH Tryd.prog Rows.wireFaultsRow.laid W) :
    Calls Tryd.prog 21 args W fun e W' => ∃ v, e = .returned v ∧ Rows.wireFaultsSpec.post enc Tryd.prog Tryd.f21 false true false false W args v W' := by
  have hW' := hW
  obtain ⟨p, q, hA0, hV, rfl, hfz, hnd⟩ := hW
  have hA : DataW.TrodAll enc Tryd.prog W 0 (fun _ => true) true Tryd.f21.params.toList args.toList ds p := hA0
  rw [Tryd.params21] at hA hval
  obtain ⟨v0, vs0, d0, ds0, p0, q0, hargs, rfl, rfl, h0, r0⟩ := trodAll_cons hA
  obtain ⟨rfl, rfl, rfl⟩ := trodAll_nil r0
  obtain rfl : args = #[v0] := by cases args; simp_all
  obtain ⟨rfl, rfl⟩ := trodVars_none hV
  clear hA0
  obtain ⟨ao0, n0, cap0, l0, rfl, hl0, hr0, hn0, hc0, hz0, hx0⟩ := bytes_open2 h0 (okWide_slice Tryd.underlying27 (hval 0 27 v0 rfl rfl))
  obtain ⟨hT, hE, hS, hSh⟩ := of_laid4 hL
  refine (wireFaults_any ao0 n0 cap0 l0 W hl0 hr0 hc0 hz0 (by omega) hT hE hS hSh).mono fun e W' ⟨he, hg⟩ => ?_
  subst he
  exact ⟨_, rfl, law_post rfl (by kernel_rfl) (by rw [Tryd.params21]; intro t ht; simp at ht; first | (subst ht; exact ⟨by kernel_rfl, of_decide_eq_true (by kernel_rfl)⟩) | (rcases ht with rfl <;> exact ⟨by kernel_rfl, of_decide_eq_true (by kernel_rfl)⟩) | (rcases ht with rfl | rfl <;> exact ⟨by kernel_rfl, of_decide_eq_true (by kernel_rfl)⟩)) hW' rfl hg⟩

theorem laid_met (os : Os) : laidMetH Tryd.prog Rows.wireFaultsRow.laid ((laidWorld4 os).forCall (fun _ _ => 0) ⟨#[], #[.slice none 0 0], []⟩).memory :=
  laidMetH_of_parts (laidMet_of_run' 8 (by kernel_rfl) (by kernel_rfl)) (by kernel_rfl)
theorem reads (os : Os) {H : Type} (enc : TypeId × Value → H) : ∃ places, DataW.whole enc Tryd.prog ((laidWorld4 os).forCall (fun _ _ => 0) ⟨#[], #[.slice none 0 0], []⟩).memory Tryd.f21.params.toList Rows.wireFaultsSpec.vars false #[Value.slice none 0 0].toList 8 = some ([.nil], [], places) :=
  ⟨[], by kernel_rfl⟩

set_option maxRecDepth 100000 in
theorem lifted (os : Os) (started : os.Started) (H : Type) (enc : TypeId × Value → H) (F : Stop.Interp) :
    ReturnsInHanded {} Tryd.checked os 21 .any ((OpenSpec.ofChange Rows.wireFaultsSpec).preRow enc Tryd.prog Tryd.f21 Rows.wireFaultsRow.domain false Rows.wireFaultsRow.laid) (((OpenSpec.ofChange Rows.wireFaultsSpec).at F).post enc Tryd.prog Tryd.f21 false true false false) := by
  obtain ⟨places, hx⟩ := reads os enc
  refine returnsInHanded_of_row (C := Tryd.checked) (s := OpenSpec.ofChange Rows.wireFaultsSpec) own started (by kernel_rfl) Tryd.func21
    (witness_row_atRef (enc := enc) (C := Tryd.checked) false (laidWorld4 os) #[.slice none 0 0] rfl (by kernel_rfl) (by kernel_rfl) (by kernel_rfl)
      (OpenSpec.preRow_of_cond 8 hx (by kernel_rfl) (fun k hk => by cases hk) (by kernel_rfl) (laid_met os))) ?_
  intro W base args ds gs before hval hW _ hcond _ hL _ _
  exact contract H enc W base args ds gs before hval hW hL
end Go.Proofs.YtoophonmonojcaaDoor.fnWireFaults

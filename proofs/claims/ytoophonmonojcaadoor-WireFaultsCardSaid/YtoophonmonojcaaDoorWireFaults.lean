/- Proved: the law WireFaults of package jotterlaw06 (whatever is refused, the error holds a Fault, whose place and inner error are what api tells) answers true and leaves its argument as it was, for every argument; octet.table, wire.size, wire.shapes and errors.errorType read as the program lays them (the card ties that). -/
import Derived.Test.YtoophonmonojcaaDoorWireFaultsF
import Derived.Test.YtoophonmonojcaaDoorWireFaultsL
namespace Go.Proofs.YtoophonmonojcaaDoor.fnWireFaults
open Go.ChangeShapes Go.WideShapes Go.ChangeAt Go.RowKit

theorem said : Rows.WireFaultsSaid :=
  OpenClaim.holds_of_cond 21 Tryd.f21 rfl rfl rfl rfl rfl rfl rfl ⟨rfl, rfl, rfl, rfl, rfl⟩ rfl rfl rfl rfl rfl (by kernel_rfl) Tryd.func21 closed
    (of_decide_eq_true (by kernel_rfl)) (by unfold Func.isWrapper; first | (rw [if_pos (by decide +kernel)]; kernel_rfl) | (rw [if_neg (by decide +kernel)]; exact ⟨rfl, rfl⟩))
    (fun os started H enc _ F => by rw [OpenClaim.pre_eq_preRow]; exact lifted os started H enc F)

theorem plain (f : FuncId) (fn : Func) (hf : Tryd.pinned.checked.prog.funcNamed "jotter/jotterlaw06.WireFaults" = some f) (hfn : Tryd.pinned.checked.prog.funcs[f]? = some fn) :
    true = Tryd.pinned.checked.prog.looks [] ∧ ∀ (j : Nat) t, fn.params[j]? = some t → Tryd.pinned.checked.prog.wantsStandIn t = false := by
  obtain rfl : f = 21 := Option.some.inj ((show Tryd.prog.funcNamed "jotter/jotterlaw06.WireFaults" = some 21 by kernel_rfl).symm.trans hf) |>.symm
  obtain rfl : fn = Tryd.f21 := (Option.some.inj (Tryd.func21.symm.trans hfn)).symm
  refine ⟨by kernel_rfl, fun j t ht => ?_⟩
  rw [Tryd.params21] at ht
  have hm := Array.mem_of_getElem? ht
  simp at hm
  subst hm
  exact (show Tryd.prog.wantsStandIn 27 = false by kernel_rfl)

theorem card : Rows.WireFaultsCardSaid :=
  Claim7.holds_tied_plain_at .later [] _ _ _ _ said (fun _ h => by cases h) (by kernel_rfl) (fun _ h => by cases h) wireFaults_row_tie rfl ⟨rfl, rfl⟩ (by kernel_rfl) rfl plain (by kernel_rfl)
#print axioms card
end Go.Proofs.YtoophonmonojcaaDoor.fnWireFaults

/- Proved: the law WireTold of package jotterlaw06 (a message's bytes with one byte changed by any mask are refused for their sum, at the sum's place, and nothing is told) answers true and leaves its arguments as they were, for every argument; octet.table, wire.size, wire.shapes and errors.errorType read as the program lays them (the card ties that). -/
import Derived.Test.YtoophonmonojcaaDoorWireToldF
namespace Go.Proofs.YtoophonmonojcaaDoor.fnWireTold
open Go.ChangeShapes Go.WideShapes Go.ChangeAt Go.RowKit

theorem said : Rows.WireToldSaid :=
  OpenClaim.holds_of_cond 20 Tryd.f20 rfl rfl rfl rfl rfl rfl rfl ⟨rfl, rfl, rfl, rfl, rfl⟩ rfl rfl rfl rfl rfl (by kernel_rfl) Tryd.func20 closed
    (of_decide_eq_true (by kernel_rfl)) (by unfold Func.isWrapper; first | (rw [if_pos (by decide +kernel)]; kernel_rfl) | (rw [if_neg (by decide +kernel)]; exact ⟨rfl, rfl⟩))
    (fun os started H enc _ F => by rw [OpenClaim.pre_eq_preRow]; exact lifted os started H enc F)

theorem plain (f : FuncId) (fn : Func) (hf : Tryd.pinned.checked.prog.funcNamed "jotter/jotterlaw06.WireTold" = some f) (hfn : Tryd.pinned.checked.prog.funcs[f]? = some fn) :
    true = Tryd.pinned.checked.prog.looks [] ∧ ∀ (j : Nat) t, fn.params[j]? = some t → Tryd.pinned.checked.prog.wantsStandIn t = false := by
  obtain rfl : f = 20 := Option.some.inj ((show Tryd.prog.funcNamed "jotter/jotterlaw06.WireTold" = some 20 by kernel_rfl).symm.trans hf) |>.symm
  obtain rfl : fn = Tryd.f20 := (Option.some.inj (Tryd.func20.symm.trans hfn)).symm
  refine ⟨by kernel_rfl, fun j t ht => ?_⟩
  rw [Tryd.params20] at ht
  have hm := Array.mem_of_getElem? ht
  simp at hm
  rcases hm with rfl | rfl
  · exact (show Tryd.prog.wantsStandIn 25 = false by kernel_rfl)
  · exact (show Tryd.prog.wantsStandIn 3 = false by kernel_rfl)

theorem card : Rows.WireToldCardSaid :=
  Claim7.holds_tied_plain_at .later [] _ _ _ _ said (fun _ h => by cases h) (by kernel_rfl) (fun _ h => by cases h) wireTold_row_tie rfl ⟨rfl, rfl⟩ (by kernel_rfl) rfl plain (by kernel_rfl)
#print axioms card
end Go.Proofs.YtoophonmonojcaaDoor.fnWireTold

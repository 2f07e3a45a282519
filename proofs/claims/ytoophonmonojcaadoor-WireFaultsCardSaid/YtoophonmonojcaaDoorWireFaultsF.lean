/- The closed facts of the law WireFaults's row, each by the kernel. -/
import Derived.Test.YtoophonmonojcaaDoorKit
namespace Go.Proofs.YtoophonmonojcaaDoor.fnWireFaults
open Go.ChangeShapes Go.WideShapes Go.ChangeAt Go.RowKit

set_option maxHeartbeats 4000000 in
theorem closed : joinedFacts Tryd.pinned.checked.prog 21 Tryd.f21 (OpenSpec.ofChange Rows.wireFaultsSpec).bare Rows.wireFaultsRow = true := by
  unfold joinedFacts
  simp only [Bool.and_eq_true]
  refine ⟨⟨⟨⟨⟨⟨⟨⟨⟨⟨⟨⟨⟨⟨⟨⟨⟨⟨⟨⟨⟨⟨⟨⟨⟨⟨⟨⟨⟨⟨⟨?_, ?_⟩, ?_⟩, ?_⟩, ?_⟩, ?_⟩, ?_⟩, ?_⟩, ?_⟩, ?_⟩, ?_⟩, ?_⟩, ?_⟩, ?_⟩, ?_⟩, ?_⟩, ?_⟩, ?_⟩, ?_⟩, ?_⟩, ?_⟩, ?_⟩, ?_⟩, ?_⟩, ?_⟩, ?_⟩, ?_⟩, ?_⟩, ?_⟩, ?_⟩, ?_⟩, ?_⟩
  all_goals as_aux_lemma => kernel_rfl
end Go.Proofs.YtoophonmonojcaaDoor.fnWireFaults

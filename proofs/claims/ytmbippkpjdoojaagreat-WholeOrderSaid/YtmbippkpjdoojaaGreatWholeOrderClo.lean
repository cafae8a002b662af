/- The facts about the cut that the row of WholeOrder rests on, each a proof by itself. -/
import Derived.Test.YtmbippkpjdoojaaGreatRows
import Derived.ProofKit
import Derived.JoinedOf
namespace Go.Proofs.YtmbippkpjdoojaaGreat.wholeOrder
open Go.ChangeShapes Go.WideShapes Go.ChangeAt Go.RowKit
theorem both {a b : Bool} (ha : a = true) (hb : b = true) : (a && b) = true := by rw [ha, hb]; rfl
set_option maxRecDepth 100000 in
set_option maxHeartbeats 8000000 in
theorem closed : joinedFacts Tryz.pinned.checked.prog 3 Tryz.f3 Rows.wholeOrderSpec Rows.wholeOrderRow = true := by
  unfold joinedFacts
  repeat' (with_reducible refine both ?_ ?_)
  all_goals (as_aux_lemma => kernel_rfl)
end Go.Proofs.YtmbippkpjdoojaaGreat.wholeOrder

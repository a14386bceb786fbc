/-
  OffsetUnit: the closed facts.
-/
import Derived.Test.YtkdjilgddbjcaaaGreatRows
import Derived.JoinedOf
namespace Go.Proofs.YtkdjilgddbjcaaaGreat

set_option maxHeartbeats 40000000 in
/-- The closed facts, each by itself. -/
theorem closedOffsetUnit : joinedFacts Tryz.prog 3 Tryz.f3 Rows.offsetUnitSpec Rows.offsetUnitRow = true := by
  unfold joinedFacts
  simp only [Bool.and_eq_true]
  repeat' apply And.intro
  all_goals (as_aux_lemma => kernel_rfl)

end Go.Proofs.YtkdjilgddbjcaaaGreat

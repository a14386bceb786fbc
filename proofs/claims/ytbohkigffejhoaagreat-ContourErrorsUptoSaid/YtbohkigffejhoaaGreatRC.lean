/-
  ContourErrors: the closed facts.
-/
import Derived.Test.YtbohkigffejhoaaGreatRows
import Derived.JoinedCond
namespace Go.Proofs.YtbohkigffejhoaaGreat

set_option maxHeartbeats 40000000 in
/-- The closed facts, each by itself. -/
theorem closedContourErrors : joinedFacts Tryz.prog 4 Tryz.f4 (Rows.OpenSpec.upto Rows.contourErrorsSpec).bare Rows.contourErrorsUptoRow = true := by
  unfold joinedFacts
  simp only [Bool.and_eq_true]
  repeat' apply And.intro
  all_goals (as_aux_lemma => kernel_rfl)

end Go.Proofs.YtbohkigffejhoaaGreat

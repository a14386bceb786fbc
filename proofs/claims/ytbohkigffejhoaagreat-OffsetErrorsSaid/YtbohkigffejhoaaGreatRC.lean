import Derived.Test.YtbohkigffejhoaaGreatRows
import Derived.JoinedOf
namespace Go.Proofs.YtbohkigffejhoaaGreat
set_option maxHeartbeats 40000000 in
theorem closedOffsetErrors:joinedFacts Tryz.prog 3 Tryz.f3 Rows.offsetErrorsSpec Rows.offsetErrorsRow=true:=by
 unfold joinedFacts
 simp only [Bool.and_eq_true]
 repeat' apply And.intro
 all_goals (as_aux_lemma=>kernel_rfl)
end Go.Proofs.YtbohkigffejhoaaGreat

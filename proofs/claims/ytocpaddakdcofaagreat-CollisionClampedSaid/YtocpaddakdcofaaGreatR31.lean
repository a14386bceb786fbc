import Derived.Test.YtocpaddakdcofaaGreatRows
import Derived.JoinedOf
namespace Go.Proofs.YtocpaddakdcofaaGreat
set_option maxHeartbeats 40000000 in
theorem closedCollisionClamped:joinedFacts Tryz.prog 3 Tryz.f3 Rows.collisionClampedSpec Rows.collisionClampedRow=true:=by
 unfold joinedFacts
 simp only [Bool.and_eq_true]
 repeat' apply And.intro
 all_goals (as_aux_lemma=>kernel_rfl)
end Go.Proofs.YtocpaddakdcofaaGreat

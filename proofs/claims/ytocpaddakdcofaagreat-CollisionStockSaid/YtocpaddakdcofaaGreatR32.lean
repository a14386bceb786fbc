import Derived.Test.YtocpaddakdcofaaGreatRows
import Derived.JoinedOf
namespace Go.Proofs.YtocpaddakdcofaaGreat
set_option maxHeartbeats 40000000 in
theorem closedCollisionStock:joinedFacts Tryz.prog 4 Tryz.f4 Rows.collisionStockSpec Rows.collisionStockRow=true:=by
 unfold joinedFacts
 simp only [Bool.and_eq_true]
 repeat' apply And.intro
 all_goals (as_aux_lemma=>kernel_rfl)
end Go.Proofs.YtocpaddakdcofaaGreat

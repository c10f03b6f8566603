/- The closed facts that the row asks for. -/
import Derived.Test.YtibpgelajmoefaaGreatDoorEvB
namespace Go.Proofs.YtibpgelajmoefaaGreatDoor.SK
open Go Go.Ev Go.RowKit Go.ChangeShapes Go.WideShapes Go.ChangeAt
theorem named : Tryz.pinned.checked.prog.funcNamed Rows.scopeKindsRow.func = some 4 := by kernel_rfl
set_option maxHeartbeats 40000000 in
set_option maxRecDepth 100000 in
theorem facts : joinedFacts Tryz.pinned.checked.prog 4 Tryz.f4 (OpenSpec.ofChange Rows.scopeKindsSpec).bare Rows.scopeKindsRow = true := by
  unfold joinedFacts
  refine andT (andT (andT (andT (andT (andT (andT (andT (andT (andT (andT (andT (andT (andT (andT (andT (andT (andT (andT (andT (andT (andT (andT (andT (andT (andT (andT (andT (andT (andT (andT ?_ ?_) ?_) ?_) ?_) ?_) ?_) ?_) ?_) ?_) ?_) ?_) ?_) ?_) ?_) ?_) ?_) ?_) ?_) ?_) ?_) ?_) ?_) ?_) ?_) ?_) ?_) ?_) ?_) ?_) ?_) ?_
  all_goals (as_aux_lemma => kernel_rfl)
theorem inst : decide (Tryz.f4.isInstance Tryz.pinned.checked.prog Rows.scopeKindsRow.origin Rows.scopeKindsRow.targs) = true := by kernel_rfl
end Go.Proofs.YtibpgelajmoefaaGreatDoor.SK

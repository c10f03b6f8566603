/- The closed facts that the row asks for. -/
import Derived.Test.YtibpgelajmoefaaGreatDoorEvB
namespace Go.Proofs.YtibpgelajmoefaaGreatDoor.LS
open Go Go.Ev Go.RowKit Go.ChangeShapes Go.WideShapes Go.ChangeAt
theorem named : Tryz.pinned.checked.prog.funcNamed Rows.lintSameRow.func = some 5 := by kernel_rfl
set_option maxHeartbeats 40000000 in
set_option maxRecDepth 100000 in
theorem facts : joinedFacts Tryz.pinned.checked.prog 5 Tryz.f5 (OpenSpec.ofChange Rows.lintSameSpec).bare Rows.lintSameRow = true := by
  unfold joinedFacts
  refine andT (andT (andT (andT (andT (andT (andT (andT (andT (andT (andT (andT (andT (andT (andT (andT (andT (andT (andT (andT (andT (andT (andT (andT (andT (andT (andT (andT (andT (andT (andT ?_ ?_) ?_) ?_) ?_) ?_) ?_) ?_) ?_) ?_) ?_) ?_) ?_) ?_) ?_) ?_) ?_) ?_) ?_) ?_) ?_) ?_) ?_) ?_) ?_) ?_) ?_) ?_) ?_) ?_) ?_) ?_
  all_goals (as_aux_lemma => kernel_rfl)
theorem inst : decide (Tryz.f5.isInstance Tryz.pinned.checked.prog Rows.lintSameRow.origin Rows.lintSameRow.targs) = true := by kernel_rfl
end Go.Proofs.YtibpgelajmoefaaGreatDoor.LS

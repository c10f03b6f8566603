/- Its cases, run. -/
import Derived.Test.YtibpgelajmoefaaGreatDoorSKT1
namespace Go.Proofs.YtibpgelajmoefaaGreatDoor.SK
open Go Go.Ev Go.RowKit Go.ChangeShapes Go.WideShapes Go.ChangeAt
theorem c3 : evAsk Tryz.prog tb2 1000000 (.fn (.func 4) [] []) [.cls .u8 6 3 256] hG (.bool true) = yes := by kernel_rfl
theorem c4 : evAsk Tryz.prog tb2 1000000 (.fn (.func 4) [] []) [.cls .u8 6 4 256] hG (.bool true) = yes := by kernel_rfl
theorem c5 : evAsk Tryz.prog tb2 1000000 (.fn (.func 4) [] []) [.cls .u8 6 5 256] hG (.bool true) = yes := by kernel_rfl
end Go.Proofs.YtibpgelajmoefaaGreatDoor.SK

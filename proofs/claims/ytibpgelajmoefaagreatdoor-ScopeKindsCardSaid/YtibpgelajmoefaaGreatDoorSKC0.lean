/- Its cases, run. -/
import Derived.Test.YtibpgelajmoefaaGreatDoorSKT1
namespace Go.Proofs.YtibpgelajmoefaaGreatDoor.SK
open Go Go.Ev Go.RowKit Go.ChangeShapes Go.WideShapes Go.ChangeAt
theorem c0 : evAsk Tryz.prog tb2 1000000 (.fn (.func 4) [] []) [.cls .u8 6 0 256] hG (.bool true) = yes := by kernel_rfl
theorem c1 : evAsk Tryz.prog tb2 1000000 (.fn (.func 4) [] []) [.cls .u8 6 1 256] hG (.bool true) = yes := by kernel_rfl
theorem c2 : evAsk Tryz.prog tb2 1000000 (.fn (.func 4) [] []) [.cls .u8 6 2 256] hG (.bool true) = yes := by kernel_rfl
end Go.Proofs.YtibpgelajmoefaaGreatDoor.SK

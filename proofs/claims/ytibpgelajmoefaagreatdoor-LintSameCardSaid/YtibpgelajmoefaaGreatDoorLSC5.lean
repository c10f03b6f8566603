/- Its cases, run. -/
import Derived.Test.YtibpgelajmoefaaGreatDoorLST1
namespace Go.Proofs.YtibpgelajmoefaaGreatDoor.LS
open Go Go.Ev Go.RowKit Go.ChangeShapes Go.WideShapes Go.ChangeAt
theorem c5_0 : evAsk Tryz.prog tb2 1000000 (.fn (.func 5) [] []) [.cls .u8 6 5 256, .cls .u8 4 0 256] hG (.bool true) = yes := by kernel_rfl
theorem c5_1 : evAsk Tryz.prog tb2 1000000 (.fn (.func 5) [] []) [.cls .u8 6 5 256, .cls .u8 4 1 256] hG (.bool true) = yes := by kernel_rfl
theorem c5_2 : evAsk Tryz.prog tb2 1000000 (.fn (.func 5) [] []) [.cls .u8 6 5 256, .cls .u8 4 2 256] hG (.bool true) = yes := by kernel_rfl
theorem c5_3 : evAsk Tryz.prog tb2 1000000 (.fn (.func 5) [] []) [.cls .u8 6 5 256, .cls .u8 4 3 256] hG (.bool true) = yes := by kernel_rfl
end Go.Proofs.YtibpgelajmoefaaGreatDoor.LS

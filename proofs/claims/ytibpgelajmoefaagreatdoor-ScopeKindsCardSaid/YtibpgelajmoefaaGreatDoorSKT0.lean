/- Calls that are known, stage 0. -/
import Derived.Test.YtibpgelajmoefaaGreatDoorEvB
namespace Go.Proofs.YtibpgelajmoefaaGreatDoor.SK
open Go Go.Ev Go.RowKit Go.ChangeShapes Go.WideShapes Go.ChangeAt
def tb0 : Tb := []
theorem tb0Ok : TbOk (laidOf hG) Tryz.prog tb0 := TbOk.nil
theorem p0 : Pure (laidOf hG) Tryz.prog 138 [.str 1 120] (.bool false) := pure_ask hG_ro (progOk _) tb0Ok 1000000 (by rfl) (by rfl) (by kernel_rfl)
theorem p1 : Pure (laidOf hG) Tryz.prog 138 [.str 1 97] (.bool false) := pure_ask hG_ro (progOk _) tb0Ok 1000000 (by rfl) (by rfl) (by kernel_rfl)
theorem p2 : Pure (laidOf hG) Tryz.prog 322 [.str 0 0] (.int .i64 0) := pure_ask hG_ro (progOk _) tb0Ok 1000000 (by rfl) (by rfl) (by kernel_rfl)
theorem p3 : Pure (laidOf hG) Tryz.prog 322 [.str 1 124] (.int .i64 1) := pure_ask hG_ro (progOk _) tb0Ok 1000000 (by rfl) (by rfl) (by kernel_rfl)
theorem p4 : Pure (laidOf hG) Tryz.prog 322 [.str 1 59] (.int .i64 0) := pure_ask hG_ro (progOk _) tb0Ok 1000000 (by rfl) (by rfl) (by kernel_rfl)
theorem p5 : Pure (laidOf hG) Tryz.prog 322 [.str 1 41] (.int .i64 0) := pure_ask hG_ro (progOk _) tb0Ok 1000000 (by rfl) (by rfl) (by kernel_rfl)
theorem p6 : Pure (laidOf hG) Tryz.prog 338 [.str 1 124] (.int .i64 1) := pure_ask hG_ro (progOk _) tb0Ok 1000000 (by rfl) (by rfl) (by kernel_rfl)
theorem p7 : Pure (laidOf hG) Tryz.prog 339 [.str 1 124] (.int .i64 2) := pure_ask hG_ro (progOk _) tb0Ok 1000000 (by rfl) (by rfl) (by kernel_rfl)
def tb1 : Tb := [(138, [([.str 1 120], .bool false), ([.str 1 97], .bool false)]),
  (322, [([.str 0 0], .int .i64 0), ([.str 1 124], .int .i64 1), ([.str 1 59], .int .i64 0), ([.str 1 41], .int .i64 0)]),
  (338, [([.str 1 124], .int .i64 1)]),
  (339, [([.str 1 124], .int .i64 2)])]
theorem tb1Ok : TbOk (laidOf hG) Tryz.prog tb1 := (TbOk.cons (Known.cons p0 (Known.cons p1 Known.nil)) (TbOk.cons (Known.cons p2 (Known.cons p3 (Known.cons p4 (Known.cons p5 Known.nil)))) (TbOk.cons (Known.cons p6 Known.nil) (TbOk.cons (Known.cons p7 Known.nil) TbOk.nil))))
end Go.Proofs.YtibpgelajmoefaaGreatDoor.SK

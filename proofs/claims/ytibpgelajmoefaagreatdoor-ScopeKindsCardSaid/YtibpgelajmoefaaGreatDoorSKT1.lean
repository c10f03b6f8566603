/- Calls that are known, stage 1. -/
import Derived.Test.YtibpgelajmoefaaGreatDoorSKT0
namespace Go.Proofs.YtibpgelajmoefaaGreatDoor.SK
open Go Go.Ev Go.RowKit Go.ChangeShapes Go.WideShapes Go.ChangeAt
theorem p8 : Pure (laidOf hG) Tryz.prog 12 [] (.bool true) := pure_ask hG_ro (progOk _) tb1Ok 1000000 (by rfl) (by rfl) (by kernel_rfl)
def tb2 : Tb := [(138, [([.str 1 120], .bool false), ([.str 1 97], .bool false)]),
  (322, [([.str 0 0], .int .i64 0), ([.str 1 124], .int .i64 1), ([.str 1 59], .int .i64 0), ([.str 1 41], .int .i64 0)]),
  (338, [([.str 1 124], .int .i64 1)]),
  (339, [([.str 1 124], .int .i64 2)]),
  (12, [([], .bool true)])]
theorem tb2Ok : TbOk (laidOf hG) Tryz.prog tb2 := (TbOk.cons (Known.cons p0 (Known.cons p1 Known.nil)) (TbOk.cons (Known.cons p2 (Known.cons p3 (Known.cons p4 (Known.cons p5 Known.nil)))) (TbOk.cons (Known.cons p6 Known.nil) (TbOk.cons (Known.cons p7 Known.nil) (TbOk.cons (Known.cons p8 Known.nil) TbOk.nil)))))
end Go.Proofs.YtibpgelajmoefaaGreatDoor.SK

/-
  LintSame, for every input: the law's function returns true, and its arguments read as before; the package-level variables that the row lists read as the program's text lays them (the card ties them to it).
-/
import Derived.Test.YtibpgelajmoefaaGreatDoorLSRow
namespace Go.Proofs.YtibpgelajmoefaaGreatDoor.LS
open Go Go.Ev Go.RowKit Go.ChangeShapes Go.WideShapes Go.ChangeAt

theorem goes : false = Rows.lintSameRow.goesBy Tryz.pinned.checked.prog := by kernel_rfl

/-- The card. -/
theorem card : Rows.LintSameCardSaid :=
  Claim7.holds_tied_plain_at .later [] _ _ _ _ said (fun _ h => by cases h) (by kernel_rfl) (fun _ h => by cases h) lintSame_row_tie rfl ⟨rfl, rfl⟩ (by kernel_rfl) rfl plain goes
end Go.Proofs.YtibpgelajmoefaaGreatDoor.LS

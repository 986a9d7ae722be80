/-
A closed fact of the card of CheckNames: the call starts no goroutine.
-/
import Derived.Test.YtpolhfiikbmplaaGreatDoorFactA
import Derived.Test.YtpolhfiikbmplaaGreatDoorNamesG
import Derived.SevenTiedAt
namespace Go.Proofs.YtpolhfiikbmplaaGreatDoor
open Go Go.Ev
theorem names_goes : false = Rows.checkNamesRow.goesBy Tryz.prog := by
  show false = (Tryz.prog.goesFrom Rows.checkNamesRow.func || false)
  unfold Program.goesFrom
  rw [names_named, Option.any_some, toldT.goes goB]
  rfl
end Go.Proofs.YtpolhfiikbmplaaGreatDoor

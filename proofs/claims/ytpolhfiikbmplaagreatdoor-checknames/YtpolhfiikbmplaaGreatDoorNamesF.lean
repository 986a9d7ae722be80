/-
The closed facts of the row of CheckNames, together.
-/
import Derived.Test.YtpolhfiikbmplaaGreatDoorFactA
import Derived.Test.YtpolhfiikbmplaaGreatDoorFactD
import Derived.Test.YtpolhfiikbmplaaGreatDoorFactE
namespace Go.Proofs.YtpolhfiikbmplaaGreatDoor
open Go
theorem andB {a b : Bool} (h : a = true) (k : b = true) : (a && b) = true := by rw [h, k]; rfl
set_option maxRecDepth 100000 in
theorem names_closed : joinedFacts Tryz.prog 4 Tryz.f4 Rows.checkNamesSpec Rows.checkNamesRow = true := by
  unfold joinedFacts
  exact andB (andB (andB (andB (andB (andB (andB (andB (andB (andB (andB (andB (andB (andB (andB (andB (andB (andB (andB (andB (andB (andB (andB (andB (andB (andB (andB (andB (andB (andB (andB (fact1) fact2) fact3) fact4) fact5) fact6) fact7) fact8) fact9) fact10) fact11) fact12) fact13) fact14) fact15) fact16) fact17) fact18) fact19) fact20) fact21) fact22) fact23) fact24) fact25) fact26) fact27) fact28) fact29) fact30) fact31) fact32
end Go.Proofs.YtpolhfiikbmplaaGreatDoor

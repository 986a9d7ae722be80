/-
CheckNames: pairs of kinds of arguments, by the evaluator's runs: the first half.
-/
import Derived.Test.YtpolhfiikbmplaaGreatDoorNamesR1
namespace Go.Ev
open Go.Proofs
def rowOk (E : Env) (r : Ky) : Bool := allB (fun s => isTrueR (evCall E 100 4 [r.av, s.av] .empty)) textKs
theorem names_run1 : allB (rowOk envN) ((ruleKs.drop 0).take 3) = true := by kernel_rfl
theorem names_run2 : allB (rowOk envN) ((ruleKs.drop 3).take 3) = true := by kernel_rfl
theorem names_run3 : allB (rowOk envN) ((ruleKs.drop 6).take 3) = true := by kernel_rfl
theorem names_run4 : allB (rowOk envN) ((ruleKs.drop 9).take 3) = true := by kernel_rfl
end Go.Ev

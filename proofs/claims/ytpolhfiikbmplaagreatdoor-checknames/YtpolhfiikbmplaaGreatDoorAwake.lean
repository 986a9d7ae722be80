/-
awake says true: by the evaluator's run.
-/
import Derived.Test.YtpolhfiikbmplaaGreatDoorAwakeB
namespace Go.Ev
open Go.Proofs
theorem envC_ok : EnvOk Tryz.prog (envW orc2) := envW_ok _ (orc2_ok.env rfl)
def tabW : CallT := [(15, [], .bool true)]
theorem tabW_ok : tabAOk (envW orc2) 1000 tabW = true := by kernel_rfl
theorem awake_ok : OS Tryz.prog (tabA tabW) := OS.tab envC_ok tabW_ok
end Go.Ev

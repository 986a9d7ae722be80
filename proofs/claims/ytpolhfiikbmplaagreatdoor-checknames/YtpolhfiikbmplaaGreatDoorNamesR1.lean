/-
CheckNames: Name and Find by the evaluator's runs.
-/
import Derived.Test.YtpolhfiikbmplaaGreatDoorNamesK
import Derived.Shelf.AbstractIn
import Derived.ProofKit
import Derived.Test.YtpolhfiikbmplaaGreatDoorAwake
namespace Go.Ev
open Go.Proofs
/-! Name, by the runs. -/
theorem nameC_ok : tabKOk (envW fun _ _ => none) 1000 18 rowsName = true := by kernel_rfl
theorem nameR_ok : tabKOk (envW fun _ _ => none) 1000 19 rowsName = true := by kernel_rfl
theorem envNm_ok : EnvOk Tryz.prog (envW (kyF 19 rowsName)) := envW_ok _ ((OS.kyF e0_ok nameR_ok).env rfl)
/-! Find. -/
theorem findC_ok : tabKOk (envW fun _ _ => none) 1000 16 rowsFind = true := by kernel_rfl
theorem findR_ok : tabKOk (envW (kyF 19 rowsName)) 1000 17 rowsFind = true := by kernel_rfl
def orcN : FuncId → List AV → Option AV := orcOr (kyF 16 rowsFind) (orcOr (kyF 17 rowsFind) (orcOr (kyF 18 rowsName) (orcOr (kyF 19 rowsName) (tabA tabW))))
theorem orcN_ok : OS Tryz.prog orcN := (OS.kyF e0_ok findC_ok).or ((OS.kyF envNm_ok findR_ok).or ((OS.kyF e0_ok nameC_ok).or ((OS.kyF e0_ok nameR_ok).or awake_ok)))
noncomputable def envN : Env := envW orcN
theorem envN_ok : EnvOk Tryz.prog envN := envW_ok _ (orcN_ok.env rfl)
end Go.Ev

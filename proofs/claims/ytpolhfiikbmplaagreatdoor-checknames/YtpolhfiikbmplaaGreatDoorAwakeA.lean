/-
awake: the claim is valid: by the evaluator's run. (MADE BY PROGRAM: the table, off a tracing run.)
-/
import Derived.Test.YtpolhfiikbmplaaGreatDoorVarsO
import Derived.Test.YtpolhfiikbmplaaGreatDoorEvM
namespace Go.Ev
open Go.Proofs
theorem e0_ok : EnvOk Tryz.prog (envW fun _ _ => none) := envW_ok _ fun _ _ _ _ _ _ _ _ h => by cases h
noncomputable def orc0 : FuncId → List AV → Option AV := varsO (envW fun _ _ => none) 298 106
theorem orc0_ok : OS Tryz.prog orc0 := varsO_ok e0_ok rfl
theorem envA_ok : EnvOk Tryz.prog (envW orc0) := envW_ok _ (orc0_ok.env rfl)
def tabV : CallT := [(111, [.agg [.int .i64 (5), .int .i64 (0), .bool false, .nils, .nils, .str [], .sl 2 [.int .i64 (9), .int .i64 (2), .bool false, .nils, .nils, .str [], .sl 1 [.int .i64 (2), .int .i64 (0), .bool false, .nils, .nils, .str [120], .nils] (some 1), .int .i64 (1), .int .i64 (0), .bool false, .sl 1 [.int .u32 (1)] none, .nils, .str [], .nils] (some 2), .bool false, .sl 1 [.str [120], .bool false, .nils, .nils, .bool false, .sl 1 [.int .u32 (1)] none, .nils, .bool false, .bool false] (some 1), .nils]], .bool true)]
theorem tabV_ok : tabAOk (envW orc0) 1000 tabV = true := by kernel_rfl
noncomputable def orc1 : FuncId → List AV → Option AV := orcOr (tabA tabV) orc0
theorem orc1_ok : OS Tryz.prog orc1 := (OS.tab envA_ok tabV_ok).or orc0_ok
end Go.Ev

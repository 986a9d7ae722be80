/-
awake: the range of the goal: by the evaluator's run. (MADE BY PROGRAM: the table, off a tracing run.)
-/
import Derived.Test.YtpolhfiikbmplaaGreatDoorAwakeA
namespace Go.Ev
open Go.Proofs
theorem envB_ok : EnvOk Tryz.prog (envW orc1) := envW_ok _ (orc1_ok.env rfl)
def tabR : CallT := [(118, [.ip [.int .i64 (5), .int .i64 (0), .bool false, .nils, .nils, .str [], .sl 2 [.int .i64 (9), .int .i64 (2), .bool false, .nils, .nils, .str [], .sl 1 [.int .i64 (2), .int .i64 (0), .bool false, .nils, .nils, .str [120], .nils] (some 1), .int .i64 (1), .int .i64 (0), .bool false, .sl 1 [.int .u32 (1)] none, .nils, .str [], .nils] (some 2), .bool false, .sl 1 [.str [120], .bool false, .nils, .nils, .bool false, .sl 1 [.int .u32 (1)] none, .nils, .bool false, .bool false] (some 1), .nils, .int .i64 (1), .str [], .str [], .bool false, .nils, .nils, .int .i64 (0), .int .i64 (0), .int .i64 (4), .int .i64 (0), .int .i64 (0), .bool false, .nils, .nils, .str [], .nils, .nils, .str [], .int .i64 (0), .nils, .nils, .int .i64 (0), .int .i64 (0), .bool false, .nils, .nils, .str [], .nils, .bool false, .nils, .nils], .agg [.int .i64 (5), .int .i64 (0), .bool false, .nils, .nils, .str [], .sl 2 [.int .i64 (9), .int .i64 (2), .bool false, .nils, .nils, .str [], .sl 1 [.int .i64 (2), .int .i64 (0), .bool false, .nils, .nils, .str [120], .nils] (some 1), .int .i64 (1), .int .i64 (0), .bool false, .sl 1 [.int .u32 (1)] none, .nils, .str [], .nils] (some 2)]], .agg [.bool false, .sl 1 [.int .u32 (1)] none, .nils, .bool false, .sl 1 [.int .u32 (2)] none, .nils, .bool false, .bool false])]
theorem tabR_ok : tabAOk (envW orc1) 1000 tabR = true := by kernel_rfl
noncomputable def orc2 : FuncId → List AV → Option AV := orcOr (tabA tabR) orc1
theorem orc2_ok : OS Tryz.prog orc2 := (OS.tab envB_ok tabR_ok).or orc1_ok
end Go.Ev

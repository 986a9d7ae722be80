/-
CheckNames: pairs of kinds of arguments, by the evaluator's runs: the second half.
-/
import Derived.Test.YtpolhfiikbmplaaGreatDoorNamesR2
namespace Go.Ev
open Go.Proofs
theorem names_run5 : allB (rowOk envN) ((ruleKs.drop 12).take 3) = true := by kernel_rfl
theorem names_run6 : allB (rowOk envN) ((ruleKs.drop 15).take 3) = true := by kernel_rfl
theorem names_run7 : allB (rowOk envN) ((ruleKs.drop 18).take 3) = true := by kernel_rfl
theorem names_run8 : allB (rowOk envN) ((ruleKs.drop 21).take 2) = true := by kernel_rfl
theorem names_run : ∀ r ∈ ruleKs, rowOk envN r = true := by
  intro r hr
  have e : ruleKs = (ruleKs.drop 0).take 3 ++ ((ruleKs.drop 3).take 3 ++ ((ruleKs.drop 6).take 3 ++ ((ruleKs.drop 9).take 3 ++ ((ruleKs.drop 12).take 3 ++ ((ruleKs.drop 15).take 3 ++ ((ruleKs.drop 18).take 3 ++ ((ruleKs.drop 21).take 2))))))) := by rfl
  rw [e] at hr
  rcases List.mem_append.1 hr with h | hr
  · exact allB_iff.1 names_run1 r h
  rcases List.mem_append.1 hr with h | hr
  · exact allB_iff.1 names_run2 r h
  rcases List.mem_append.1 hr with h | hr
  · exact allB_iff.1 names_run3 r h
  rcases List.mem_append.1 hr with h | hr
  · exact allB_iff.1 names_run4 r h
  rcases List.mem_append.1 hr with h | hr
  · exact allB_iff.1 names_run5 r h
  rcases List.mem_append.1 hr with h | hr
  · exact allB_iff.1 names_run6 r h
  rcases List.mem_append.1 hr with h | hr
  · exact allB_iff.1 names_run7 r h
  exact allB_iff.1 names_run8 r hr
end Go.Ev

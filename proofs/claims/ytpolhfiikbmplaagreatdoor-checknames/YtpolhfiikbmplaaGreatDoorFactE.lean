/-
Closed facts of the row of CheckNames, part E. (MADE BY PROGRAM off the definition of joinedFacts.)
-/
import Derived.Test.YtpolhfiikbmplaaGreatDoorRows
import Derived.JoinedOf
namespace Go.Proofs.YtpolhfiikbmplaaGreatDoor
open Go
theorem fact1 : (fun (_P : Program) (_f : FuncId) (_fn : Func) (s : ChangeSpec) (c : OpenClaim) => c.wf (OpenSpec.ofChange s)) Tryz.prog 4 Tryz.f4 Rows.checkNamesSpec Rows.checkNamesRow = true := by kernel_rfl
theorem fact5 : (fun (P : Program) (_f : FuncId) (_fn : Func) (s : ChangeSpec) (c : OpenClaim) => namedTie P c.named s.vars) Tryz.prog 4 Tryz.f4 Rows.checkNamesSpec Rows.checkNamesRow = true := by kernel_rfl
theorem fact6 : (fun (_P : Program) (_f : FuncId) (_fn : Func) (_s : ChangeSpec) (c : OpenClaim) => (c.stops == [])) Tryz.prog 4 Tryz.f4 Rows.checkNamesSpec Rows.checkNamesRow = true := by kernel_rfl
theorem fact7 : (fun (P : Program) (_f : FuncId) (_fn : Func) (_s : ChangeSpec) (_c : OpenClaim) => (P.stops == [])) Tryz.prog 4 Tryz.f4 Rows.checkNamesSpec Rows.checkNamesRow = true := by kernel_rfl
theorem fact8 : (fun (_P : Program) (_f : FuncId) (_fn : Func) (_s : ChangeSpec) (c : OpenClaim) => (c.knobs == [])) Tryz.prog 4 Tryz.f4 Rows.checkNamesSpec Rows.checkNamesRow = true := by kernel_rfl
theorem fact9 : (fun (P : Program) (_f : FuncId) (_fn : Func) (_s : ChangeSpec) (_c : OpenClaim) => (P.stopKnobs == [])) Tryz.prog 4 Tryz.f4 Rows.checkNamesSpec Rows.checkNamesRow = true := by kernel_rfl
theorem fact19 : (fun (P : Program) (_f : FuncId) (_fn : Func) (s : ChangeSpec) (_c : OpenClaim) => s.vars.all (P.varReadable ·)) Tryz.prog 4 Tryz.f4 Rows.checkNamesSpec Rows.checkNamesRow = true := by kernel_rfl
theorem fact23 : (fun (P : Program) (_f : FuncId) (_fn : Func) (_s : ChangeSpec) (c : OpenClaim) => (c.plainKeys == P.plainKeys)) Tryz.prog 4 Tryz.f4 Rows.checkNamesSpec Rows.checkNamesRow = true := by kernel_rfl
theorem fact24 : (fun (_P : Program) (_f : FuncId) (_fn : Func) (_s : ChangeSpec) (c : OpenClaim) => c.shortTexts.isNone) Tryz.prog 4 Tryz.f4 Rows.checkNamesSpec Rows.checkNamesRow = true := by kernel_rfl
theorem fact25 : (fun (P : Program) (_f : FuncId) (_fn : Func) (_s : ChangeSpec) (_c : OpenClaim) => P.stopsHeard) Tryz.prog 4 Tryz.f4 Rows.checkNamesSpec Rows.checkNamesRow = true := by kernel_rfl
theorem fact26 : (fun (P : Program) (_f : FuncId) (_fn : Func) (_s : ChangeSpec) (_c : OpenClaim) => P.mayEnter) Tryz.prog 4 Tryz.f4 Rows.checkNamesSpec Rows.checkNamesRow = true := by kernel_rfl
theorem fact27 : (fun (P : Program) (_f : FuncId) (_fn : Func) (_s : ChangeSpec) (c : OpenClaim) => (c.lifted == P.liftsFinal)) Tryz.prog 4 Tryz.f4 Rows.checkNamesSpec Rows.checkNamesRow = true := by kernel_rfl
theorem fact28 : (fun (P : Program) (_f : FuncId) (_fn : Func) (_s : ChangeSpec) (c : OpenClaim) => (P.make == some c.make)) Tryz.prog 4 Tryz.f4 Rows.checkNamesSpec Rows.checkNamesRow = true := by kernel_rfl
theorem fact29 : (fun (P : Program) (_f : FuncId) (fn : Func) (_s : ChangeSpec) (c : OpenClaim) => (c.kinds == (if c.domain.isEmpty then [] else fn.params.toList.map fun t => match P.underlying t with | some (.int k) => some k | _ => none))) Tryz.prog 4 Tryz.f4 Rows.checkNamesSpec Rows.checkNamesRow = true := by kernel_rfl
theorem fact30 : (fun (_P : Program) (_f : FuncId) (_fn : Func) (_s : ChangeSpec) (c : OpenClaim) => (c.pinned == c.pinnedBy)) Tryz.prog 4 Tryz.f4 Rows.checkNamesSpec Rows.checkNamesRow = true := by kernel_rfl
theorem fact31 : (fun (P : Program) (_f : FuncId) (fn : Func) (s : ChangeSpec) (c : OpenClaim) => (c.veiled == (fn.params.toList ++ s.plain.varTypes P ++ fn.resultTypes.toList).any (P.veiledRec ·))) Tryz.prog 4 Tryz.f4 Rows.checkNamesSpec Rows.checkNamesRow = true := by kernel_rfl
theorem fact32 : (fun (P : Program) (_f : FuncId) (fn : Func) (s : ChangeSpec) (c : OpenClaim) => c.veiledFits P fn.params.toList (fn.params.toList ++ s.plain.varTypes P ++ fn.resultTypes.toList)) Tryz.prog 4 Tryz.f4 Rows.checkNamesSpec Rows.checkNamesRow = true := by kernel_rfl
end Go.Proofs.YtpolhfiikbmplaaGreatDoor

/-
Closed facts of the row of CheckNames, part D. (MADE BY PROGRAM off the definition of joinedFacts.)
-/
import Derived.Test.YtpolhfiikbmplaaGreatDoorRows
import Derived.JoinedOf
namespace Go.Proofs.YtpolhfiikbmplaaGreatDoor
open Go
theorem fact2 : (fun (P : Program) (_f : FuncId) (_fn : Func) (_s : ChangeSpec) (_c : OpenClaim) => laidOutB P) Tryz.prog 4 Tryz.f4 Rows.checkNamesSpec Rows.checkNamesRow = true := by kernel_rfl
theorem fact3 : (fun (P : Program) (_f : FuncId) (_fn : Func) (_s : ChangeSpec) (_c : OpenClaim) => mapsRowed P) Tryz.prog 4 Tryz.f4 Rows.checkNamesSpec Rows.checkNamesRow = true := by kernel_rfl
theorem fact4 : (fun (P : Program) (_f : FuncId) (fn : Func) (_s : ChangeSpec) (_c : OpenClaim) => fn.params.all (P.readableRec ·)) Tryz.prog 4 Tryz.f4 Rows.checkNamesSpec Rows.checkNamesRow = true := by kernel_rfl
theorem fact14 : (fun (P : Program) (_f : FuncId) (fn : Func) (s : ChangeSpec) (c : OpenClaim) => (c.maps == (fn.params.toList ++ s.plain.varTypes P).any (P.mapsRec ·))) Tryz.prog 4 Tryz.f4 Rows.checkNamesSpec Rows.checkNamesRow = true := by kernel_rfl
theorem fact15 : (fun (P : Program) (_f : FuncId) (fn : Func) (s : ChangeSpec) (c : OpenClaim) => (c.ifaces == (fn.params.toList ++ s.plain.varTypes P).any (P.ifacesRec ·))) Tryz.prog 4 Tryz.f4 Rows.checkNamesSpec Rows.checkNamesRow = true := by kernel_rfl
theorem fact16 : (fun (P : Program) (_f : FuncId) (fn : Func) (_s : ChangeSpec) (c : OpenClaim) => (c.mapsOut == P.mapsAmong fn.resultTypes.toList)) Tryz.prog 4 Tryz.f4 Rows.checkNamesSpec Rows.checkNamesRow = true := by kernel_rfl
theorem fact17 : (fun (P : Program) (_f : FuncId) (fn : Func) (s : ChangeSpec) (c : OpenClaim) => (c.loops == (fn.params.toList ++ s.plain.varTypes P).any (P.loopsFrom ·))) Tryz.prog 4 Tryz.f4 Rows.checkNamesSpec Rows.checkNamesRow = true := by kernel_rfl
theorem fact18 : (fun (P : Program) (_f : FuncId) (fn : Func) (s : ChangeSpec) (c : OpenClaim) => (c.wideKeys == (fn.params.toList ++ s.plain.varTypes P ++ fn.resultTypes.toList).any (P.wideKeysFrom ·))) Tryz.prog 4 Tryz.f4 Rows.checkNamesSpec Rows.checkNamesRow = true := by kernel_rfl
theorem fact20 : (fun (P : Program) (_f : FuncId) (fn : Func) (_s : ChangeSpec) (_c : OpenClaim) => fn.resultTypes.all (fun t => P.readableRec t && decide (t < P.types.size))) Tryz.prog 4 Tryz.f4 Rows.checkNamesSpec Rows.checkNamesRow = true := by kernel_rfl
theorem fact21 : (fun (P : Program) (_f : FuncId) (fn : Func) (_s : ChangeSpec) (c : OpenClaim) => (c.ifacesOut == fn.resultTypes.toList.any (P.ifacesRec ·))) Tryz.prog 4 Tryz.f4 Rows.checkNamesSpec Rows.checkNamesRow = true := by kernel_rfl
theorem fact22 : (fun (P : Program) (_f : FuncId) (fn : Func) (_s : ChangeSpec) (c : OpenClaim) => (c.loopsOut == fn.resultTypes.toList.any (P.loopsFrom ·))) Tryz.prog 4 Tryz.f4 Rows.checkNamesSpec Rows.checkNamesRow = true := by kernel_rfl
end Go.Proofs.YtpolhfiikbmplaaGreatDoor

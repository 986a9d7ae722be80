/-
The closed facts of the row of CheckNames that go over the call graph.
-/
import Derived.Test.YtpolhfiikbmplaaGreatDoorRows
import Derived.Test.YtpolhfiikbmplaaGreatDoorFiT
import Derived.JoinedOf
namespace Go.Ev
open Go.Proofs
def hasAll (t : T FI) (n : Nat) : Bool := allB (fun g => (t.find g).isSome) (List.range n)
theorem hasB : hasAll fiT 665 = true := by kernel_rfl
theorem toldT : Told Tryz.prog fiT where
  all := fiT_all
  has := fun n hn => allB_iff.1 hasB n (List.mem_range.2 (by rw [fiT_size] at hn; exact hn))
noncomputable def closL : List Nat := cvG fiT (fuelG fiT 665) [4] []
theorem clos : Tryz.prog.closure 4 = closL := toldT.closure fiT_size 4
theorem unfB : (closL.any fun g => (fiT.find g).any (·.unf)) = true := by kernel_rfl
theorem unfL : Tryz.prog.unfollowed 4 = true := (toldT.unfollowed clos).trans unfB
theorem ipB : (closL.filterMap fun g => (fiT.find g).bind (·.ip)) = ["internal/abi.NoEscape"] := by kernel_rfl
theorem glB : (((closL.flatMap fun g => match fiT.find g with | some i => i.gl | none => []).eraseDups).filterMap (fun g => (Tryz.prog.globals[g]?).map (·.name)) ++ closL.filterMap fun g => (fiT.find g).bind (·.er)).eraseDups = ["math/bits.deBruijn32tab", "internal/strconv.uint64pow10", "math/bits.deBruijn64tab"] := by kernel_rfl
theorem goB : noneGo fiT = true := by kernel_rfl
end Go.Ev
namespace Go.Proofs.YtpolhfiikbmplaaGreatDoor
open Go Go.Ev
theorem fact10 : (fun (P : Program) (f : FuncId) (_fn : Func) (_s : ChangeSpec) (c : OpenClaim) => (c.inPlace == P.inPlace f)) Tryz.prog 4 Tryz.f4 Rows.checkNamesSpec Rows.checkNamesRow = true := by
  show (Rows.checkNamesRow.inPlace == Tryz.prog.inPlace 4) = true
  rw [toldT.inPlace clos, ipB]
  rfl
theorem fact11 : (fun (P : Program) (f : FuncId) (_fn : Func) (_s : ChangeSpec) (c : OpenClaim) => (c.unfollowed == P.unfollowed f)) Tryz.prog 4 Tryz.f4 Rows.checkNamesSpec Rows.checkNamesRow = true := by
  show (Rows.checkNamesRow.unfollowed == Tryz.prog.unfollowed 4) = true
  rw [unfL]
  rfl
theorem fact12 : (fun (P : Program) (f : FuncId) (_fn : Func) (_s : ChangeSpec) (c : OpenClaim) => (c.recurses == P.recurses f)) Tryz.prog 4 Tryz.f4 Rows.checkNamesSpec Rows.checkNamesRow = true := by
  show (Rows.checkNamesRow.recurses == Tryz.prog.recurses 4) = true
  rw [recurses_of unfL]
  rfl
theorem fact13 : (fun (P : Program) (f : FuncId) (_fn : Func) (_s : ChangeSpec) (c : OpenClaim) => (c.named == P.varsNamed f)) Tryz.prog 4 Tryz.f4 Rows.checkNamesSpec Rows.checkNamesRow = true := by
  show (Rows.checkNamesRow.named == Tryz.prog.varsNamed 4) = true
  rw [(toldT.varsNamed clos).trans glB]
  rfl
end Go.Proofs.YtpolhfiikbmplaaGreatDoor

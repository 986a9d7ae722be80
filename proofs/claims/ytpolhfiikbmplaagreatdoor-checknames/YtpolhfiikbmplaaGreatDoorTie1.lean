import Derived.Test.YtpolhfiikbmplaaGreatDoorRows
import Derived.LaidByTextLater
import Derived.SevenTiedAt
namespace Go.Proofs.YtpolhfiikbmplaaGreatDoor
open Go
theorem tie_w : Tryz.prog.worded (varsWordLater true) = true := by kernel_rfl
theorem tie_w' : Tryz.prog.worded (varsWordLater !true) = false := by kernel_rfl
theorem tie_root : Tryz.prog.worded rootWordLater = true := by kernel_rfl
theorem tie_g : (Tryz.prog.funcNamed "gosem.cut.vars").isSome = true := by kernel_rfl
theorem tie_k : ([("math/bits.deBruijn32tab", Rows.laid_math_bits_deBruijn32tab), ("internal/strconv.uint64pow10", Rows.laid_internal_strconv_uint64pow10), ("math/bits.deBruijn64tab", Rows.laid_math_bits_deBruijn64tab)] : List (String × DataW Unit)).map (fun x => Tryz.prog.kindOfLater x.1) = [.data, .data, .data].map some := by kernel_rfl
end Go.Proofs.YtpolhfiikbmplaaGreatDoor

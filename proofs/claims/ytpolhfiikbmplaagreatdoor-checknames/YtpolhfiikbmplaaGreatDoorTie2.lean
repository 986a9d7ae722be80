import Derived.Test.YtpolhfiikbmplaaGreatDoorRows
import Derived.LaidByTextLater
import Derived.SevenTiedAt
namespace Go.Proofs.YtpolhfiikbmplaaGreatDoor
open Go
theorem tie_own : Tryz.pinned.checked.prog.headLifts.contains "ownunsafe" = false := by kernel_rfl
theorem tie_n : varsNamedLaterB Tryz.prog (varsId Tryz.prog) [("math/bits.deBruijn32tab", Rows.laid_math_bits_deBruijn32tab), ("internal/strconv.uint64pow10", Rows.laid_internal_strconv_uint64pow10), ("math/bits.deBruijn64tab", Rows.laid_math_bits_deBruijn64tab)] = true := by kernel_rfl
end Go.Proofs.YtpolhfiikbmplaaGreatDoor

/-
CheckNames of the law of chapter 7: for every rule number and every text the call returns true, its arguments read as they did, and nothing else in memory has turned. Condition: three tables of Go's library (math/bits.deBruijn32tab, math/bits.deBruijn64tab, internal/strconv.uint64pow10) read as the row lists them; the card ties that to the program's text.
-/
import Derived.Test.YtpolhfiikbmplaaGreatDoorCards
import Derived.Test.YtpolhfiikbmplaaGreatDoorNamesP1
import Derived.Test.YtpolhfiikbmplaaGreatDoorNamesF
import Derived.Test.YtpolhfiikbmplaaGreatDoorNamesG
import Derived.Test.YtpolhfiikbmplaaGreatDoorNamesH
import Derived.Test.YtpolhfiikbmplaaGreatDoorTie1
import Derived.Test.YtpolhfiikbmplaaGreatDoorTie2
import Derived.Test.YtpolhfiikbmplaaGreatDoorTie3
import Derived.Test.YtpolhfiikbmplaaGreatDoorTie4
import Derived.Test.YtpolhfiikbmplaaGreatDoorTie5
import Derived.SevenTiedAt
import Derived.LaidByTextLater
namespace Go.Proofs.YtpolhfiikbmplaaGreatDoor
open Go.ChangeShapes Go.WideShapes Go.ChangeAt Go.RowKit Go.Ev
theorem names_holds : Rows.CheckNamesSaid :=
  OpenClaim.holds_of_wide 4 Tryz.f4 rfl rfl rfl rfl rfl rfl rfl ⟨rfl, rfl, rfl, rfl, rfl⟩ rfl rfl rfl rfl rfl names_named Tryz.func4 names_closed names_inst names_wrap
    (fun os started H enc _ => names_lifted os started H enc)
/-! ### the tie, its facts each by itself, and the card -/
theorem tie' : Tryz.prog.laidByTextLater [("math/bits.deBruijn32tab", Rows.laid_math_bits_deBruijn32tab), ("internal/strconv.uint64pow10", Rows.laid_internal_strconv_uint64pow10), ("math/bits.deBruijn64tab", Rows.laid_math_bits_deBruijn64tab)] [.data, .data, .data] true :=
  Program.laidByTextLater_by_run 400 8 tie_w tie_w' tie_root tie_k tie_g tie_n tie_d tie_1 tie_2
theorem names_row_tie' : Rows.checkNamesRow.laidByTextAt .later Tryz.pinned [.data, .data, .data] true :=
  OpenClaim.laidByTextAt_later rfl rfl tie' tie_own
theorem names_card_holds : Rows.CheckNamesCardSaid :=
  Claim7.holds_tied_plain_at .later [] [.data, .data, .data] true (true, "fa78dcb5094f19b2ef7e52e59ff80761c5718f4a0f6ef4e28623156660ac503b") true
    names_holds (fun _ h => by cases h) names_wf (fun _ h => by cases h) names_row_tie' rfl ⟨rfl, rfl⟩ names_main rfl
    (fun f fn hf hfn => by
      obtain rfl : f = 4 := (Option.some.inj (names_named.symm.trans hf)).symm
      obtain rfl : fn = Tryz.f4 := (Option.some.inj (Tryz.func4.symm.trans hfn)).symm
      exact ⟨names_looks, fun j t ht => by
        rw [Tryz.params4] at ht
        have h3 : t = 3 ∨ t = 9 := by
          rcases j with _ | _ | j
          · left; simpa using ht.symm
          · right; simpa using ht.symm
          · simp at ht
        rcases h3 with rfl | rfl
        · exact names_want3
        · exact names_want9⟩)
    names_goes
#print axioms names_card_holds
end Go.Proofs.YtpolhfiikbmplaaGreatDoor

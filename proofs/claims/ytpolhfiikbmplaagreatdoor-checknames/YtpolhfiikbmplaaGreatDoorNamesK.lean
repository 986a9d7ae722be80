/-
The names of the rules: what the evaluator has to show. (MADE BY PROGRAM.)
-/
import Derived.Test.YtpolhfiikbmplaaGreatDoorTab
import Derived.Test.YtpolhfiikbmplaaGreatDoorEvM
namespace Go.Ev
def nms : List (List UInt8) := [
  [114, 97, 110, 103, 101],
  [109, 101, 97, 110],
  [116, 97, 121, 108, 111, 114],
  [108, 105, 110, 101, 97, 114],
  [101, 109, 112, 116, 121],
  [99, 117, 116],
  [114, 105, 115, 101],
  [102, 97, 108, 108],
  [99, 97, 118, 101],
  [110, 97, 114, 114, 111, 119],
  [98, 114, 97, 110, 99, 104],
  [116, 117, 114, 110],
  [115, 119, 97, 112],
  [122, 101, 114, 111],
  [108, 101, 97, 100],
  [115, 97, 109, 101],
  [118, 105, 97],
  [115, 99, 97, 108, 101],
  [97, 100, 100],
  [108, 101, 109, 109, 97],
  [102, 97, 114]]
/-- Find: every name, the empty text, and any text that is no name. -/
def rowsFind : List (Ky × Rz) := [(.ne nms, .find 0), (.s [], .find 0),
  (.s [114, 97, 110, 103, 101], .find 1),
  (.s [109, 101, 97, 110], .find 2),
  (.s [116, 97, 121, 108, 111, 114], .find 3),
  (.s [108, 105, 110, 101, 97, 114], .find 4),
  (.s [101, 109, 112, 116, 121], .find 5),
  (.s [99, 117, 116], .find 6),
  (.s [114, 105, 115, 101], .find 7),
  (.s [102, 97, 108, 108], .find 8),
  (.s [99, 97, 118, 101], .find 9),
  (.s [110, 97, 114, 114, 111, 119], .find 10),
  (.s [98, 114, 97, 110, 99, 104], .find 11),
  (.s [116, 117, 114, 110], .find 12),
  (.s [115, 119, 97, 112], .find 13),
  (.s [122, 101, 114, 111], .find 14),
  (.s [108, 101, 97, 100], .find 15),
  (.s [115, 97, 109, 101], .find 16),
  (.s [118, 105, 97], .find 17),
  (.s [115, 99, 97, 108, 101], .find 18),
  (.s [97, 100, 100], .find 19),
  (.s [108, 101, 109, 109, 97], .find 20),
  (.s [102, 97, 114], .find 21)]
/-- Name: every rule, and what is no rule. -/
def rowsName : List (Ky × Rz) := [(.iv (-9223372036854775808) 0, .name []), (.iv 22 9223372036854775807, .name []),
  (.n 1, .name [114, 97, 110, 103, 101]),
  (.n 2, .name [109, 101, 97, 110]),
  (.n 3, .name [116, 97, 121, 108, 111, 114]),
  (.n 4, .name [108, 105, 110, 101, 97, 114]),
  (.n 5, .name [101, 109, 112, 116, 121]),
  (.n 6, .name [99, 117, 116]),
  (.n 7, .name [114, 105, 115, 101]),
  (.n 8, .name [102, 97, 108, 108]),
  (.n 9, .name [99, 97, 118, 101]),
  (.n 10, .name [110, 97, 114, 114, 111, 119]),
  (.n 11, .name [98, 114, 97, 110, 99, 104]),
  (.n 12, .name [116, 117, 114, 110]),
  (.n 13, .name [115, 119, 97, 112]),
  (.n 14, .name [122, 101, 114, 111]),
  (.n 15, .name [108, 101, 97, 100]),
  (.n 16, .name [115, 97, 109, 101]),
  (.n 17, .name [118, 105, 97]),
  (.n 18, .name [115, 99, 97, 108, 101]),
  (.n 19, .name [97, 100, 100]),
  (.n 20, .name [108, 101, 109, 109, 97]),
  (.n 21, .name [102, 97, 114])]
def ruleKs : List Ky := [.iv (-9223372036854775808) 0, .iv 22 9223372036854775807, .n 1, .n 2, .n 3, .n 4, .n 5, .n 6, .n 7, .n 8, .n 9, .n 10, .n 11, .n 12, .n 13, .n 14, .n 15, .n 16, .n 17, .n 18, .n 19, .n 20, .n 21]
def textKs : List Ky := [.ne nms,
  .s [114, 97, 110, 103, 101],
  .s [109, 101, 97, 110],
  .s [116, 97, 121, 108, 111, 114],
  .s [108, 105, 110, 101, 97, 114],
  .s [101, 109, 112, 116, 121],
  .s [99, 117, 116],
  .s [114, 105, 115, 101],
  .s [102, 97, 108, 108],
  .s [99, 97, 118, 101],
  .s [110, 97, 114, 114, 111, 119],
  .s [98, 114, 97, 110, 99, 104],
  .s [116, 117, 114, 110],
  .s [115, 119, 97, 112],
  .s [122, 101, 114, 111],
  .s [108, 101, 97, 100],
  .s [115, 97, 109, 101],
  .s [118, 105, 97],
  .s [115, 99, 97, 108, 101],
  .s [97, 100, 100],
  .s [108, 101, 109, 109, 97],
  .s [102, 97, 114]]
/-- Every rule number is of a kind. -/
theorem ruleKs_all {w : World} {bad : Nat → Prop} {ρ : Nat → Nat} {i : Int} (h1 : -9223372036854775808 ≤ i) (h2 : i ≤ 9223372036854775807) : ∃ k ∈ ruleKs, VR w bad ρ 0 k.av (.int .i64 i) := by
  by_cases hlo : i ≤ 0
  · exact ⟨.iv (-9223372036854775808) 0, by simp [ruleKs], .siv _ _ _ _ h1 hlo⟩
  by_cases hhi : 22 ≤ i
  · exact ⟨.iv 22 9223372036854775807, by simp [ruleKs], .siv _ _ _ _ hhi h2⟩
  · refine ⟨.n i, ?_, .int _ _⟩
    have : i = 1 ∨ i = 2 ∨ i = 3 ∨ i = 4 ∨ i = 5 ∨ i = 6 ∨ i = 7 ∨ i = 8 ∨ i = 9 ∨ i = 10 ∨ i = 11 ∨ i = 12 ∨ i = 13 ∨ i = 14 ∨ i = 15 ∨ i = 16 ∨ i = 17 ∨ i = 18 ∨ i = 19 ∨ i = 20 ∨ i = 21 := by omega
    rcases this with rfl | rfl | rfl | rfl | rfl | rfl | rfl | rfl | rfl | rfl | rfl | rfl | rfl | rfl | rfl | rfl | rfl | rfl | rfl | rfl | rfl <;> simp [ruleKs]
/-- Every text is of a kind. -/
theorem textKs_all {w : World} {bad : Nat → Prop} {ρ : Nat → Nat} (s : ByteArray) : ∃ k ∈ textKs, VR w bad ρ 0 k.av (.string s) := by
  by_cases h : s.data.toList ∈ nms
  · refine ⟨.s s.data.toList, ?_, .str s⟩
    have e : textKs = .ne nms :: nms.map .s := rfl
    rw [e]
    exact List.mem_cons_of_mem _ (List.mem_map.2 ⟨_, h, rfl⟩)
  · exact ⟨.ne nms, List.mem_cons_self, .sstr _ _ fun t ht e => h (e ▸ ht)⟩
end Go.Ev

/-
The step of the row: CheckNames of the law of chapter 7: for every rule number and every text the call returns true, its arguments read as they did, and nothing else in memory has turned. Condition: the three tables of Go's library that the row lists read as the row says.
-/
import Derived.Test.YtpolhfiikbmplaaGreatDoorRows
import Derived.ChangeMaps5
import Derived.Test.YtpolhfiikbmplaaGreatDoorNamesR
import Derived.ProofKit
import Derived.LaidLaws
import Derived.Handed
import Derived.Lib.LaidTab
import Derived.Stop.LaidErr
namespace Go.Proofs.YtpolhfiikbmplaaGreatDoor
open Go.ChangeShapes Go.WideShapes Go.ChangeAt Go.RowKit Go.Ev
theorem own : ownKnob Tryz.prog.godebug = none := by kernel_rfl
theorem laidOut : laidOutB Tryz.prog = true := by kernel_rfl
def tab32 : List Int := [0, 1, 28, 2, 29, 14, 24, 3, 30, 22, 20, 15, 25, 17, 4, 8, 31, 27, 13, 23, 21, 19, 16, 7, 26, 12, 18, 6, 11, 5, 10, 9]
def tab64 : List Int := [0, 1, 56, 2, 57, 49, 28, 3, 61, 58, 42, 50, 38, 29, 17, 4, 62, 47, 59, 36, 45, 43, 51, 22, 53, 39, 33, 30, 24, 18, 12, 5,
    63, 55, 48, 27, 60, 41, 37, 16, 46, 35, 44, 21, 52, 32, 23, 11, 54, 26, 40, 15, 34, 20, 31, 10, 25, 14, 19, 9, 13, 8, 7, 6]
def tab10 : List Int := pow10s 20 1
theorem g32 : Tryz.prog.globalNamed "math/bits.deBruijn32tab" = some 0 := by kernel_rfl
theorem g64 : Tryz.prog.globalNamed "math/bits.deBruijn64tab" = some 2 := by kernel_rfl
theorem g10 : Tryz.prog.globalNamed "internal/strconv.uint64pow10" = some 1 := by kernel_rfl
theorem gt32 : (Tryz.prog.globals[0]?).map (·.type) = some 501 := by kernel_rfl
theorem gt64 : (Tryz.prog.globals[2]?).map (·.type) = some 610 := by kernel_rfl
theorem gt10 : (Tryz.prog.globals[1]?).map (·.type) = some 608 := by kernel_rfl
/-- The three tables in one world. -/
structure Tabs (W : World) : Prop where
  t32 : Lib.TabIs Tryz.prog W "math/bits.deBruijn32tab" .u8 tab32
  t10 : Lib.TabIs Tryz.prog W "internal/strconv.uint64pow10" .u64 tab10
  t64 : Lib.TabIs Tryz.prog W "math/bits.deBruijn64tab" .u8 tab64
theorem tabs_of {W : World} (h : laidMet Tryz.prog [("math/bits.deBruijn32tab", Rows.laid_math_bits_deBruijn32tab), ("internal/strconv.uint64pow10", Rows.laid_internal_strconv_uint64pow10), ("math/bits.deBruijn64tab", Rows.laid_math_bits_deBruijn64tab)] W) : Tabs W where
  t32 := Lib.tabIs_of_head (zs := tab32) g32 gt32 Tryz.underlying501 Tryz.underlying5 (by as_aux_lemma => kernel_rfl) (by as_aux_lemma => kernel_rfl) h
  t10 := Lib.tabIs_of_head (zs := tab10) g10 gt10 Tryz.underlying608 Tryz.underlying139 (by as_aux_lemma => kernel_rfl) (by as_aux_lemma => kernel_rfl) h.tail
  t64 := Lib.tabIs_of_head (zs := tab64) g64 gt64 Tryz.underlying610 Tryz.underlying5 (by as_aux_lemma => kernel_rfl) (by as_aux_lemma => kernel_rfl) h.tail.tail
theorem im_of {W : World} {name : String} {k : IntKind} {zs : List Int} {g : Nat} (h : Lib.TabIs Tryz.prog W name k zs) (hg : Tryz.prog.globalNamed name = some g) : IM W (fun _ => False) id g 0 (zs.map fun z => AV.int k z) :=
  IM.mk id fun i v hv => by
    rw [List.getElem?_map, Option.map_eq_some_iff] at hv
    obtain ⟨z, hz, rfl⟩ := hv
    have hi : i < zs.length := (List.getElem?_eq_some_iff.1 hz).1
    refine ⟨.int k z, ?_, .int _ _⟩
    have := h.cell hg i hi
    rw [Nat.zero_add, this, List.getD_eq_getElem?_getD, hz]
    rfl
theorem gl_of {W : World} (h : Tabs W) : Gl W (fun _ => False) id := by
  intro g cs hg
  simp only [gget, gtab, glook] at hg
  split at hg
  · rename_i e
    simp only [Option.some.injEq] at hg
    subst hg
    have e' := Nat.eq_of_beq_eq_true e
    subst e'
    exact im_of h.t10 g10
  split at hg
  · rename_i e
    simp only [Option.some.injEq] at hg
    subst hg
    have e' := Nat.eq_of_beq_eq_true e
    subst e'
    exact im_of h.t32 g32
  split at hg
  · rename_i e
    simp only [Option.some.injEq] at hg
    subst hg
    have e' := Nat.eq_of_beq_eq_true e
    subst e'
    exact im_of h.t64 g64
  · cases hg
/-- The settled world, but the tables hold what they hold. -/
noncomputable def layTab (k : IntKind) (zs : List Int) : Obj → Obj
  | .cells _ t frozen => .cells (zs.map fun z => Value.int k z).toArray t frozen
  | o => o
noncomputable def laidWorld (os : Os) : World :=
  let w0 := World.holding Tryz.prog os ⟨#[], #[], []⟩
  { w0 with heap := ((w0.heap.modify 0 (layTab .u8 tab32)).modify 1 (layTab .u64 tab10)).modify 2 (layTab .u8 tab64) }
theorem laid_met (os : Os) (args : Array Value) : laidMet Tryz.prog Rows.checkNamesRow.laid ((laidWorld os).forCall (fun _ _ => 0) ⟨#[], args, []⟩).memory :=
  laidMet_of_run' 8 (by as_aux_lemma => kernel_rfl) (by as_aux_lemma => kernel_rfl)
set_option maxRecDepth 100000 in
theorem names_lifted (os : Os) (started : os.Started) (H : Type) (enc : TypeId × Value → H) :
    ReturnsInHanded {} Tryz.checked os 4 .any (fun w args => (Rows.checkNamesSpec.pre enc Tryz.prog Tryz.f4 Rows.checkNamesRow.domain false w args ∧ laidMet Tryz.prog Rows.checkNamesRow.laid w) ∧ sizedMet enc Tryz.prog Tryz.f4 (OpenSpec.ofChange Rows.checkNamesSpec) false w args)
      (Rows.checkNamesSpec.post enc Tryz.prog Tryz.f4 false true false false) := by
  refine returnsInHanded_of_change_and (C := Tryz.checked) (X := fun w _ => laidMet Tryz.prog Rows.checkNamesRow.laid w) (fun _ _ _ hh h => h.of_heap hh) own started (by as_aux_lemma => kernel_rfl) Tryz.func4
    (ChangeSpec.witness_at (enc := enc) (C := Tryz.checked) (os := os) (X := fun w _ => laidMet Tryz.prog Rows.checkNamesRow.laid w) false (laidWorld os) #[.int .i64 0, .string ByteArray.empty] 8 rfl (by as_aux_lemma => kernel_rfl) (by as_aux_lemma => kernel_rfl) (by as_aux_lemma => kernel_rfl) (by as_aux_lemma => kernel_rfl) (by as_aux_lemma => kernel_rfl) (laid_met os _)) ?_
  intro W base args ds gs before hval0 hW hcnd0 _ hL _
  clear hcnd0
  have hval : ∀ (j : Nat) t v, Tryz.f4.params[j]? = some t → args[j]? = some v → Value.okWide Tryz.prog W .any base t v := hval0
  have hW' := hW
  obtain ⟨p, q, hA0, hV, rfl, hfz, hnd⟩ := hW
  have hA : DataW.TrodAll enc Tryz.prog W 0 (fun _ => true) true Tryz.f4.params.toList args.toList ds p := hA0
  rw [Tryz.params4] at hA hval
  obtain ⟨v0, v1, d0, d1, p0, p1, rfl, rfl, rfl, h0, h1⟩ := trodAll_two hA
  obtain ⟨rfl, rfl⟩ := trodVars_none hV
  obtain ⟨i, rfl, rfl, rfl, wi⟩ := open_int Tryz.underlying3 (hval 0 3 v0 rfl rfl) h0
  obtain ⟨s, rfl, rfl, rfl, ws⟩ := ChangeMaps.open_string Tryz.underlying9 (hval 1 9 v1 rfl rfl) h1
  clear hA0 hval0
  refine (names_calls W (gl_of (tabs_of hL)) i wi s).mono fun e W' ⟨he, hb⟩ => ?_
  subst he
  exact ⟨_, rfl, _, _, _, [], [], [], hW', trodAll_mk1 (shut_bool Tryz.underlying4 _), trodAll_mk2 (shut_int Tryz.underlying3 wi) (ChangeMaps.shut_string Tryz.underlying9 ws), rfl, hb.frame _, fun h => by cases h⟩
end Go.Proofs.YtpolhfiikbmplaaGreatDoor

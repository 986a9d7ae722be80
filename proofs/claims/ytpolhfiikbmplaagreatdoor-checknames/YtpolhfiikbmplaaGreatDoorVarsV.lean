/-
expr.Vars, where every variable of the expression bears one name.
-/
import Derived.Test.YtpolhfiikbmplaaGreatDoorVars
import Derived.Test.YtpolhfiikbmplaaGreatDoorShelf
import Derived.Maps.OwnIn
import Derived.Shelf.AbstractIn
import Derived.Shelf.SlIter.Nil
import Derived.Shelf.SortM.Plain
import Derived.Shelf.SortM.SortNone
import Derived.Ground.GgzProg
import Derived.Ground.SlgmProg
namespace Go.Proofs
open Go.RowKit Go.Maps Go.Shelf
attribute [local go_sem] Oper.semAt_some
theorem vsortsA (m : Nat) : AnyZ.SortsIn Tryz.prog Tryz.vsortedA_ren Fence.wide m :=
  ⟨fun blk off cap ss W hH hblk hsz => callsIn_wide.2 (AnyM.slices_Sort_string Tryz.vsortA blk off cap ss W hH hblk hsz),
   fun p cap W => callsIn_wide.2 (AnyM.slices_Sort_string_none Tryz.vsortA p cap W)⟩
theorem KpC.b {w : World} (W : World) (l : Nat) (o o' : Obj) (_ : w.heap.size ≤ l) (h : W.heap[l]? = some o) (ho : o.isCells = false) (_ : o.isWalk = false) : KpC W (W.putObj l o') :=
  ⟨by simp, fun _ _ hv => cell_kept hv (grownBy_putObj' W l o') (fun r e => by cases e; exact ⟨o, h, ho⟩)⟩
/-- What a node says. -/
def keyV (v : Value) : Int × List UInt8 := match v with
  | .agg cs => match cs.toList with
    | [.int _ o, _, _, _, _, .string s, _] => (o, s.data.toList)
    | _ => (0, [])
  | _ => (0, [])
/-- A variable bears the name nm. -/
def OneName (nm : List UInt8) (y : Value) : Prop := (keyV y).1 = 2 → (keyV y).2 = nm
/-- The set of the names that have come. -/
def varD (nm : List UInt8) (pre : List (NodeV (OneName nm))) : DataW Unit := if pre.any (fun x => (keyV x.1).1 == 2) then .map [(.string nm, .lit (.bool true))] else .map []
theorem varD_other {nm : List UInt8} {pre : List (NodeV (OneName nm))} {x : NodeV (OneName nm)} (h : (keyV x.1).1 ≠ 2) : varD nm (pre ++ [x]) = varD nm pre := by
  have e : (pre ++ [x]).any (fun x => (keyV x.1).1 == 2) = pre.any (fun x => (keyV x.1).1 == 2) := by
    rw [List.any_append]
    simp [h]
  simp only [varD, e]
theorem varD_var {nm : List UInt8} {pre : List (NodeV (OneName nm))} {x : NodeV (OneName nm)} (h : (keyV x.1).1 = 2) : varD nm (pre ++ [x]) = (varD nm pre).put (.string nm) (.lit (.bool true)) := by
  have e : (pre ++ [x]).any (fun x => (keyV x.1).1 == 2) = true := by simp [List.any_append, h]
  simp only [varD, e, if_true]
  split <;> simp [DataW.put, DataW.insert, Lit.sameKey]
/-- A box of a node. -/
def NBox (W : World) (B : Nat) (cs : Array Value) : Prop := W.heap[B]? = some (.cells cs 27 (0, 0))
theorem nbox_own (B : Nat) (cs : Array Value) : Own (fun (_ : Unit) W => NBox W B cs) := fun _ X Y row hs hg hr => by
  have hb := hg.block B (Array.getElem?_eq_some_iff.1 hs).1 (fun e => by
    obtain ⟨o, ho, hc⟩ := hr B e.symm
    rw [show X.heap[B]? = _ from hs] at ho
    cases ho
    cases hc)
  exact hb.trans hs
theorem NBox.cell {W : World} {B : Nat} {cs : Array Value} (h : NBox W B cs) (i : Nat) : W.cell? ⟨B, i, none⟩ = cs[i]? := by simp [World.cell?, show W.heap[B]? = _ from h]
theorem ownsMap_mono {w : World} {P : Program} {k : TypeId} {R : Value → Option (DataW Unit × List MemPlace)} {b n m : Nat} {D : DataW Unit} (h : w.ownsMap P k R b n D) (hnm : n ≤ m) : w.ownsMap P k R b m D := by
  obtain ⟨es, c, h1, h2, h3, h4⟩ := h
  exact ⟨es, c, h1, h2, Nat.le_trans h3 hnm, h4⟩
set_option maxRecDepth 100000 in
set_option maxHeartbeats 4000000 in
theorem Vars_in (d : Nat) (o g : Int) (sg : Bool) (a3 : Option Addr) (l3 k3 : Nat) (a4 : Option Addr) (l4 k4 : Nat) (s6 : ByteArray) (a6 : Option Addr) (l6 k6 : Nat) (nm : List UInt8) (hnm : nm.length ≤ 1000) (ns : List (NodeV (OneName nm))) (hlen : ns.length ≤ 1000)
    (hex : ns.any (fun x => (keyV x.1).1 == 2) = true) (w : World)
    (hT : IsT w d (.agg #[.int .i64 o, .int .i64 g, .bool sg, .slice a3 l3 k3, .slice a4 l4 k4, .string s6, .slice a6 l6 k6]) (ns.map (·.1)))
    (hVal : ∀ W, w.grownBy W none → CallsIn Fence.wide 5 Tryz.prog 106 #[.agg #[.int .i64 o, .int .i64 g, .bool sg, .slice a3 l3 k3, .slice a4 l4 k4, .string s6, .slice a6 l6 k6]] W fun e W' => e = .returned (.bool true) ∧ W.grownBy W' none) :
    CallsIn Fence.wide 6 Tryz.prog 298 #[.agg #[.int .i64 o, .int .i64 g, .bool sg, .slice a3 l3 k3, .slice a4 l4 k4, .string s6, .slice a6 l6 k6]] w fun e W' =>
      ∃ (b off c : Nat) (s : ByteArray), e = .returned (.tuple #[.slice (some ⟨b, off, none⟩) 1 c, .int .i64 0]) ∧ s.data.toList = nm ∧ 1 ≤ c ∧ w.heap.size ≤ b ∧ W'.cell? ⟨b, off, none⟩ = some (.string s) ∧ Below w.heap.size w W' := by
  have h1 : 1 ≤ 6 := by omega
  have hmm := @run_makeMap Tryz.prog
  have hf1 : Fence.wide.fn 106 := trivial
  have hf2 : Fence.wide.fn 330 := trivial
  have hf3 : Fence.wide.fn 388 := trivial
  have hf4 : Fence.wide.fn 387 := trivial
  have ga : w.grownBy (w.alloc (.cells #[.int .i64 o, .int .i64 g, .bool sg, .slice a3 l3 k3, .slice a4 l4 k4, .string s6, .slice a6 l6 k6] 27)) none := World.grownBy_alloc _ _ none
  have hV1 := (hVal _ ga).mono (R' := fun e W' => e = .returned (.bool true) ∧ w.grownBy W' none ∧ NBox W' w.heap.size #[.int .i64 o, .int .i64 g, .bool sg, .slice a3 l3 k3, .slice a4 l4 k4, .string s6, .slice a6 l6 k6] ∧
      ((W'.alloc (.map #[] 0)).alloc (.cells #[.map (some W'.heap.size)] 424)).cell? ⟨w.heap.size, 0, none⟩ = some (.int .i64 o) ∧ ((W'.alloc (.map #[] 0)).alloc (.cells #[.map (some W'.heap.size)] 424)).cell? ⟨w.heap.size, 1, none⟩ = some (.int .i64 g) ∧ ((W'.alloc (.map #[] 0)).alloc (.cells #[.map (some W'.heap.size)] 424)).cell? ⟨w.heap.size, 2, none⟩ = some (.bool sg) ∧ ((W'.alloc (.map #[] 0)).alloc (.cells #[.map (some W'.heap.size)] 424)).cell? ⟨w.heap.size, 3, none⟩ = some (.slice a3 l3 k3) ∧
      ((W'.alloc (.map #[] 0)).alloc (.cells #[.map (some W'.heap.size)] 424)).cell? ⟨w.heap.size, 4, none⟩ = some (.slice a4 l4 k4) ∧ ((W'.alloc (.map #[] 0)).alloc (.cells #[.map (some W'.heap.size)] 424)).cell? ⟨w.heap.size, 5, none⟩ = some (.string s6) ∧ ((W'.alloc (.map #[] 0)).alloc (.cells #[.map (some W'.heap.size)] 424)).cell? ⟨w.heap.size, 6, none⟩ = some (.slice a6 l6 k6)) (fun e W' ⟨e1, e2⟩ => by
    have hb : NBox W' w.heap.size #[.int .i64 o, .int .i64 g, .bool sg, .slice a3 l3 k3, .slice a4 l4 k4, .string s6, .slice a6 l6 k6] := (e2.block w.heap.size (by simp) (by simp)).trans (World.alloc_heap_new w _)
    have hb2 : NBox ((W'.alloc (.map #[] 0)).alloc (.cells #[.map (some W'.heap.size)] 424)) w.heap.size #[.int .i64 o, .int .i64 g, .bool sg, .slice a3 l3 k3, .slice a4 l4 k4, .string s6, .slice a6 l6 k6] := by
      have hlt : w.heap.size < W'.heap.size := (Array.getElem?_eq_some_iff.1 hb).1
      exact ((grown_trans (World.grownBy_alloc W' (.map #[] 0) none) (World.grownBy_alloc _ (.cells #[.map (some W'.heap.size)] 424) none)).block _ hlt (by simp)).trans hb
    exact ⟨e1, grown_trans ga e2, hb, hb2.cell 0, hb2.cell 1, hb2.cell 2, hb2.cell 3, hb2.cell 4, hb2.cell 5, hb2.cell 6⟩)
  clear hVal
  refine callsIn_of_wp_marks Tryz.func298 rfl trivial ?_ rfl
  simp only [Tryz.ntmps298, List.size_toArray, List.length_cons, List.length_nil, Nat.reduceAdd, Nat.reduceSub, Array.replicate_succ, Array.replicate_zero, List.push_toArray, List.append_toArray, List.nil_append, List.cons_append]
  gi_wp2_with (first
    | (gi_at_call 106; refine hV1.mono ?_; clear hV1; rintro e w1 ⟨rfl, hg1, hbE, q0, q1, q2, q3, q4, q5, q6⟩)
    | (gi_at_call 330; refine (nodes_in Fence.wide 5 trivial rfl o g sg a3 l3 k3 a4 l4 k4 s6 a6 l6 k6 _).mono ?_; rintro e w' ⟨rfl, rfl⟩))
  have hs1 : w.heap.size ≤ w1.heap.size := hg1.size
  have hB1 : Below w.heap.size w w1 := ⟨hg1.os, hg1.tape, hg1.output, hg1.size, fun k hk => hg1.block k hk (by simp)⟩
  have hT1 := hT.keep (KpC.grown hg1)
  have hm0 := ((World.ownsMap_made w1 Tryz.prog 9 (plainElem (H := Unit) Tryz.prog 4)).alloc (.cells #[.map (some w1.heap.size)] 424)).alloc (.cells #[.int .i64 o, .int .i64 g, .bool sg, .slice a3 l3 k3, .slice a4 l4 k4, .string s6, .slice a6 l6 k6] 27)
  have bS := (Boxed.new (w1.alloc (.map #[] 0)) 424 (.map (some w1.heap.size))).alloc (.cells #[.int .i64 o, .int .i64 g, .bool sg, .slice a3 l3 k3, .slice a4 l4 k4, .string s6, .slice a6 l6 k6] 27)
  have bN : NBox (((w1.alloc (.map #[] 0)).alloc (.cells #[.map (some w1.heap.size)] 424)).alloc (.cells #[.int .i64 o, .int .i64 g, .bool sg, .slice a3 l3 k3, .slice a4 l4 k4, .string s6, .slice a6 l6 k6] 27)) (w1.heap.size + 1 + 1) #[.int .i64 o, .int .i64 g, .bool sg, .slice a3 l3 k3, .slice a4 l4 k4, .string s6, .slice a6 l6 k6] := by
    have := World.alloc_heap_new ((w1.alloc (.map #[] 0)).alloc (.cells #[.map (some w1.heap.size)] 424)) (.cells #[.int .i64 o, .int .i64 g, .bool sg, .slice a3 l3 k3, .slice a4 l4 k4, .string s6, .slice a6 l6 k6] 27 (0, 0))
    simp only [World.size_alloc] at this
    exact this
  simp only [World.size_alloc] at bS
  have hB0 : Below w.heap.size w (((w1.alloc (.map #[] 0)).alloc (.cells #[.map (some w1.heap.size)] 424)).alloc (.cells #[.int .i64 o, .int .i64 g, .bool sg, .slice a3 l3 k3, .slice a4 l4 k4, .string s6, .slice a6 l6 k6] 27)) := ((hB1.alloc hs1 _).alloc (by simp; omega) _).alloc (by simp; omega) _
  have hT0 : IsT (((w1.alloc (.map #[] 0)).alloc (.cells #[.map (some w1.heap.size)] 424)).alloc (.cells #[.int .i64 o, .int .i64 g, .bool sg, .slice a3 l3 k3, .slice a4 l4 k4, .string s6, .slice a6 l6 k6] 27)) d _ (ns.map (·.1)) := hT1.keep (((KpC.grown (World.grownBy_alloc _ _ none)).trans (KpC.grown (World.grownBy_alloc _ _ none))).trans (KpC.grown (World.grownBy_alloc _ _ none)))
  have hsz : (((w1.alloc (.map #[] 0)).alloc (.cells #[.map (some w1.heap.size)] 424)).alloc (.cells #[.int .i64 o, .int .i64 g, .bool sg, .slice a3 l3 k3, .slice a4 l4 k4, .string s6, .slice a6 l6 k6] 27)).heap.size = w1.heap.size + 3 := by simp
  obtain ⟨W0, hW0⟩ : ∃ W0, ((w1.alloc (.map #[] 0)).alloc (.cells #[.map (some w1.heap.size)] 424)).alloc (.cells #[.int .i64 o, .int .i64 g, .bool sg, .slice a3 l3 k3, .slice a4 l4 k4, .string s6, .slice a6 l6 k6] 27) = W0 := ⟨_, rfl⟩
  rw [hW0] at hm0 bS bN hB0 hT0 hsz ⊢
  clear hW0
  obtain ⟨uu, huu⟩ : ∃ uu, Value.agg #[.int .i64 o, .int .i64 g, .bool sg, .slice a3 l3 k3, .slice a4 l4 k4, .string s6, .slice a6 l6 k6] = uu := ⟨_, rfl⟩
  have hT0' := hT0
  simp only [huu]
  refine wpIn_rangeFunc_ownH rfl h1 (gf := 423) (lb := #[.pointer (some ⟨w1.heap.size + 1 + 1, 0, none⟩)]) rfl trivial (enters_of Tryz.func423 (by kernel_rfl) rfl)
    (nodes_stops (OneName nm) Fence.wide rfl 5 trivial trivial rfl (w1.heap.size + 1 + 1) d o g sg a3 l3 k3 a4 l4 k4 s6 a6 l6 k6 ns W0 ⟨_, bN⟩ hT0') KpC.trans KpC.b (Below.refl _ _) (fun _ => rfl)
    (fun pre W => (Boxed W (w1.heap.size + 1) 424 (.map (some w1.heap.size)) ∧ W.ownsMap Tryz.prog 9 (plainElem (H := Unit) Tryz.prog 4) w1.heap.size pre.length (varD nm pre)) ∧ Below w.heap.size w W)
    (fun _ _ _ => False)
    (OwnFrom.and (OwnFrom.and (Own.from (boxed_own _ _ _) _) (fun s A B row hs hg hr => hs.kept hg (fun e => by have := (hr _ e.symm).1; omega))) (ownFrom_below (Nat.le_refl _) (by omega)))
    (fun _ _ _ _ _ hs _ _ => hs)
    ⟨⟨bS, by simpa [varD] using hm0⟩, hB0⟩
    (fun x a' W => ∃ Bx cs, w1.heap.size + 1 < Bx ∧ x.1 = .agg cs ∧ NBox W Bx cs ∧ a' = { tmps := #[uu, .pointer (some ⟨w.heap.size, 0, none⟩), .slice none 0 0, .int .i64 0, .pointer (some ⟨w1.heap.size + 1, 0, none⟩), .pointer (some ⟨Bx, 0, none⟩), uu, .bool true, .bool false, .map (some w1.heap.size), uu, .func (.func 423) #[] #[.pointer (some ⟨w1.heap.size + 1 + 1, 0, none⟩)], x.1, undef, undef, undef, undef, undef, undef, undef, undef, undef], defers := [] })
    (fun x a' _ X Y row hs hg hr => by obtain ⟨Bx, cs, h1, h2, h3, h4⟩ := hs; exact ⟨Bx, cs, h1, h2, nbox_own Bx cs () X Y row h3 hg (fun r e => (hr r e).2), h4⟩)
    ?assign ?body ?done ?stop
  case assign =>
    rintro l pre x W K ⟨⟨bS1, hown⟩, hB1⟩ hK
    obtain ⟨x, ⟨o', g', sg', x3, y3, z3, x4, y4, z4, nm', x6, y6, z6, rfl⟩, hQ⟩ := x
    gi_wp2
    exact hK _ _ ((KeepsOthers.alloc _ _).from _) (KpC.grown (World.grownBy_alloc _ _ none)) ⟨⟨bS1.alloc _, hown.alloc _⟩, hB1.alloc hB1.size _⟩ ⟨W.heap.size, _, bS1.lt, rfl, World.alloc_heap_new W _, rfl⟩
  case body =>
    rintro l pre ⟨x, ⟨o', g', sg', x3, y3, z3, x4, y4, z4, nm', x6, y6, z6, rfl⟩, hQ⟩ a' W hl ⟨r, hr⟩ ⟨⟨bS1, hown⟩, hB1⟩ ⟨Bx, cs, hBx, hcs, bX, rfl⟩ hlt
    obtain rfl : #[.int .i64 o', .int .i64 g', .bool sg', .slice x3 y3 z3, .slice x4 y4 z4, .string nm', .slice x6 y6 z6] = cs := by simpa using hcs
    have c0 : W.cell? ⟨Bx, 0, none⟩ = some (.int .i64 o') := bX.cell 0
    have c5 : W.cell? ⟨Bx, 5, none⟩ = some (.string nm') := bX.cell 5
    have cM := bS1.cell
    have hmx : (1000 : Nat) ≤ maxLen := by decide
    by_cases ho : o' = 2
    · subst ho
      have hnm' : nm'.data.toList = nm := hQ rfl
      have hsz' : nm'.size ≤ maxLen := by
        have h0 : nm'.size = nm'.data.toList.length := rfl
        rw [hnm'] at h0
        omega
      gi_wp2_with (gi_at_mapUpdate; refine wpListIn_mapUpdate_own _ rfl _ _ _ 424 rfl 9 4 (Maps.string_keyed Tryz.underlying9) Tryz.underlying424 _ w1.heap.size pre.length _ rfl hown (by omega) _ _ _ rfl rfl (WideMaps.keyOf_string_mk Tryz.underlying9 hsz') _ [] (plainElem_bool Tryz.underlying4 true) ?_; intro w2 hown1 hgrow1)
      obtain ⟨es, ck, hh, _⟩ := hown
      exact ⟨KeepsFrom.of_grownBy hgrow1 (fun j e => by cases e; omega), ⟨hgrow1.size, fun a v hv => cell_kept hv hgrow1 (fun r e => by cases e; exact ⟨_, hh, rfl⟩)⟩,
        ⟨(hgrow1.block _ bS1.lt (by simp)).trans bS1, by rw [varD_var rfl, List.length_append]; rw [hnm'] at hown1; exact hown1⟩, hB1.grown hgrow1 hB1.size (fun k e => by cases e; omega)⟩
    · have hb : (o' == 2) = false := by simpa using ho
      gi_wp2
      exact ⟨KeepsFrom.refl _ _, KpC.refl _, ⟨bS1, by rw [varD_other (by exact ho), List.length_append]; exact ownsMap_mono hown (by simp)⟩, hB1⟩
  case done =>
    rintro D ys W hD rfl ⟨⟨bS1, hown⟩, hB1⟩ hK
    have hvd : varD nm ys = .map [(.string nm, .lit (.bool true))] := by simp only [varD, hex, if_true]
    rw [hvd] at hown
    have cM := bS1.cell
    have hbl := hown.lt
    have hseq : SeqGives Fence.wide 2 Tryz.prog 461 #[.pointer (some ⟨W.heap.size, 0, none⟩)] encStr (fun ss => ss.Perm (strKeys (.map [(.string nm, (.lit (.bool true) : DataW Unit))]))) (Maps.size (.map [(.string nm, (.lit (.bool true) : DataW Unit))])) (W.alloc (.cells #[.map (some w1.heap.size)] 424)) :=
      AnyZ.keys_gives (ρ := Tryz.vkeysA_ren) { Tryz.vkeysA with } Fence.wide _ trivial rfl (by omega) W.heap.size w1.heap.size ys.length _ _ (by simp) (by simp) (by
        obtain ⟨es, clock, hb, Ft, hs, hD⟩ := hown
        exact ⟨es, clock, (Below.heap_alloc _ _ w1.heap.size hbl).trans hb, Ft, hs, hD⟩)
    have cK : ∀ mb W, CallsIn Fence.wide 5 Tryz.prog 388 #[.map mb] W fun e w' => e = .returned (.func (.func 461) #[] #[.pointer (some ⟨W.heap.size, 0, none⟩)]) ∧ w' = W.alloc (.cells #[.map mb] 424) := fun mb W => AnyZ.keys_in Tryz.vkeysA Fence.wide 5 trivial rfl mb W
    have cS := AnyZ.sorted_in Tryz.vsortedA Fence.wide 5 trivial trivial trivial trivial rfl (by omega) (vsortsA _) (enters_of Tryz.func460 (by kernel_rfl) rfl) 461 #[.pointer (some ⟨W.heap.size, 0, none⟩)] trivial (enters_of Tryz.func461 (by kernel_rfl) rfl) _ _ (by rw [Maps.size_eq, List.length_singleton]; decide) (by rw [Maps.size_eq, List.length_singleton]; decide) _ hseq
    change CallsIn _ _ Tryz.prog 387 _ _ _ at cS
    gi_wp2_with (first
      | (gi_at_call 388; refine (cK _ _).mono ?_; rintro e w' ⟨rfl, rfl⟩)
      | (gi_at_call 387; refine cS.mono ?_; rintro e w2 ⟨v, ss, rfl, hS, hrow, hnil, hb⟩))
    have hDlt : D < W.heap.size := (Array.getElem?_eq_some_iff.1 hK).1
    have hK2 : w2.heap[D]? = some (.deferred (some [])) := (hb.block D (by simp; omega)).trans ((Below.heap_alloc W _ D hDlt).trans hK)
    refine ⟨by simp, .inl ⟨_, _, rfl, run_takeDeferred hK2, ?_⟩⟩
    refine ⟨_, results_tmp2 rfl _ _ _, ?_⟩
    obtain rfl : ss = [nm] := List.perm_singleton.1 hS
    have hne : v ≠ .slice none 0 0 := fun e => by have := hnil.1 e; cases this
    obtain ⟨hl, (⟨e, _⟩ | ⟨g2, cap, cur, rfl, hg2, hcur, hcap, _, _, htake⟩)⟩ := hrow
    · exact absurd e hne
    have hc : cur[0]? = some (encStr nm) := by
      have : (cur.toList.take 1)[0]? = ([encStr nm])[0]? := by
        have h2 : cur.toList.take 1 = [encStr nm] := by simpa using htake
        rw [h2]
      simpa using this
    have hcell : w2.cell? ⟨g2, 0, none⟩ = some (encStr nm) := by simp only [World.cell?, hcur]; exact hc
    refine ⟨g2, 0, cap, ⟨nm.toArray⟩, rfl, by simp, hcap, ?_, ?_, ?_⟩
    · have := hB1.size
      simp at hg2
      omega
    · exact cell_kept hcell (grownBy_putObj' w2 D _) (fun r e => by cases e; exact ⟨_, hK2, rfl⟩)
    · have hB2 : Below w.heap.size w w2 := (hB1.alloc hB1.size _).trans (hb.mono (by have := hB1.size; simp; omega))
      exact hB2.trans (belowK_b (w := w) (Nat.le_refl _) w2 D _ _ (by omega) hK2 rfl rfl)
  case stop =>
    rintro D c pre W _ _ h _
    exact h.elim
theorem Vars_calls (w : World) (d : Nat) (u : Value) (ns : List Value) (nm : List UInt8) (hT : IsT w d u ns) (hq : ∀ y ∈ ns, (keyV y).1 = 2 → (keyV y).2 = nm) (hex : ∃ y ∈ ns, (keyV y).1 = 2) (hnm : nm.length ≤ 1000) (hlen : ns.length ≤ 1000)
    (hVal : ∀ W, w.grownBy W none → Calls Tryz.prog 106 #[u] W fun e W' => e = .returned (.bool true) ∧ W.grownBy W' none) :
    Calls Tryz.prog 298 #[u] w fun e W' => ∃ (b off c : Nat) (s : ByteArray), e = .returned (.tuple #[.slice (some ⟨b, off, none⟩) 1 c, .int .i64 0]) ∧ s.data.toList = nm ∧ 1 ≤ c ∧ w.heap.size ≤ b ∧ W'.cell? ⟨b, off, none⟩ = some (.string s) ∧ Below w.heap.size w W' := by
  have hnode := isT_nodes hT
  obtain ⟨nsQ, hns⟩ : ∃ nsQ : List (NodeV (OneName nm)), nsQ.map (·.1) = ns := by
    clear hT hex hlen
    induction ns with
    | nil => exact ⟨[], rfl⟩
    | cons y l ih =>
      obtain ⟨q, h⟩ := ih (fun z hz => hq z (List.mem_cons_of_mem _ hz)) (fun z hz => hnode z (List.mem_cons_of_mem _ hz))
      exact ⟨⟨y, hnode y List.mem_cons_self, hq y List.mem_cons_self⟩ :: q, by simp [h]⟩
  subst hns
  have hex' : nsQ.any (fun x => (keyV x.1).1 == 2) = true := by
    obtain ⟨y, hy, h2⟩ := hex
    obtain ⟨z, hz, rfl⟩ := List.mem_map.1 hy
    exact List.any_eq_true.2 ⟨z, hz, by simpa using h2⟩
  cases d with
  | zero => exact hT.elim
  | succ d =>
    have hT' := hT
    obtain ⟨c0, c1, c2, x3, y3, z3, x4, y4, z4, c5, a, k, cap, kss, rfl, _⟩ := hT
    exact (callsIn_wide (n := 6)).1 (Vars_in (d + 1) c0 c1 c2 x3 y3 z3 x4 y4 z4 c5 a k cap nm hnm nsQ (by simpa using hlen) hex' w hT' fun W hW => callsIn_wide.2 (hVal W hW))
end Go.Proofs

/-
expr.each, expr.nodes, expr.Vars: by the laws for a range over a function. (A template: mk.py fills the numbers of a dump.)
-/
import Derived.RangeFuncNested
import Derived.RangeFuncBound
import Derived.RangeFuncCalls
import Derived.RangeFuncLeaves
import Derived.Shelf.Abstract
import Derived.Shelf.RegionOpen
import Derived.WalkKit
import Derived.OwnWalkIn
import Derived.TacticsInMore
import Derived.LoopNIn
import Derived.LoopIn
import Derived.Test.YtpolhfiikbmplaaGreatDoorProg
namespace Go.Proofs
open Go.RowKit Go.Shelf
attribute [local go_sem] Oper.semAt_some
/-- Every cell that is there stays. -/
structure KpC (W W' : World) : Prop where
  size : W.heap.size ≤ W'.heap.size
  cell : ∀ a v, W.cell? a = some v → W'.cell? a = some v
theorem KpC.refl (W : World) : KpC W W := ⟨Nat.le_refl _, fun _ _ h => h⟩
theorem KpC.trans {A B C : World} (h : KpC A B) (k : KpC B C) : KpC A C := ⟨Nat.le_trans h.size k.size, fun a v hv => k.cell a v (h.cell a v hv)⟩
theorem KpC.grown {W W' : World} (h : W.grownBy W' none) : KpC W W' := ⟨h.size, fun _ _ hv => h.cell hv (by simp)⟩
theorem grown_trans {A B C : World} (h : A.grownBy B none) (k : B.grownBy C none) : A.grownBy C none :=
  ⟨k.os.trans h.os, k.tape.trans h.tape, k.output.trans h.output, Nat.le_trans h.size k.size, fun i hi _ => (k.block i (Nat.lt_of_lt_of_le hi h.size) (by simp)).trans (h.block i hi (by simp))⟩
/-- The value of a node. -/
def IsNode (x : Value) : Prop := ∃ (o g : Int) (sg : Bool) (a3 : Option Addr) (l3 k3 : Nat) (a4 : Option Addr) (l4 k4 : Nat) (nm : ByteArray) (a6 : Option Addr) (l6 k6 : Nat), x = .agg #[.int .i64 o, .int .i64 g, .bool sg, .slice a3 l3 k3, .slice a4 l4 k4, .string nm, .slice a6 l6 k6]
/-- An expression in memory and its nodes, no deeper than d. -/
def IsT (W : World) : Nat → Value → List Value → Prop
  | 0, _, _ => False
  | d + 1, v, ns => ∃ (c0 c1 : Int) (c2 : Bool) (a3 : Option Addr) (l3 k3 : Nat) (a4 : Option Addr) (l4 k4 : Nat) (c5 : ByteArray) (a : Option Addr) (k cap : Nat) (kss : List (Value × List Value)), v = .agg #[.int .i64 c0, .int .i64 c1, .bool c2, .slice a3 l3 k3, .slice a4 l4 k4, .string c5, .slice a k cap] ∧ kss.length = k ∧ ns = v :: kss.flatMap (·.2) ∧ k * 112 ≤ 140737488351232 ∧
      ∀ i p, kss[i]? = some p → IsT W d p.1 p.2 ∧ ∃ (b off : Nat) (o g : Int) (sg : Bool) (a3 : Option Addr) (l3 k3 : Nat) (a4 : Option Addr) (l4 k4 : Nat) (nm : ByteArray) (a6 : Option Addr) (l6 k6 : Nat), a = some ⟨b, off, none⟩ ∧ p.1 = .agg #[.int .i64 o, .int .i64 g, .bool sg, .slice a3 l3 k3, .slice a4 l4 k4, .string nm, .slice a6 l6 k6] ∧
        W.cell? ⟨b, off + i * 7, none⟩ = some (.int .i64 o) ∧ W.cell? ⟨b, off + i * 7 + 1, none⟩ = some (.int .i64 g) ∧ W.cell? ⟨b, off + i * 7 + 2, none⟩ = some (.bool sg) ∧ W.cell? ⟨b, off + i * 7 + 3, none⟩ = some (.slice a3 l3 k3) ∧
        W.cell? ⟨b, off + i * 7 + 4, none⟩ = some (.slice a4 l4 k4) ∧ W.cell? ⟨b, off + i * 7 + 5, none⟩ = some (.string nm) ∧ W.cell? ⟨b, off + i * 7 + 6, none⟩ = some (.slice a6 l6 k6)
theorem IsT.keep {W W' : World} (hk : KpC W W') : ∀ {d : Nat} {v : Value} {ns : List Value}, IsT W d v ns → IsT W' d v ns
  | 0, _, _, h => h
  | d + 1, v, ns, h => by
    obtain ⟨c0, c1, c2, x3, y3, z3, x4, y4, z4, c5, a, k, cap, kss, h1, h2, h3, h4, h5⟩ := h
    refine ⟨c0, c1, c2, x3, y3, z3, x4, y4, z4, c5, a, k, cap, kss, h1, h2, h3, h4, fun i p hp => ?_⟩
    obtain ⟨h6, b, off, o, g, sg, a3, l3, k3, a4, l4, k4, nm, a6, l6, k6, e1, e2, q0, q1, q2, q3, q4, q5, q6⟩ := h5 i p hp
    exact ⟨IsT.keep hk h6, b, off, o, g, sg, a3, l3, k3, a4, l4, k4, nm, a6, l6, k6, e1, e2, hk.cell _ _ q0, hk.cell _ _ q1, hk.cell _ _ q2, hk.cell _ _ q3, hk.cell _ _ q4, hk.cell _ _ q5, hk.cell _ _ q6⟩
theorem vr_room_of_none {F : Fence} (hd : F.depth = none) (k : Nat) : F.room k := fun d h => by rw [hd] at h; cases h
theorem vr_anyDepth {F : Fence} (hd : F.depth = none) {m : Nat} (m' : Nat) {P : Program} {l : Nat} {args : Array Value} {W : World} {R : Ending → World → Prop} (h : YieldAt F m P l args W R) : YieldAt F m' P l args W R := by
  obtain ⟨fn, tmps, assign, body, hy, hR⟩ := h
  exact ⟨fn, tmps, assign, body, hy, hR.1, fun c cs _ => hR.2 c cs (vr_room_of_none hd _)⟩
set_option maxRecDepth 100000 in
set_option maxHeartbeats 2000000 in
theorem each_in (G : Value → Prop) (F : Fence) (hd : F.depth = none) (hf : F.fn 424) (hro : F.round = none) (l N : Nat) (J Jx : List Value → World → Prop) (hJ : ∀ pre W W', J pre W → W.grownBy W' none → J pre W')
    (hY : ∀ m pre x W, G x → J pre W → pre.length < N → YieldAt F m Tryz.prog l #[x] W fun e W' => (e = .returned (.bool true) ∧ J (pre ++ [x]) W' ∧ KpC W W') ∨ (e = .returned (.bool false) ∧ Jx (pre ++ [x]) W')) : ∀ (d n : Nat) (v : Value) (ns pre : List Value) (W : World), IsT W d v ns → (∀ x ∈ ns, G x) → J pre W → pre.length + ns.length ≤ N →
      CallsIn F n Tryz.prog 424 #[v, .func (.yield l) #[] #[]] W fun e W' => (e = .returned (.bool true) ∧ J (pre ++ ns) W' ∧ KpC W W') ∨ (e = .returned (.bool false) ∧ ∃ q, Jx q W') := by
  intro d
  induction d with
  | zero => intro n v ns pre W h; exact h.elim
  | succ d ih =>
    intro n v ns pre W hT hG hJ0 hN
    have hdd : ∀ k : Nat, (F.depth.isSome = true → 1 ≤ k) := fun k h => by rw [hd] at h; cases h
    obtain ⟨c0, c1, c2, x3, y3, z3, x4, y4, z4, c5, a, k, cap, kss, rfl, hlen, rfl, hreach, hkids⟩ := hT
    simp only [List.length_cons] at hN
    have g1 : W.grownBy (W.alloc (.cells #[.int .i64 c0, .int .i64 c1, .bool c2, .slice x3 y3 z3, .slice x4 y4 z4, .string c5, .slice a k cap] 27)) none := World.grownBy_alloc _ _ none
    have hnew : (W.alloc (.cells #[.int .i64 c0, .int .i64 c1, .bool c2, .slice x3 y3 z3, .slice x4 y4 z4, .string c5, .slice a k cap] 27)).cell? ⟨W.heap.size, 6, none⟩ = some (.slice a k cap) := by
      have h := World.alloc_heap_new W (Obj.cells #[.int .i64 c0, .int .i64 c1, .bool c2, .slice x3 y3 z3, .slice x4 y4 z4, .string c5, .slice a k cap] 27 (0, 0))
      simp only [World.cell?, h]; rfl
    obtain ⟨fn, tmps, assign, body, hy, hR⟩ := YieldAt.mono (R' := fun e W2 => (e = .returned (.bool true) ∧ J (pre ++ [.agg #[.int .i64 c0, .int .i64 c1, .bool c2, .slice x3 y3 z3, .slice x4 y4 z4, .string c5, .slice a k cap]]) W2 ∧ KpC W W2 ∧ W2.cell? ⟨W.heap.size, 6, none⟩ = some (.slice a k cap)) ∨ (e = .returned (.bool false) ∧ ∃ q, Jx q W2))
      (hY (n - 1) pre (.agg #[.int .i64 c0, .int .i64 c1, .bool c2, .slice x3 y3 z3, .slice x4 y4 z4, .string c5, .slice a k cap]) _ (hG _ List.mem_cons_self) (hJ _ _ _ hJ0 g1) (by omega))
      (fun e W2 h => h.elim (fun ⟨h1, h2, h3⟩ => .inl ⟨h1, h2, (KpC.grown g1).trans h3, h3.cell _ _ hnew⟩) (fun ⟨h1, h2⟩ => .inr ⟨h1, _, h2⟩))
    clear hnew
    refine callsIn_of_wp Tryz.func424 rfl hf ?_ hro
    simp only [Tryz.ntmps424, List.size_toArray, List.length_cons, List.length_nil, Nat.reduceAdd, Nat.reduceSub, Array.replicate_succ, Array.replicate_zero, List.push_toArray, List.append_toArray, List.nil_append, List.cons_append]
    gi_wp2_with ((try refine ⟨hdd _, ?_⟩); refine hR.mono ?_; clear hR; rintro e W2 (⟨rfl, hJ2, hKW, hbox⟩ | ⟨rfl, hx2⟩))
    rotate_left
    · go_ret
      exact .inr ⟨rfl, hx2⟩
    gi_loopw [14] (fun i wr => ∃ m : Nat, m ≤ k ∧ i = .int .i64 m ∧ J (pre ++ .agg #[.int .i64 c0, .int .i64 c1, .bool c2, .slice x3 y3 z3, .slice x4 y4 z4, .string c5, .slice a k cap] :: (kss.take m).flatMap (·.2)) wr ∧ KpC W wr)
      (fun i _ => k - (intOf i).toNat)
    case atStart => exact ⟨0, Nat.zero_le _, rfl, by simpa using hJ2, hKW⟩
    case round =>
      obtain ⟨m, hm, rfl, hJs, hnx⟩ := hrel
      by_cases hlt : m < k
      · obtain ⟨⟨u, us⟩, hp⟩ : ∃ p, kss[m]? = some p := ⟨kss[m], by simp [hlen, hlt]⟩
        obtain ⟨h6, b, off, o, g, sg, a3, l3, k3, a4, l4, k4, nm, a6, l6, k6, rfl, e2, q0, q1, q2, q3, q4, q5, q6⟩ := hkids m _ hp
        simp only at e2 h6
        subst e2
        have q0 := hnx.cell _ _ q0; have q1 := hnx.cell _ _ q1; have q2 := hnx.cell _ _ q2; have q3 := hnx.cell _ _ q3
        have q4 := hnx.cell _ _ q4; have q5 := hnx.cell _ _ q5; have q6 := hnx.cell _ _ q6
        gi_wp2
        have gb : wr.grownBy (wr.alloc (Obj.cells #[.int .i64 o, .int .i64 g, .bool sg, .slice a3 l3 k3, .slice a4 l4 k4, .string nm, .slice a6 l6 k6] 27)) none := World.grownBy_alloc _ _ none
        have hsum : (List.flatMap (fun x : Value × List Value => x.2) (kss.take (m + 1))) = List.flatMap (fun x : Value × List Value => x.2) (kss.take m) ++ us := by
          rw [List.take_add_one, hp]
          simp
        have hle : (List.flatMap (fun x : Value × List Value => x.2) (kss.take (m + 1))).length ≤ (List.flatMap (fun x : Value × List Value => x.2) kss).length := by
          have : List.flatMap (fun x : Value × List Value => x.2) kss = List.flatMap (fun x : Value × List Value => x.2) (kss.take (m + 1)) ++ List.flatMap (fun x : Value × List Value => x.2) (kss.drop (m + 1)) := by
            rw [← List.flatMap_append, List.take_append_drop]
          rw [this, List.length_append]
          omega
        rw [hsum, List.length_append] at hle
        refine (ih (n - 1) _ us _ _ (h6.keep (hnx.trans (KpC.grown gb))) (fun x hx => hG x (List.mem_cons_of_mem _ (List.mem_flatMap.2 ⟨_, List.mem_of_getElem? hp, hx⟩))) (hJ _ _ _ hJs gb) (by simp only [List.length_append, List.length_cons]; omega)).mono ?_
        rintro e W3 (⟨rfl, hJ3, hk3⟩ | ⟨rfl, hx3⟩)
        · gi_wp2
          go_roundw
          case rel => exact ⟨m + 1, by omega, by simp, by rw [hsum]; simpa using hJ3, (hnx.trans (KpC.grown gb)).trans hk3⟩
          case measure => simp [intOf]; omega
        · gi_wp2
          go_ret
          exact .inr ⟨rfl, hx3⟩
      · obtain rfl : m = k := by omega
        gi_wp2
        go_ret
        refine .inl ⟨rfl, ?_, hnx⟩
        rw [List.take_of_length_le (by omega)] at hJs
        exact hJs

/-! ### nodes(e) -/
/-- Nodes, as a type of their own. -/
abbrev NodeV (Q : Value → Prop) := { x : Value // IsNode x ∧ Q x }
theorem isT_nodes {W : World} : ∀ {d : Nat} {v : Value} {ns : List Value}, IsT W d v ns → ∀ x ∈ ns, IsNode x
  | 0, _, _, h => h.elim
  | d + 1, v, ns, h => by
    obtain ⟨c0, c1, c2, x3, y3, z3, x4, y4, z4, c5, a, k, cap, kss, rfl, h2, rfl, h4, h5⟩ := h
    intro x hx
    rcases List.mem_cons.1 hx with rfl | hx
    · exact ⟨_, _, _, _, _, _, _, _, _, _, _, _, _, rfl⟩
    · obtain ⟨p, hp, hxp⟩ := List.mem_flatMap.1 hx
      obtain ⟨i, hi⟩ := List.getElem?_of_mem hp
      exact isT_nodes (h5 i p hi).1 x hxp
theorem grown_abides {β : Type} {B : Nat} {J : β → World → Prop} (h : AbidesFrom B J) {s : β} {W W' : World} (hs : J s W) (hg : W.grownBy W' none) : J s W' := h s W W' none hs hg (fun r e => by cases e)
set_option maxRecDepth 100000 in
set_option maxHeartbeats 2000000 in
/-- The closure that nodes hands back: every node, in order. -/
theorem nodes_stops (Q : Value → Prop) (F : Fence) (hd : F.depth = none) (n : Nat) (hf1 : F.fn 423) (hf2 : F.fn 424) (hro : F.round = none) (B d : Nat) (o g : Int) (sg : Bool) (a3 : Option Addr) (l3 k3 : Nat) (a4 : Option Addr) (l4 k4 : Nat) (nm : ByteArray) (a6 : Option Addr) (l6 k6 : Nat) (ns : List (NodeV Q)) (w : World)
    (hB : ∃ e, w.heap[B]? = some (.cells #[.int .i64 o, .int .i64 g, .bool sg, .slice a3 l3 k3, .slice a4 l4 k4, .string nm, .slice a6 l6 k6] e (0, 0)))
    (hT : IsT w d (.agg #[.int .i64 o, .int .i64 g, .bool sg, .slice a3 l3 k3, .slice a4 l4 k4, .string nm, .slice a6 l6 k6]) (ns.map (·.1))) :
    SeqStopsK F n Tryz.prog 423 #[.pointer (some ⟨B, 0, none⟩)] (fun x : NodeV Q => #[x.1]) KpC (fun ys => ys = ns) (fun _ => True) ns.length w := by
  intro l J Jx W hW hJ hJx hY h0
  have hdd : ∀ k : Nat, (F.depth.isSome = true → 1 ≤ k) := fun k h => by rw [hd] at h; cases h
  obtain ⟨e0, hB0⟩ := hB
  have hBW : W.heap[B]? = some (.cells #[.int .i64 o, .int .i64 g, .bool sg, .slice a3 l3 k3, .slice a4 l4 k4, .string nm, .slice a6 l6 k6] e0 (0, 0)) := (hW.block _ (Array.getElem?_eq_some_iff.1 hB0).1).trans hB0
  have q0 : W.cell? ⟨B, 0, none⟩ = some (.int .i64 o) := by simp [World.cell?, hBW]
  have q1 : W.cell? ⟨B, 1, none⟩ = some (.int .i64 g) := by simp [World.cell?, hBW]
  have q2 : W.cell? ⟨B, 2, none⟩ = some (.bool sg) := by simp [World.cell?, hBW]
  have q3 : W.cell? ⟨B, 3, none⟩ = some (.slice a3 l3 k3) := by simp [World.cell?, hBW]
  have q4 : W.cell? ⟨B, 4, none⟩ = some (.slice a4 l4 k4) := by simp [World.cell?, hBW]
  have q5 : W.cell? ⟨B, 5, none⟩ = some (.string nm) := by simp [World.cell?, hBW]
  have q6 : W.cell? ⟨B, 6, none⟩ = some (.slice a6 l6 k6) := by simp [World.cell?, hBW]
  have hkW : KpC w W := ⟨hW.size, fun a v hv => (hW.cell (p := a) (World.block_lt_of_cell? w _ hv)).trans hv⟩
  have hTW := hT.keep hkW
  have hE := each_in (fun x => IsNode x ∧ Q x) F hd hf2 hro l ns.length (fun pre W' => ∃ ps : List (NodeV Q), pre = ps.map (·.1) ∧ J ps W') (fun _ W' => ∃ ps, Jx ps W')
    (fun pre W1 W2 ⟨ps, h1, h2⟩ hg => ⟨ps, h1, grown_abides hJ h2 hg⟩)
    (fun m pre x W1 hx ⟨ps, h1, h2⟩ hlen => by
      have := vr_anyDepth hd m (hY ps ⟨x, hx⟩ W1 h2 (by rw [h1, List.length_map] at hlen; exact hlen))
      refine YieldAt.mono this fun e W2 hp => ?_
      rcases hp with ⟨he, hj, hk⟩ | ⟨he, hj⟩
      · exact .inl ⟨he, ⟨ps ++ [⟨x, hx⟩], by simp [h1], hj⟩, hk⟩
      · exact .inr ⟨he, _, hj⟩) d (n - 1) _ _ [] W hTW (fun x hx => by obtain ⟨y, _, rfl⟩ := List.mem_map.1 hx; exact y.2) ⟨[], rfl, h0⟩ (by simp)
  refine callsIn_of_wp Tryz.func423 rfl hf1 ?_ hro
  simp only [Tryz.ntmps423, List.size_toArray, List.length_cons, List.length_nil, Nat.reduceAdd, Nat.reduceSub, Array.replicate_succ, Array.replicate_zero, List.push_toArray, List.append_toArray, List.nil_append, List.cons_append]
  gi_wp2_with ((try refine ⟨hdd _, ?_⟩); gi_at_call 424; refine hE.mono ?_; clear hE; rintro e W1 (⟨rfl, hJ1, _⟩ | ⟨rfl, q, ps, hx1⟩))
  rotate_left
  · go_end0
    exact ⟨⟨_, rfl⟩, .inr ⟨ps, trivial, hx1⟩⟩
  go_end0
  refine ⟨⟨_, rfl⟩, .inl ⟨ns, rfl, ?_⟩⟩
  obtain ⟨ps, h1, h2⟩ := hJ1
  have : ns = ps := by
    have h1 : ns.map (·.1) = ps.map (·.1) := by simpa using h1
    exact (List.map_inj_right (fun a b h => Subtype.ext h)).1 h1
  rw [this]; exact h2
set_option maxHeartbeats 1000000 in
/-- nodes(e): the expression is boxed; the closure holds the box. -/
theorem nodes_in (F : Fence) (n : Nat) (h1 : F.fn 330) (hro : F.round = none) (o g : Int) (sg : Bool) (a3 : Option Addr) (l3 k3 : Nat) (a4 : Option Addr) (l4 k4 : Nat) (nm : ByteArray) (a6 : Option Addr) (l6 k6 : Nat) (w : World) :
    CallsIn F n Tryz.prog 330 #[.agg #[.int .i64 o, .int .i64 g, .bool sg, .slice a3 l3 k3, .slice a4 l4 k4, .string nm, .slice a6 l6 k6]] w fun e w' => e = .returned (.func (.func 423) #[] #[.pointer (some ⟨w.heap.size, 0, none⟩)]) ∧
      w' = w.alloc (.cells #[.int .i64 o, .int .i64 g, .bool sg, .slice a3 l3 k3, .slice a4 l4 k4, .string nm, .slice a6 l6 k6] 27) := by
  refine callsIn_of_wp Tryz.func330 rfl h1 ?_ hro
  simp only [Tryz.ntmps330, List.size_toArray, List.length_cons, List.length_nil, Nat.reduceAdd, Nat.reduceSub, Array.replicate_succ, Array.replicate_zero, List.push_toArray, List.append_toArray, List.nil_append, List.cons_append]
  gi_wp2
  go_ret
  exact ⟨rfl, rfl⟩
end Go.Proofs

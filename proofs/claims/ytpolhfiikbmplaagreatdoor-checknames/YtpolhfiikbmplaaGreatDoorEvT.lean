/-
Search trees, and what a table of types and functions owes.
-/
import Derived.Test.YtpolhfiikbmplaaGreatDoorEv15
namespace Go.Ev
inductive T (α : Type) where
  | leaf
  | node (k : Nat) (v : α) (l r : T α)
def memP (i n : Nat) : List (Nat × Nat) → Bool
  | [] => false
  | (a, b) :: l => match Nat.beq a i && Nat.beq b n with
    | true => true
    | false => memP i n l
def T.find {α : Type} : T α → Nat → Option α
  | .leaf, _ => none
  | .node k v l r, n => match Nat.beq n k with
    | true => some v
    | false => match Nat.blt n k with
      | true => l.find n
      | false => r.find n
def T.All {α : Type} (p : Nat → α → Prop) : T α → Prop
  | .leaf => True
  | .node k v l r => p k v ∧ l.All p ∧ r.All p
theorem T.All.leaf_mk {α : Type} {p : Nat → α → Prop} : T.leaf.All p := trivial
theorem T.All.node_mk {α : Type} {p : Nat → α → Prop} {k : Nat} {v : α} {l r : T α} (h1 : p k v) (h2 : l.All p) (h3 : r.All p) : (T.node k v l r).All p := ⟨h1, h2, h3⟩
theorem T.All.find {α : Type} {p : Nat → α → Prop} : ∀ {t : T α}, t.All p → ∀ {n : Nat} {v : α}, t.find n = some v → p n v
  | .leaf, _, _, _, h => by simp [T.find] at h
  | .node k v l r, ⟨h1, h2, h3⟩, n, u, h => by
    simp only [T.find] at h
    split at h
    · rename_i hb
      have := Nat.eq_of_beq_eq_true hb
      simp only [Option.some.injEq] at h
      subst this
      subst h
      exact h1
    · split at h
      · exact h2.find h
      · exact h3.find h
def T.allB {α : Type} (p : Nat → α → Bool) : T α → Bool
  | .leaf => true
  | .node k v l r => match p k v with
    | true => match l.allB p with
      | true => r.allB p
      | false => false
    | false => false
theorem T.allB_spec {α : Type} {p : Nat → α → Bool} : ∀ {t : T α}, t.allB p = true → t.All (fun n v => p n v = true)
  | .leaf, _ => trivial
  | .node k v l r, h => by
    simp only [T.allB] at h
    split at h
    · rename_i hp
      split at h
      · rename_i hl; exact ⟨hp, allB_spec hl, allB_spec h⟩
      · cases h
    · cases h
/-! ### types, by evaluation -/
def eqZ : List AV → List AV → Bool
  | [], [] => true
  | .any :: l, .any :: m => eqZ l m
  | .bool a :: l, .bool b :: m => (a == b) && eqZ l m
  | .int k a :: l, .int k' b :: m => decide (k = k') && (decide (a = b) && eqZ l m)
  | .str [] :: l, .str [] :: m => eqZ l m
  | .nilp :: l, .nilp :: m => eqZ l m
  | .nils :: l, .nils :: m => eqZ l m
  | .nilf :: l, .nilf :: m => eqZ l m
  | .nili :: l, .nili :: m => eqZ l m
  | _, _ => false
theorem eqZ_spec {l m : List AV} (h : eqZ l m = true) : l = m := by
  induction l generalizing m with
  | nil => cases m with
    | nil => rfl
    | cons => simp [eqZ] at h
  | cons a l ih =>
    cases m with
    | nil => cases a with
      | str s => cases s <;> simp [eqZ] at h
      | _ => simp [eqZ] at h
    | cons b m =>
      cases a <;> cases b <;> first
        | (simp [eqZ] at h; done)
        | (simp only [eqZ, Bool.and_eq_true, decide_eq_true_eq, beq_iff_eq] at h; obtain ⟨rfl, rfl, h⟩ := h; rw [ih h]; done)
        | (simp only [eqZ, Bool.and_eq_true, beq_iff_eq] at h; obtain ⟨rfl, h⟩ := h; rw [ih h]; done)
        | (simp only [eqZ] at h; rw [ih h]; done)
        | (rename_i s t; cases s <;> cases t <;> first | (simp [eqZ] at h; done) | (simp only [eqZ] at h; rw [ih h]))
def isAggV : Value → Bool
  | .agg _ => true
  | _ => false
def tyOkB (P : Program) (t : TypeId) (i : TI) : Bool := match P.underlying t, P.info? t with
  | some d, some f => match f.zero with
    | some z => kOk i.k d && Nat.beq f.size i.sz && Nat.beq f.bytes i.bytes && eqZ i.zero (z.cells.toList.map ofScalar) && Nat.beq z.cells.size i.sz && (isAggV z == i.k.agg) &&
      (match i.k with
        | .struct true _ => !P.stoodInHeld t && !P.eqGuardType P.depth t
        | _ => true)
    | none => false
  | _, _ => false
theorem tyOkB_spec {P : Program} {t : TypeId} {i : TI} (h : tyOkB P t i = true) : TyOk P t i := by
  unfold tyOkB at h
  split at h
  · rename_i d f hd hf
    split at h
    · rename_i z hz
      simp only [Bool.and_eq_true, beq_iff_eq] at h
      obtain ⟨⟨⟨⟨⟨⟨h1, h2⟩, h3⟩, h4⟩, h5⟩, h6⟩, h7⟩ := h
      refine ⟨⟨d, hd, h1⟩, ⟨f, hf, Nat.eq_of_beq_eq_true h2, Nat.eq_of_beq_eq_true h3, z, hz, eqZ_spec h4, Nat.eq_of_beq_eq_true h5, fun ha => ?_, fun ha => ?_⟩, fun fs hk => ?_⟩
      · rw [ha] at h6
        cases z <;> first | exact ⟨_, rfl⟩ | (simp [isAggV] at h6)
      · rw [ha] at h6
        cases z <;> first | rfl | (simp [isAggV] at h6)
      · rw [hk] at h7
        simpa using h7
    · cases h
  · cases h
/-! ### functions, by evaluation -/
def fnOkB (E : Env) (fn : Func) : Bool := !(fn.name == "runtime.NumGoroutine") && (match fn.body with
  | some c => codeOk E c
  | none => true)
theorem envOk_of {P : Program} {tyT : T TI} {fnT : T Func} {mode : FuncId → Nat} {orc : FuncId → List AV → Option AV} {sus : Nat → Nat → Bool} (ht : tyT.allB (tyOkB P) = true) (hf : fnT.All fun n fn => P.funcs[n]? = some fn)
    (hc : fnT.allB (fun _ fn => fnOkB ⟨tyT.find, fnT.find, mode, orc, sus⟩ fn) = true) (ho : OrcSound P ⟨tyT.find, fnT.find, mode, orc, sus⟩) (hm : P.follows .mixedOrders = true) : EnvOk P ⟨tyT.find, fnT.find, mode, orc, sus⟩ where
  ty := fun t i h => tyOkB_spec ((T.allB_spec ht).find h)
  fn := fun f fn h => by
    refine ⟨hf.find h, ?_⟩
    have := (T.allB_spec hc).find h
    simp only [fnOkB, Bool.and_eq_true, Bool.not_eq_true'] at this
    refine ⟨this.1, fun c hb => ?_⟩
    have h2 := this.2
    rw [hb] at h2
    exact h2
  orc := ho
  mixed := hm
end Go.Ev

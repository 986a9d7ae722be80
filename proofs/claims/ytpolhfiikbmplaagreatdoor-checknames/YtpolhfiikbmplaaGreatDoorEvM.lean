/-
The abstract evaluator: a table of calls that runs have shown, as an oracle.
-/
import Derived.Test.YtpolhfiikbmplaaGreatDoorEvN
namespace Go.Ev
def eqL {α : Type} (p : α → α → Bool) : List α → List α → Bool
  | [], [] => true
  | x :: l, y :: m => match p x y with
    | true => eqL p l m
    | false => false
  | _, _ => false
theorem eqL_ok {α : Type} {p : α → α → Bool} (hp : ∀ x y, p x y = true → x = y) : ∀ {l m : List α}, eqL p l m = true → l = m
  | [], [], _ => rfl
  | [], _ :: _, h => by simp [eqL] at h
  | _ :: _, [], h => by simp [eqL] at h
  | x :: l, y :: m, h => by
    simp only [eqL] at h
    split at h
    · rename_i e
      rw [hp _ _ e, eqL_ok hp h]
    · cases h
def eqA : Nat → AV → AV → Bool
  | 0, _, _ => false
  | n + 1, x, y => match x, y with
    | .bool a, .bool b => a == b
    | .int k a, .int k' b => decide (k = k') && a == b
    | .str s, .str t => s == t
    | .nilp, .nilp => true
    | .nils, .nils => true
    | .nilf, .nilf => true
    | .nili, .nili => true
    | .ip cs, .ip ds => eqL (eqA n) cs ds
    | .sl m cs c, .sl m' ds c' => Nat.beq m m' && decide (c = c') && eqL (eqA n) cs ds
    | .func (.func k) a c, .func (.func k') a' c' => Nat.beq k k' && eqL (eqA n) a a' && eqL (eqA n) c c'
    | .ifc t v, .ifc t' v' => Nat.beq t t' && eqA n v v'
    | .agg cs, .agg ds => eqL (eqA n) cs ds
    | .tup cs, .tup ds => eqL (eqA n) cs ds
    | _, _ => false
theorem eqA_ok : ∀ (n : Nat) (x y : AV), eqA n x y = true → x = y
  | 0, _, _, h => by simp [eqA] at h
  | n + 1, x, y, h => by
    unfold eqA at h
    split at h
    · rw [eq_of_beq h]
    · simp only [Bool.and_eq_true, decide_eq_true_eq] at h
      rw [h.1, eq_of_beq h.2]
    · rw [eq_of_beq h]
    · rfl
    · rfl
    · rfl
    · rfl
    · rw [eqL_ok (eqA_ok n) h]
    · simp only [Bool.and_eq_true, decide_eq_true_eq] at h
      rw [Nat.eq_of_beq_eq_true h.1.1, h.1.2, eqL_ok (eqA_ok n) h.2]
    · simp only [Bool.and_eq_true] at h
      rw [Nat.eq_of_beq_eq_true h.1.1, eqL_ok (eqA_ok n) h.1.2, eqL_ok (eqA_ok n) h.2]
    · simp only [Bool.and_eq_true] at h
      rw [Nat.eq_of_beq_eq_true h.1, eqA_ok n _ _ h.2]
    · rw [eqL_ok (eqA_ok n) h]
    · rw [eqL_ok (eqA_ok n) h]
    · cases h
/-- Calls: the function, the arguments, what is handed back. -/
abbrev CallT := List (FuncId × List AV × AV)
def tabA : CallT → FuncId → List AV → Option AV
  | [], _, _ => none
  | (g, as, r) :: l, f, args => match Nat.beq g f && eqL (eqA 64) as args with
    | true => some r
    | false => tabA l f args
def tabAOk (E : Env) (n : Nat) : CallT → Bool
  | [] => true
  | (g, as, r) :: l => (match runV E n g as with
    | some v => eqA 64 v r
    | none => false) && tabAOk E n l
theorem tabA_run {E : Env} {n : Nat} : ∀ {t : CallT}, tabAOk E n t = true → ∀ {f : FuncId} {args : List AV} {v : AV}, tabA t f args = some v → runV E n f args = some v
  | [], _, _, _, _, h => by simp [tabA] at h
  | (g, as, r) :: l, hT, f, args, v, h => by
    simp only [tabAOk, Bool.and_eq_true] at hT
    simp only [tabA] at h
    split at h
    · rename_i hk
      rw [Bool.and_eq_true] at hk
      simp only [Option.some.injEq] at h
      subst h
      have e1 : g = f := Nat.eq_of_beq_eq_true hk.1
      have e2 : as = args := eqL_ok (eqA_ok 64) hk.2
      subst e1
      subst e2
      have h1 := hT.1
      split at h1
      · rename_i u hu
        rw [hu, eqA_ok 64 _ _ h1]
      · cases h1
    · exact tabA_run (t := l) hT.2 h
/-- Soundness of an oracle by itself. -/
def OS (P : Program) (o : FuncId → List AV → Option AV) : Prop := OrcSound P ⟨fun _ => none, fun _ => none, fun _ => 0, o, fun _ _ => false⟩
theorem OS.env {P : Program} {o : FuncId → List AV → Option AV} (h : OS P o) {E : Env} (e : E.orc = o) : OrcSound P E := fun f args x vs v hx hh hV hv => h f args x vs v hx hh hV (by rw [e] at hv; exact hv)
theorem OS.none {P : Program} : OS P fun _ _ => none := fun _ _ _ _ _ _ _ _ h => by cases h
theorem OS.tab {P : Program} {E : Env} (hE : EnvOk P E) {n : Nat} {t : CallT} (h : tabAOk E n t = true) : OS P (tabA t) := fun _ _ _ _ _ hx hh hV hv => runV_ok hE (tabA_run h hv) hx hh hV
def orcOr (o1 o2 : FuncId → List AV → Option AV) (f : FuncId) (args : List AV) : Option AV := match o1 f args with
  | some v => some v
  | none => o2 f args
theorem OS.or {P : Program} {o1 o2 : FuncId → List AV → Option AV} (h1 : OS P o1) (h2 : OS P o2) : OS P (orcOr o1 o2) := fun f args x vs v hx hh hV hv => by
  simp only [orcOr] at hv
  split at hv
  · rename_i u hu
    simp only [Option.some.injEq] at hv
    subst hv
    exact h1 f args x vs u hx hh hV hu
  · exact h2 f args x vs v hx hh hV hv
/-- The table of a kind of arguments. -/
def kyO (t : List (FuncId × Ky × Rz)) (f : FuncId) (args : List AV) : Option AV := match args with
  | [a] => lookT t f a
  | _ => none
theorem OS.ky {P : Program} {E : Env} (hE : EnvOk P E) {n : Nat} {t : List (FuncId × Ky × Rz)} (h : tabOk E n t = true) : OS P (kyO t) := fun f args x vs v hx hh hV hv => by
  change kyO t f args = some v at hv
  unfold kyO at hv
  split at hv
  · exact runV_ok hE (lookT_ok h hv) hx hh hV
  · cases hv
/-- The same for one function: the function is looked at first. -/
def lookK : List (Ky × Rz) → AV → Option AV
  | [], _ => none
  | (k, r) :: l, a => match k.is a with
    | true => some r.av
    | false => lookK l a
def kyF (g : FuncId) (t : List (Ky × Rz)) (f : FuncId) (args : List AV) : Option AV := match Nat.beq g f with
  | true => match args with
    | [a] => lookK t a
    | _ => none
  | false => none
def tabKOk (E : Env) (n : Nat) (g : FuncId) (t : List (Ky × Rz)) : Bool := allB (fun e => e.2.is (runV E n g [e.1.av])) t
theorem lookK_ok {E : Env} {n : Nat} {g : FuncId} : ∀ {t : List (Ky × Rz)}, tabKOk E n g t = true → ∀ {a v : AV}, lookK t a = some v → runV E n g [a] = some v
  | [], _, _, _, h => by simp [lookK] at h
  | (k, r) :: l, hT, a, v, h => by
    simp only [tabKOk, allB] at hT
    split at hT
    · rename_i hr
      simp only [lookK] at h
      split at h
      · rename_i hk
        simp only [Option.some.injEq] at h
        subst h
        rw [Ky.is_ok hk]
        exact Rz.is_ok hr
      · exact lookK_ok (t := l) hT h
    · cases hT
theorem OS.kyF {P : Program} {E : Env} (hE : EnvOk P E) {n : Nat} {g : FuncId} {t : List (Ky × Rz)} (h : tabKOk E n g t = true) : OS P (kyF g t) := fun f args x vs v hx hh hV hv => by
  change Go.Ev.kyF g t f args = some v at hv
  unfold Go.Ev.kyF at hv
  split at hv
  · rename_i e
    have e1 : g = f := Nat.eq_of_beq_eq_true e
    subst e1
    split at hv
    · exact runV_ok hE (lookK_ok h hv) hx hh hV
    · cases hv
  · cases hv
end Go.Ev

/-
The abstract evaluator: what a run has shown, as an oracle of a later run.
-/
import Derived.Test.YtpolhfiikbmplaaGreatDoorEvT
namespace Go.Ev
/-- A call on a heap of its own: the value handed back. -/
def runV (E : Env) (n : Nat) (f : FuncId) (args : List AV) : Option AV := match pureCall E (evCall E n) f args with
  | .ret v _ => some v
  | _ => none
theorem runV_ok {P : Program} {E : Env} (hE : EnvOk P E) {n : Nat} {f : FuncId} {args : List AV} {v : AV} (h : runV E n f args = some v) {x : X} {vs : List Value} (hx : WR x) (hh : x.h = .empty) (hV : x.Vs args vs) :
    FnOk P f ∧ Calls P f vs.toArray x.w (Post x (.ret v .empty)) := by
  obtain ⟨w, h0, ρ, out⟩ := x
  simp only at hh
  subst hh
  unfold runV at h
  split at h
  · rename_i v' h' hp
    simp only [Option.some.injEq] at h
    subst h
    obtain ⟨h1, h2⟩ := pureCall_ok (evCall_ok hE n) hE.orc hx hV hp (by simp)
    refine ⟨h1, h2.mono fun e w' hq => ?_⟩
    obtain ⟨u, e1, g1, g2, g3⟩ := hq
    exact ⟨u, ρ, e1, g1, g2, g3.up _⟩
  · cases h

/-! ### a table of runs -/
/-- An argument: a string, any string but some, a number, any number between two bounds. -/
inductive Ky where
  | s (t : List UInt8)
  | ne (l : List (List UInt8))
  | n (i : Int)
  | iv (lo hi : Int)
def Ky.av : Ky → AV
  | .s t => .str t
  | .ne l => .sstr l
  | .n i => .int .i64 i
  | .iv lo hi => .siv .i64 lo hi
def Ky.is : Ky → AV → Bool
  | .s t, .str u => t == u
  | .ne l, .sstr m => l == m
  | .n i, .int .i64 j => i == j
  | .iv a b, .siv .i64 c d => a == c && b == d
  | _, _ => false
theorem Ky.is_ok {k : Ky} {v : AV} (h : k.is v = true) : v = k.av := by
  unfold Ky.is at h
  split at h
  · rw [eq_of_beq h]; rfl
  · rw [eq_of_beq h]; rfl
  · rw [eq_of_beq h]; rfl
  · rw [Bool.and_eq_true] at h
    rw [eq_of_beq h.1, eq_of_beq h.2]; rfl
  · cases h
/-- What is handed back: a number and whether it is not 0, or a string. -/
inductive Rz where
  | find (k : Nat)
  | name (t : List UInt8)
def Rz.av : Rz → AV
  | .find k => .tup [.int .i64 k, .bool (!Nat.beq k 0)]
  | .name t => .str t
def Rz.is : Rz → Option AV → Bool
  | .find k, some (.tup [.int .i64 j, .bool b]) => j == (k : Int) && b == !Nat.beq k 0
  | .name t, some (.str u) => u == t
  | _, _ => false
theorem Rz.is_ok {r : Rz} {o : Option AV} (h : r.is o = true) : o = some r.av := by
  unfold Rz.is at h
  split at h
  · rw [Bool.and_eq_true] at h
    rw [eq_of_beq h.1, eq_of_beq h.2]; rfl
  · rw [eq_of_beq h]; rfl
  · cases h
def lookT : List (FuncId × Ky × Rz) → FuncId → AV → Option AV
  | [], _, _ => none
  | (g, k, r) :: l, f, a => match Nat.beq g f && k.is a with
    | true => some r.av
    | false => lookT l f a
/-- One function without arguments that says true, and the table. -/
def tabO (fA : FuncId) (t : List (FuncId × Ky × Rz)) (f : FuncId) (args : List AV) : Option AV := match args with
  | [] => match Nat.beq f fA with
    | true => some (.bool true)
    | false => none
  | [a] => lookT t f a
  | _ => none
def tabOk (E : Env) (n : Nat) (t : List (FuncId × Ky × Rz)) : Bool := allB (fun e => e.2.2.is (runV E n e.1 [e.2.1.av])) t
theorem lookT_ok {E : Env} {n : Nat} : ∀ {t : List (FuncId × Ky × Rz)}, tabOk E n t = true → ∀ {f : FuncId} {a v : AV}, lookT t f a = some v → runV E n f [a] = some v
  | [], _, _, _, _, h => by simp [lookT] at h
  | (g, k, r) :: l, hT, f, a, v, h => by
    simp only [tabOk, allB] at hT
    split at hT
    · rename_i hr
      simp only [lookT] at h
      split at h
      · rename_i hk
        rw [Bool.and_eq_true] at hk
        simp only [Option.some.injEq] at h
        subst h
        have e1 : g = f := Nat.eq_of_beq_eq_true hk.1
        subst e1
        rw [Ky.is_ok hk.2]
        exact Rz.is_ok hr
      · exact lookT_ok (t := l) hT h
    · cases hT
theorem tabO_ok {P : Program} {E EA E' : Env} {n m : Nat} {fA : FuncId} {t : List (FuncId × Ky × Rz)} (hE : EnvOk P E) (hT : tabOk E n t = true) (hA : EnvOk P EA) (hrA : runV EA m fA [] = some (.bool true)) (ho : E'.orc = tabO fA t) : OrcSound P E' := by
  intro f args x vs v hx hh hV h
  rw [ho] at h
  unfold tabO at h
  split at h
  · split at h
    · rename_i hf
      have e1 : f = fA := Nat.eq_of_beq_eq_true hf
      subst e1
      simp only [Option.some.injEq] at h
      subst h
      exact runV_ok hA hrA hx hh hV
    · cases h
  · exact runV_ok hE (lookT_ok hT h) hx hh hV
  · cases h
def isTrueR : CRes → Bool
  | .ret (.bool true) _ => true
  | _ => false
theorem isTrueR_ok {r : CRes} (h : isTrueR r = true) : ∃ h1, r = .ret (.bool true) h1 := by
  unfold isTrueR at h
  split at h
  · exact ⟨_, rfl⟩
  · cases h
end Go.Ev

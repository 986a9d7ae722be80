/-
What a function names, told once: so that the closed facts on a call graph are reckoned over lists and not over code.
-/
import Derived.Test.YtpolhfiikbmplaaGreatDoorEvT
import GoSem.ClaimGoes
namespace Go.Ev
structure FI where
  adj : List Nat
  ip : Option String
  gl : List Nat
  unf : Bool
  er : Option String
  go : Bool
def fiOf (P : Program) (fn : Func) : FI := {
  adj := P.leadsTo fn
  ip := if fn.ours || fn.body.isNone || fn.name == "runtime.NumGoroutine" then some fn.name else none
  gl := fn.body.elim [] Code.globalsNamed
  unf := match fn.body with | some c => c.unfollowed | none => entryCalls fn
  er := if fn.body.isNone then entryReads.lookup fn.name else none
  go := fn.goes }
def cvG (t : T FI) : (fuel : Nat) → (todo seen : List Nat) → List Nat
  | 0, _, seen => seen.reverse
  | _ + 1, [], seen => seen.reverse
  | n + 1, f :: todo, seen => match seen.contains f with
    | true => cvG t n todo seen
    | false => cvG t n ((match t.find f with | some i => i.adj | none => []) ++ todo) (f :: seen)
/-- The tree tells of every function, and of no other number. -/
structure Told (P : Program) (t : T FI) : Prop where
  all : t.All (fun n i => ∃ fn, P.funcs[n]? = some fn ∧ fiOf P fn = i)
  has : ∀ n, n < P.funcs.size → (t.find n).isSome = true
section
variable {P : Program} {t : T FI}
theorem Told.find (h : Told P t) (g : Nat) : (P.funcs[g]?).map (fiOf P) = t.find g := by
  cases hf : P.funcs[g]? with
  | some fn =>
    have := h.has g (Array.getElem?_eq_some_iff.1 hf).1
    obtain ⟨i, hi⟩ := Option.isSome_iff_exists.1 this
    obtain ⟨fn', h1, h2⟩ := h.all.find hi
    rw [hf] at h1
    cases h1
    simp [hi, h2]
  | none =>
    cases hi : t.find g with
    | none => rfl
    | some i =>
      obtain ⟨fn', h1, _⟩ := h.all.find hi
      rw [hf] at h1
      cases h1
theorem Told.elim (h : Told P t) (g : Nat) : (P.funcs[g]?).elim [] P.leadsTo = (match t.find g with | some i => i.adj | none => []) := by
  rw [← h.find g]
  cases P.funcs[g]? <;> rfl
theorem Told.cv (h : Told P t) : ∀ (fuel : Nat) (todo seen : List Nat), P.closureVia fuel todo seen = cvG t fuel todo seen
  | 0, _, _ => by simp [Program.closureVia, cvG]
  | n + 1, [], _ => by simp [Program.closureVia, cvG]
  | n + 1, f :: todo, seen => by
    simp only [Program.closureVia, cvG]
    cases hc : seen.contains f with
    | true => simp only [if_true]; exact Told.cv h n todo seen
    | false => simp only [h.elim f]; exact Told.cv h n _ _
def fuelG (t : T FI) (n : Nat) : Nat := 1 + ((List.range n).map fun g => (match t.find g with | some i => i.adj.length | none => 0) + 1).sum
theorem Told.fuel (h : Told P t) : 1 + (P.funcs.toList.map fun g => (P.leadsTo g).length + 1).sum = fuelG t P.funcs.size := by
  unfold fuelG
  congr 2
  apply List.ext_getElem?
  intro i
  rw [List.getElem?_map, List.getElem?_map, Array.getElem?_toList]
  by_cases hi : i < P.funcs.size
  · rw [List.getElem?_range hi]
    have := h.find i
    rw [Array.getElem?_eq_getElem hi] at this ⊢
    simp only [Option.map_some] at this ⊢
    rw [← this]
    rfl
  · rw [List.getElem?_eq_none (by simpa using hi), Array.getElem?_eq_none (by omega)]
    rfl
theorem Told.closure (h : Told P t) {n : Nat} (hn : P.funcs.size = n) (f : Nat) : P.closure f = cvG t (fuelG t n) [f] [] := by
  unfold Program.closure
  rw [h.fuel, h.cv, hn]
theorem Told.inPlace (h : Told P t) {f : Nat} {L : List Nat} (hL : P.closure f = L) : P.inPlace f = L.filterMap fun g => (t.find g).bind (·.ip) := by
  unfold Program.inPlace
  rw [hL]
  congr 1
  funext g
  rw [← h.find g]
  cases P.funcs[g]? <;> rfl
theorem Told.unfollowed (h : Told P t) {f : Nat} {L : List Nat} (hL : P.closure f = L) : P.unfollowed f = L.any fun g => (t.find g).any (·.unf) := by
  unfold Program.unfollowed
  rw [hL]
  congr 1
  funext g
  rw [← h.find g]
  cases P.funcs[g]? <;> rfl
theorem recurses_of {f : Nat} (h : P.unfollowed f = true) : P.recurses f = true := by
  unfold Program.recurses
  rw [h]
  rfl
theorem Told.varsNamed (h : Told P t) {f : Nat} {L : List Nat} (hL : P.closure f = L) : P.varsNamed f =
    (((L.flatMap fun g => match t.find g with | some i => i.gl | none => []).eraseDups).filterMap (fun g => (P.globals[g]?).map (·.name)) ++ L.filterMap fun g => (t.find g).bind (·.er)).eraseDups := by
  unfold Program.varsNamed
  rw [hL]
  congr 2
  · congr 2
    congr 1
    funext g
    rw [← h.find g]
    cases P.funcs[g]? <;> rfl
  · congr 1
    funext g
    rw [← h.find g]
    cases P.funcs[g]? <;> rfl
def noneGo (t : T FI) : Bool := t.allB fun _ i => !i.go
theorem Told.goes (h : Told P t) (hg : noneGo t = true) (f : Nat) : P.goes f = false := by
  have hall : ∀ (g : Nat) (fn : Func), P.funcs[g]? = some fn → fn.goes = false := fun g fn hf => by
    have h1 := h.find g
    rw [hf] at h1
    have := (T.allB_spec hg).find h1.symm
    simpa [fiOf] using this
  unfold Program.goes
  rw [Bool.or_eq_false_iff]
  refine ⟨?_, ?_⟩
  · rw [List.any_eq_false]
    intro g _
    cases hf : P.funcs[g]? with
    | none => simp
    | some fn => simp [hall g fn hf]
  · rw [Bool.and_eq_false_iff]
    right
    rw [Array.any_eq_false]
    intro i hi
    simp [hall i _ (Array.getElem?_eq_getElem hi)]
end
end Go.Ev

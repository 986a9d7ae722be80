/-
The abstract evaluator: what an abstract value says of a value in a world, and how it lives on.
-/
import Derived.Test.YtpolhfiikbmplaaGreatDoorEv0
import Derived.Below
import Derived.Laws.Rows
namespace Go.Ev

/-! ### lists -/
section
variable {α β : Type}
theorem nth_eq (l : List α) (n : Nat) : nth l n = l[n]? := by
  induction l generalizing n with
  | nil => simp [nth]
  | cons x l ih => cases n with
    | zero => simp [nth]
    | succ n => simp [nth, ih]
theorem setNth_eq (l : List α) (n : Nat) (y : α) : setNth l n y = l.set n y := by
  induction l generalizing n with
  | nil => simp [setNth]
  | cons x l ih => cases n with
    | zero => simp [setNth]
    | succ n => simp [setNth, ih]
theorem takeX_eq {n : Nat} {l r : List α} (h : takeX n l = some r) : r = l.take n ∧ r.length = n := by
  induction n generalizing l r with
  | zero => simp [takeX] at h; simp [← h]
  | succ n ih => cases l with
    | nil => simp [takeX] at h
    | cons x l =>
      simp only [takeX] at h
      split at h
      · rename_i r' hr
        obtain ⟨e, hl⟩ := ih hr
        simp only [Option.some.injEq] at h
        subst h
        subst e
        simp only [List.take_succ_cons, List.length_cons, true_and]
        omega
      · cases h
theorem takeX_len {n : Nat} {l r : List α} (h : takeX n l = some r) : n ≤ l.length := by
  obtain ⟨e, hl⟩ := takeX_eq h
  subst e
  rw [List.length_take] at hl
  omega
theorem takeX_all (l : List α) : takeX l.length l = some l := by
  induction l with
  | nil => rfl
  | cons x l ih => simp [takeX, ih]
theorem putAt_eq {l ys r : List α} {i : Nat} (h : putAt l i ys = some r) : r = l.take i ++ ys ++ l.drop (i + ys.length) ∧ i + ys.length ≤ l.length := by
  induction l generalizing i r with
  | nil =>
    cases i with
    | zero =>
      simp only [putAt] at h
      split at h
      · rename_i r' hr
        have := takeX_len hr
        simp only [Option.some.injEq] at h
        subst h
        simp at this ⊢
        exact this
      · cases h
    | succ i => simp [putAt] at h
  | cons x l ih =>
    cases i with
    | zero =>
      simp only [putAt] at h
      split at h
      · rename_i r' hr
        have := takeX_len hr
        simp only [Option.some.injEq] at h
        subst h
        simp only [List.take_zero, List.nil_append, Nat.zero_add, true_and]
        exact this
      · cases h
    | succ i =>
      simp only [putAt] at h
      split at h
      · rename_i r' hr
        obtain ⟨e, hl⟩ := ih hr
        simp only [Option.some.injEq] at h
        subst h
        subst e
        constructor
        · simp [Nat.add_right_comm]
        · simp only [List.length_cons]; omega
      · cases h
theorem allB_iff {p : α → Bool} {l : List α} : allB p l = true ↔ ∀ x ∈ l, p x = true := by
  induction l with
  | nil => simp [allB]
  | cons x l ih =>
    simp only [allB]
    cases h : p x <;> simp [h, ih]
theorem rep_length (n : Nat) (l : List α) : (rep n l).length = n * l.length := by
  induction n with
  | zero => simp [rep]
  | succ n ih => simp [rep, ih, Nat.succ_mul]; omega
theorem mapO_length {f : α → Option β} {l : List α} {r : List β} (h : mapO f l = some r) : r.length = l.length := by
  induction l generalizing r with
  | nil => simp [mapO] at h; simp [← h]
  | cons x l ih =>
    simp only [mapO] at h
    split at h
    · cases h
    · split at h
      · rename_i hr
        simp only [Option.some.injEq] at h
        subst h
        simp [ih hr]
      · cases h
theorem mapO_get {f : α → Option β} {l : List α} {r : List β} (h : mapO f l = some r) (i : Nat) (x : α) (hx : l[i]? = some x) : ∃ y, r[i]? = some y ∧ f x = some y := by
  induction l generalizing r i with
  | nil => simp at hx
  | cons z l ih =>
    simp only [mapO] at h
    split at h
    · cases h
    · rename_i y hy
      split at h
      · rename_i r' hr
        simp only [Option.some.injEq] at h
        subst h
        cases i with
        | zero => simp at hx; subst hx; exact ⟨y, by simp, hy⟩
        | succ i => simp at hx; simpa using ih hr i hx
      · cases h
end

/-! ### the abstract heap -/
theorem hget_lt {h : AH} {b : Nat} {k : ABlk} (e : hget h b = some k) : b < h.n := by
  unfold hget at e
  split at e
  · rename_i hb; simpa [Nat.blt_eq] using hb
  · cases e
theorem hget_eq {h : AH} {b : Nat} (hb : b < h.n) : hget h b = h.l[h.n - 1 - b]? := by
  unfold hget
  rw [show Nat.blt b h.n = true by simpa [Nat.blt_eq] using hb]
  simp only [nth_eq]
theorem hget_hnew_new (h : AH) (k : ABlk) : hget (hnew h k) h.n = some k := by
  rw [hget_eq (by simp [hnew])]
  simp [hnew]
theorem hget_hnew_old (h : AH) (k : ABlk) {b : Nat} (hb : b < h.n) : hget (hnew h k) b = hget h b := by
  rw [hget_eq (by simp [hnew]; omega), hget_eq hb]
  simp only [hnew]
  rw [show h.n + 1 - 1 - b = (h.n - 1 - b) + 1 by omega, List.getElem?_cons_succ]
theorem hnew_n (h : AH) (k : ABlk) : (hnew h k).n = h.n + 1 := rfl
theorem hset_n (h : AH) (b : Nat) (k : ABlk) : (hset h b k).n = h.n := by unfold hset; split <;> rfl
theorem hset_len (h : AH) (b : Nat) (k : ABlk) : (hset h b k).l.length = h.l.length := by
  unfold hset
  split
  · simp [setNth_eq]
  · rfl
theorem hget_hset_same {h : AH} {b : Nat} {k : ABlk} (hb : b < h.n) (hl : h.l.length = h.n) : hget (hset h b k) b = some k := by
  rw [hget_eq (by rw [hset_n]; exact hb), hset_n]
  unfold hset
  rw [show Nat.blt b h.n = true by simpa [Nat.blt_eq] using hb]
  simp only [setNth_eq]
  rw [List.getElem?_set_self (by omega)]
theorem hget_hset_other {h : AH} {b b' : Nat} {k : ABlk} (hne : b ≠ b') : hget (hset h b k) b' = hget h b' := by
  unfold hset
  split
  · rename_i hb
    have hb : b < h.n := by simpa [Nat.blt_eq] using hb
    obtain ⟨hn, l⟩ := h
    unfold hget
    simp only [nth_eq, setNth_eq]
    split
    · rename_i h'
      have h' : b' < hn := by simpa [Nat.blt_eq] using h'
      simp only at hb
      rw [List.getElem?_set_ne (by omega)]
    · rfl
  · rfl

/-! ### what a value says in a world -/
def CapOk (cap : Option Nat) (c : Nat) : Prop := ∀ k, cap = some k → c = k
/-- A block of cells, none frozen, has room for m cells. -/
def Room (w : World) (k m : Nat) : Prop := ∃ c e, w.heap[k]? = some (.cells c e (0, 0)) ∧ m ≤ c.size

mutual
/-- n: how many blocks of the abstract heap a value may name. -/
inductive VR (w : World) (bad : Nat → Prop) (ρ : Nat → Nat) : Nat → AV → Value → Prop
  | any {n : Nat} (v : Value) : VR w bad ρ n .any v
  | bool {n : Nat} (b : Bool) : VR w bad ρ n (.bool b) (.bool b)
  | int {n : Nat} (k : IntKind) (i : Int) : VR w bad ρ n (.int k i) (.int k i)
  | str {n : Nat} (s : ByteArray) : VR w bad ρ n (.str s.data.toList) (.string s)
  | nilp {n : Nat} : VR w bad ρ n .nilp (.pointer none)
  | ptr {n : Nat} (b off : Nat) : b < n → VR w bad ρ n (.ptr b off) (.pointer (some ⟨ρ b, off, none⟩))
  | ip {n : Nat} (b off : Nat) (cs : List AV) : IM w bad ρ b off cs → VR w bad ρ n (.ip cs) (.pointer (some ⟨b, off, none⟩))
  | nils {n : Nat} : VR w bad ρ n .nils (.slice none 0 0)
  | sl0 {n : Nat} (k : Nat) (a : Option Addr) (c : Nat) (cap : Option Nat) : k ≤ c → CapOk cap c → VR w bad ρ n (.sl k [] cap) (.slice a k c)
  | sl {n : Nat} (k b off c : Nat) (d : AV) (cs : List AV) (cap : Option Nat) : k ≤ c → CapOk cap c → IM w bad ρ b off (d :: cs) →
      VR w bad ρ n (.sl k (d :: cs) cap) (.slice (some ⟨b, off, none⟩) k c)
  | sr {n : Nat} (b off sz k c : Nat) (cap : Option Nat) : b < n → k ≤ c → CapOk cap c → Room w (ρ b) (off + c * sz) →
      VR w bad ρ n (.sr b off sz k cap) (.slice (some ⟨ρ b, off, none⟩) k c)
  | func {n : Nat} (f : Fn) (a : List AV) (a' : List Value) (c : List AV) (c' : List Value) : VRs w bad ρ n a a' → VRs w bad ρ n c c' →
      VR w bad ρ n (.func f a c) (.func f a'.toArray c'.toArray)
  | nilf {n : Nat} : VR w bad ρ n .nilf .nilFunc
  | ifc {n : Nat} (t : TypeId) (v : AV) (u : Value) : VR w bad ρ n v u → VR w bad ρ n (.ifc t v) (.iface t u)
  | nili {n : Nat} : VR w bad ρ n .nili .nilIface
  | agg {n : Nat} (cs : List AV) (us : List Value) : VRs w bad ρ n cs us → VR w bad ρ n (.agg cs) (.agg us.toArray)
  | tup {n : Nat} (cs : List AV) (us : List Value) : VRs w bad ρ n cs us → VR w bad ρ n (.tup cs) (.tuple us.toArray)
  | sstr {n : Nat} (ne : List (List UInt8)) (s : ByteArray) : (∀ t ∈ ne, s.data.toList ≠ t) → VR w bad ρ n (.sstr ne) (.string s)
  | siv {n : Nat} (k : IntKind) (lo hi i : Int) : lo ≤ i → i ≤ hi → VR w bad ρ n (.siv k lo hi) (.int k i)
inductive VRs (w : World) (bad : Nat → Prop) (ρ : Nat → Nat) : Nat → List AV → List Value → Prop
  | nil {n : Nat} : VRs w bad ρ n [] []
  | cons {n : Nat} {v : AV} {u : Value} {vs : List AV} {us : List Value} : VR w bad ρ n v u → VRs w bad ρ n vs us → VRs w bad ρ n (v :: vs) (u :: us)
/-- Cells that nobody writes any more. -/
inductive IM (w : World) (bad : Nat → Prop) (ρ : Nat → Nat) : Nat → Nat → List AV → Prop
  | nil {b off : Nat} : IM w bad ρ b off []
  | cons {b off : Nat} {v : AV} {u : Value} {vs : List AV} : ¬ bad b → w.cell? ⟨b, off, none⟩ = some u → VR w bad ρ 0 v u → IM w bad ρ b (off + 1) vs → IM w bad ρ b off (v :: vs)
end

/-- How what is known goes over to another world. -/
structure Carry (w : World) (bad : Nat → Prop) (ρ : Nat → Nat) (n : Nat) (w' : World) (bad' : Nat → Prop) (ρ' : Nat → Nat) (n' : Nat) : Prop where
  cell : ∀ b off u, ¬ bad b → w.cell? ⟨b, off, none⟩ = some u → w'.cell? ⟨b, off, none⟩ = some u ∧ ¬ bad' b
  ren : ∀ b, b < n → ρ' b = ρ b
  le : n ≤ n'
  room : ∀ k m, Room w k m → Room w' k m
theorem Carry.low {w : World} {bad : Nat → Prop} {ρ : Nat → Nat} {n : Nat} {w' : World} {bad' : Nat → Prop} {ρ' : Nat → Nat} {n' : Nat} (h : Carry w bad ρ n w' bad' ρ' n') : Carry w bad ρ 0 w' bad' ρ' 0 :=
  ⟨h.cell, fun _ hb => absurd hb (Nat.not_lt_zero _), Nat.le_refl _, h.room⟩
mutual
theorem VR.tr {w : World} {bad : Nat → Prop} {ρ : Nat → Nat} {n : Nat} {v : AV} {u : Value} {w' : World} {bad' : Nat → Prop} {ρ' : Nat → Nat} {n' : Nat}
    (h : VR w bad ρ n v u) (k : Carry w bad ρ n w' bad' ρ' n') : VR w' bad' ρ' n' v u := by
  cases h with
  | any => exact .any _
  | bool => exact .bool _
  | int => exact .int _ _
  | str => exact .str _
  | nilp => exact .nilp
  | ptr b off hb => rw [← k.ren b hb]; exact .ptr _ _ (Nat.lt_of_lt_of_le hb k.le)
  | ip b off cs h => exact .ip _ _ _ (h.tr k.low)
  | nils => exact .nils
  | sl0 m a c cap h1 h2 => exact .sl0 _ _ _ _ h1 h2
  | sl m b off c d cs cap h1 h2 h3 => exact .sl _ _ _ _ _ _ _ h1 h2 (h3.tr k.low)
  | sr b off sz m c cap hb h1 h2 h3 =>
    rw [← k.ren b hb] at h3 ⊢
    exact .sr _ _ _ _ _ _ (Nat.lt_of_lt_of_le hb k.le) h1 h2 (k.room _ _ h3)
  | func f a a' c c' h1 h2 => exact .func _ _ _ _ _ (h1.tr k) (h2.tr k)
  | nilf => exact .nilf
  | ifc t v u h => exact .ifc _ _ _ (h.tr k)
  | nili => exact .nili
  | agg cs us h => exact .agg _ _ (h.tr k)
  | tup cs us h => exact .tup _ _ (h.tr k)
  | sstr ne s h => exact .sstr _ _ h
  | siv k lo hi i h1 h2 => exact .siv _ _ _ _ h1 h2
theorem VRs.tr {w : World} {bad : Nat → Prop} {ρ : Nat → Nat} {n : Nat} {v : List AV} {u : List Value} {w' : World} {bad' : Nat → Prop} {ρ' : Nat → Nat} {n' : Nat}
    (h : VRs w bad ρ n v u) (k : Carry w bad ρ n w' bad' ρ' n') : VRs w' bad' ρ' n' v u := by
  cases h with
  | nil => exact .nil
  | cons h1 h2 => exact .cons (h1.tr k) (h2.tr k)
theorem IM.tr {w : World} {bad : Nat → Prop} {ρ : Nat → Nat} {b off : Nat} {cs : List AV} {w' : World} {bad' : Nat → Prop} {ρ' : Nat → Nat}
    (h : IM w bad ρ b off cs) (k : Carry w bad ρ 0 w' bad' ρ' 0) : IM w' bad' ρ' b off cs := by
  cases h with
  | nil => exact .nil
  | cons h1 h2 h3 h4 => exact .cons (k.cell _ _ _ h1 h2).2 (k.cell _ _ _ h1 h2).1 (h3.tr k) (h4.tr k)
end

section
variable {w : World} {bad : Nat → Prop} {ρ : Nat → Nat} {n : Nat}
theorem VRs.length {vs : List AV} {us : List Value} (h : VRs w bad ρ n vs us) : vs.length = us.length := by
  induction vs generalizing us with
  | nil => cases h; rfl
  | cons v vs ih => cases h with | cons h1 h2 => simp [ih h2]
theorem VRs.get {vs : List AV} {us : List Value} (h : VRs w bad ρ n vs us) {i : Nat} {v : AV} (hv : vs[i]? = some v) : ∃ u, us[i]? = some u ∧ VR w bad ρ n v u := by
  induction vs generalizing us i with
  | nil => simp at hv
  | cons x vs ih => cases h with
    | cons h1 h2 => cases i with
      | zero => simp at hv; subst hv; exact ⟨_, by simp, h1⟩
      | succ i => simp at hv; simpa using ih h2 hv
theorem VRs.get' {vs : List AV} {us : List Value} (h : VRs w bad ρ n vs us) {i : Nat} {u : Value} (hu : us[i]? = some u) : ∃ v, vs[i]? = some v ∧ VR w bad ρ n v u := by
  have hl := h.length
  have hi : i < vs.length := by
    have := (List.getElem?_eq_some_iff.1 hu).1
    omega
  obtain ⟨u', hu', hr⟩ := h.get (List.getElem?_eq_getElem hi)
  rw [hu] at hu'
  cases hu'
  exact ⟨_, List.getElem?_eq_getElem hi, hr⟩
theorem VRs.app {vs vs' : List AV} {us us' : List Value} (h : VRs w bad ρ n vs us) (h' : VRs w bad ρ n vs' us') : VRs w bad ρ n (vs ++ vs') (us ++ us') := by
  induction vs generalizing us with
  | nil => cases h; exact h'
  | cons v vs ih => cases h with | cons h1 h2 => exact .cons h1 (ih h2)
theorem VRs.take {vs : List AV} {us : List Value} (h : VRs w bad ρ n vs us) (k : Nat) : VRs w bad ρ n (vs.take k) (us.take k) := by
  induction vs generalizing us k with
  | nil => cases h; simp; exact .nil
  | cons v vs ih => cases h with
    | cons h1 h2 => cases k with
      | zero => exact .nil
      | succ k => exact .cons h1 (ih h2 k)
theorem VRs.drop {vs : List AV} {us : List Value} (h : VRs w bad ρ n vs us) (k : Nat) : VRs w bad ρ n (vs.drop k) (us.drop k) := by
  induction vs generalizing us k with
  | nil => cases h; simp; exact .nil
  | cons v vs ih => cases h with
    | cons h1 h2 => cases k with
      | zero => exact .cons h1 h2
      | succ k => exact ih h2 k
theorem VRs.set {vs : List AV} {us : List Value} (h : VRs w bad ρ n vs us) (i : Nat) {v : AV} {u : Value} (hv : VR w bad ρ n v u) : VRs w bad ρ n (vs.set i v) (us.set i u) := by
  induction vs generalizing us i with
  | nil => cases h; exact .nil
  | cons x vs ih => cases h with
    | cons h1 h2 => cases i with
      | zero => exact .cons hv h2
      | succ i => exact .cons h1 (ih h2 i)
theorem VRs.rep {vs : List AV} {us : List Value} (h : VRs w bad ρ n vs us) (k : Nat) : VRs w bad ρ n (rep k vs) (rep k us) := by
  induction k with
  | zero => exact .nil
  | succ k ih => exact h.app ih
theorem VRs.replicate {v : AV} {u : Value} (h : VR w bad ρ n v u) (k : Nat) : VRs w bad ρ n (List.replicate k v) (List.replicate k u) := by
  induction k with
  | zero => exact .nil
  | succ k ih => exact .cons h ih
theorem VRs.map {α : Type} {f : α → AV} {g : α → Value} {l : List α} (h : ∀ x ∈ l, VR w bad ρ n (f x) (g x)) : VRs w bad ρ n (l.map f) (l.map g) := by
  induction l with
  | nil => exact .nil
  | cons x l ih => exact .cons (h x List.mem_cons_self) (ih fun y hy => h y (List.mem_cons_of_mem _ hy))
theorem VRs.mk {vs : List AV} {us : List Value} (hl : vs.length = us.length) (h : ∀ (i : Nat) (v : AV) (u : Value), vs[i]? = some v → us[i]? = some u → VR w bad ρ n v u) : VRs w bad ρ n vs us := by
  induction vs generalizing us with
  | nil => cases us with
    | nil => exact .nil
    | cons => simp at hl
  | cons v vs ih => cases us with
    | nil => simp at hl
    | cons u us => exact .cons (h 0 v u (by simp) (by simp)) (ih (by simpa using hl) fun i v' u' h1 h2 => h (i + 1) v' u' (by simpa using h1) (by simpa using h2))
theorem ofScalar_VR (v : Value) : VR w bad ρ n (ofScalar v) v := by
  cases v with
  | bool b => exact .bool b
  | int k n => exact .int k n
  | string s => exact .str s
  | pointer a => cases a <;> simp only [ofScalar] <;> first | exact .nilp | exact .any _
  | slice a l c =>
    cases a with
    | some a => exact .any _
    | none =>
      cases l with
      | succ l => exact .any _
      | zero => cases c with
        | zero => exact .nils
        | succ c => exact .any _
  | func f a b =>
    simp only [ofScalar]
    split
    · rename_i ha hb
      have e1 : a = #[] := by simpa using ha
      have e2 : b = #[] := by simpa using hb
      subst e1
      subst e2
      exact .func f [] [] [] [] .nil .nil
    · exact .any _
  | nilFunc => exact .nilf
  | nilIface => exact .nili
  | tuple vs =>
    simp only [ofScalar]
    split
    · rename_i ha
      have e1 : vs = #[] := by simpa using ha
      subst e1
      exact .tup [] [] .nil
    · exact .any _
  | _ => exact .any _
theorem ofVal_VR (v : Value) : VR w bad ρ n (ofVal v) v := by
  have h0 := ofScalar_VR (w := w) (bad := bad) (ρ := ρ) (n := n) v
  cases v with
  | agg cs =>
    have h : VRs w bad ρ n (cs.toList.map ofScalar) (cs.toList.map id) := VRs.map fun x _ => ofScalar_VR x
    rw [List.map_id] at h
    have := VR.agg (w := w) (bad := bad) (ρ := ρ) (n := n) _ _ h
    simpa [ofVal] using this
  | _ => exact h0
/-- The cells of a value, where it is known. -/
theorem VR.cells {v : AV} {u : Value} (h : VR w bad ρ n v u) (hv : v ≠ .any) : VRs w bad ρ n v.cells u.cells.toList := by
  cases h with
  | any => exact absurd rfl hv
  | agg cs us h => simpa [AV.cells, Value.cells] using h
  | _ => exact .cons (by constructor <;> assumption) .nil
theorem VR.one {v : AV} {u : Value} (h : VR w bad ρ n v u) (hv : v.one = true) : u.oneCell' = true := by
  cases h <;> first | rfl | (simp [AV.one] at hv)
theorem VRs.one {vs : List AV} {us : List Value} (h : VRs w bad ρ n vs us) (hv : allB AV.one vs = true) : ∀ u ∈ us, u.oneCell' = true := by
  intro u hu
  obtain ⟨i, hi⟩ := List.getElem?_of_mem hu
  obtain ⟨v, hv', hr⟩ := h.get' hi
  exact hr.one (allB_iff.1 hv v (List.mem_of_getElem? hv'))
theorem IM.get {b off : Nat} {cs : List AV} (h : IM w bad ρ b off cs) {i : Nat} {v : AV} (hv : cs[i]? = some v) : ¬ bad b ∧ ∃ u, w.cell? ⟨b, off + i, none⟩ = some u ∧ VR w bad ρ 0 v u := by
  induction cs generalizing off i with
  | nil => simp at hv
  | cons x cs ih => cases h with
    | cons h1 h2 h3 h4 => cases i with
      | zero => simp at hv; subst hv; exact ⟨h1, _, h2, h3⟩
      | succ i => simp at hv; obtain ⟨h5, u, h6, h7⟩ := ih h4 hv; exact ⟨h5, u, by rw [← h6]; congr 2; omega, h7⟩
theorem IM.drop {b off : Nat} {cs : List AV} (h : IM w bad ρ b off cs) (k : Nat) : IM w bad ρ b (off + k) (cs.drop k) := by
  induction cs generalizing off k with
  | nil => simp; exact .nil
  | cons x cs ih => cases h with
    | cons h1 h2 h3 h4 => cases k with
      | zero => exact .cons h1 h2 h3 h4
      | succ k => have := ih h4 k; rw [show off + 1 + k = off + (k + 1) by omega] at this; exact this
theorem IM.take {b off : Nat} {cs : List AV} (h : IM w bad ρ b off cs) (k : Nat) : IM w bad ρ b off (cs.take k) := by
  induction cs generalizing off k with
  | nil => simp; exact .nil
  | cons x cs ih => cases h with
    | cons h1 h2 h3 h4 => cases k with
      | zero => exact .nil
      | succ k => exact .cons h1 h2 h3 (ih h4 k)
theorem IM.mk {b off : Nat} {cs : List AV} (hb : ¬ bad b) (h : ∀ (i : Nat) (v : AV), cs[i]? = some v → ∃ u, w.cell? ⟨b, off + i, none⟩ = some u ∧ VR w bad ρ 0 v u) : IM w bad ρ b off cs := by
  induction cs generalizing off with
  | nil => exact .nil
  | cons x cs ih =>
    obtain ⟨u, h1, h2⟩ := h 0 x (by simp)
    exact .cons hb h1 h2 (ih fun i v hv => by
      obtain ⟨u, h3, h4⟩ := h (i + 1) v (by simpa using hv)
      exact ⟨u, by rw [← h3]; congr 2; omega, h4⟩)
/-- As values. -/
theorem IM.vals {b off : Nat} {cs : List AV} (h : IM w bad ρ b off cs) : ∃ us, VRs w bad ρ 0 cs us ∧ ∀ i u, us[i]? = some u → w.cell? ⟨b, off + i, none⟩ = some u := by
  induction cs generalizing off with
  | nil => exact ⟨[], .nil, by simp⟩
  | cons x cs ih => cases h with
    | cons h1 h2 h3 h4 =>
      obtain ⟨us, h5, h6⟩ := ih h4
      refine ⟨_ :: us, .cons h3 h5, fun i u hu => ?_⟩
      cases i with
      | zero => simp at hu; subst hu; exact h2
      | succ i => simp at hu; rw [← h6 i u hu]; congr 2; omega
theorem VR.up {v : AV} {u : Value} (h : VR w bad ρ 0 v u) (m : Nat) : VR w bad ρ m v u :=
  h.tr ⟨fun _ _ _ hb hc => ⟨hc, hb⟩, fun _ hb => absurd hb (Nat.not_lt_zero _), Nat.zero_le _, fun _ _ hr => hr⟩
theorem VRs.up {v : List AV} {u : List Value} (h : VRs w bad ρ 0 v u) (m : Nat) : VRs w bad ρ m v u :=
  h.tr ⟨fun _ _ _ hb hc => ⟨hc, hb⟩, fun _ hb => absurd hb (Nat.not_lt_zero _), Nat.zero_le _, fun _ _ hr => hr⟩
end

/-! ### a context -/
structure X where
  w : World
  h : AH
  ρ : Nat → Nat
  out : Nat → Prop
def X.live (x : X) (k : Nat) : Prop := ∃ b cs, hget x.h b = some (.cells cs) ∧ x.ρ b = k
def X.bad (x : X) (k : Nat) : Prop := x.out k ∨ x.live k
abbrev X.V (x : X) (v : AV) (u : Value) : Prop := VR x.w x.bad x.ρ x.h.n v u
abbrev X.Vs (x : X) (v : List AV) (u : List Value) : Prop := VRs x.w x.bad x.ρ x.h.n v u
/-- The program's tables stand. -/
def Gl (w : World) (bad : Nat → Prop) (ρ : Nat → Nat) : Prop := ∀ g cs, gget g = some cs → IM w bad ρ g 0 cs
theorem Gl.tr {w : World} {bad : Nat → Prop} {ρ : Nat → Nat} {w' : World} {bad' : Nat → Prop} {ρ' : Nat → Nat} (h : Gl w bad ρ) (k : Carry w bad ρ 0 w' bad' ρ' 0) : Gl w' bad' ρ' := fun g cs hg => (h g cs hg).tr k
/-- The abstract heap says what lies in the world. -/
structure WR (x : X) : Prop where
  len : x.h.l.length = x.h.n
  cells : ∀ b cs, hget x.h b = some (.cells cs) → ∃ c e us, x.w.heap[x.ρ b]? = some (.cells c e (0, 0)) ∧ x.Vs cs us ∧ ∃ r, c.toList = us ++ r
  ro : ∀ b cs, hget x.h b = some (.ro cs) → ¬ x.bad (x.ρ b) ∧ ∃ c e us, x.w.heap[x.ρ b]? = some (.cells c e (0, 0)) ∧ VRs x.w x.bad x.ρ 0 cs us ∧ ∃ r, c.toList = us ++ r
  inj : ∀ b b' cs cs', hget x.h b = some (.cells cs) → hget x.h b' = some (.cells cs') → x.ρ b = x.ρ b' → b = b'
  outOk : ∀ b cs, hget x.h b = some (.cells cs) → ¬ x.out (x.ρ b)
  outLt : ∀ k, x.out k → k < x.w.heap.size
  gl : Gl x.w x.bad x.ρ
/-- From one state to a later one of the same context. -/
structure Ext (x x' : X) : Prop where
  size : x.w.heap.size ≤ x'.w.heap.size
  os : x'.w.os = x.w.os
  tape : x'.w.tape = x.w.tape
  output : x'.w.output = x.w.output
  blk : ∀ i, i < x.w.heap.size → ¬ x.live i → x'.w.heap[i]? = x.w.heap[i]?
  live : ∀ i, i < x.w.heap.size → x'.live i → x.live i
  out : x'.out = x.out
  ren : ∀ b, b < x.h.n → x'.ρ b = x.ρ b
  le : x.h.n ≤ x'.h.n
  room : ∀ k m, Room x.w k m → Room x'.w k m
theorem Ext.refl (x : X) : Ext x x := ⟨Nat.le_refl _, rfl, rfl, rfl, fun _ _ _ => rfl, fun _ _ h => h, rfl, fun _ _ => rfl, Nat.le_refl _, fun _ _ h => h⟩
theorem Ext.trans {x y z : X} (h : Ext x y) (k : Ext y z) : Ext x z where
  size := Nat.le_trans h.size k.size
  os := k.os.trans h.os
  tape := k.tape.trans h.tape
  output := k.output.trans h.output
  blk := fun i hi hl => (k.blk i (Nat.lt_of_lt_of_le hi h.size) fun hl' => hl (h.live i hi hl')).trans (h.blk i hi hl)
  live := fun i hi hl => h.live i hi (k.live i (Nat.lt_of_lt_of_le hi h.size) hl)
  out := k.out.trans h.out
  ren := fun b hb => (k.ren b (Nat.lt_of_lt_of_le hb h.le)).trans (h.ren b hb)
  le := Nat.le_trans h.le k.le
  room := fun a b hr => k.room a b (h.room a b hr)
theorem cell_lt {w : World} {b off : Nat} {u : Value} (h : w.cell? ⟨b, off, none⟩ = some u) : b < w.heap.size := World.block_lt_of_cell? w _ h
theorem Ext.carry {x x' : X} (h : Ext x x') : Carry x.w x.bad x.ρ x.h.n x'.w x'.bad x'.ρ x'.h.n where
  cell := fun b off u hb hc => by
    have hlt := cell_lt hc
    refine ⟨?_, ?_⟩
    · rw [World.cell?_of_block (w := x.w) (h.blk b hlt fun hl => hb (.inr hl))]; exact hc
    · rintro (ho | hl)
      · exact hb (.inl (by rw [← h.out]; exact ho))
      · exact hb (.inr (h.live b hlt hl))
  ren := h.ren
  le := h.le
  room := h.room
theorem Ext.V {x x' : X} (h : Ext x x') {v : AV} {u : Value} (hv : x.V v u) : x'.V v u := hv.tr h.carry
theorem Ext.Vs {x x' : X} (h : Ext x x') {v : List AV} {u : List Value} (hv : x.Vs v u) : x'.Vs v u := hv.tr h.carry
end Go.Ev

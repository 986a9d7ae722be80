/-
The abstract evaluator: the operations that only read do in the model what the evaluator says.
-/
import Derived.Test.YtpolhfiikbmplaaGreatDoorEv1
import Derived.Laws.Entries
import Derived.Laws.Strings2
import Derived.Laws.Concat
import Derived.Laws.Append
import Derived.Laws.StructEq
namespace Go.Ev

/-! ### what is asked of the table of types -/
def fieldsOk (cmp : Bool) : List (Nat × TypeId) → List Field → Bool
  | [], [] => true
  | (o, t) :: l, f :: fs => Nat.beq o f.offset && Nat.beq t f.type && (!cmp || f.name != "_") && fieldsOk cmp l fs
  | _, _ => false
def kOk : TK → TypeDesc → Bool
  | .int a, .int b => decide (a = b)
  | .bool, .bool => true
  | .str, .string => true
  | .ptr, .pointer _ => true
  | .func, .func _ _ _ => true
  | .iface, .interface _ => true
  | .map, .map _ _ => true
  | .slice e, .slice e' => Nat.beq e e'
  | .arr n e, .array m e' => Nat.beq n m && Nat.beq e e'
  | .struct c fs, .struct gs => fieldsOk c fs gs.toList
  | _, _ => false
structure TyOk (P : Program) (t : TypeId) (i : TI) : Prop where
  und : ∃ d, P.underlying t = some d ∧ kOk i.k d = true
  info : ∃ f, P.info? t = some f ∧ f.size = i.sz ∧ f.bytes = i.bytes ∧ ∃ z, f.zero = some z ∧ i.zero = z.cells.toList.map ofScalar ∧ z.cells.size = i.sz ∧
    (i.k.agg = true → ∃ cs, z = .agg cs) ∧ (i.k.agg = false → z.cells = #[z])
  cmp : ∀ fs, i.k = .struct true fs → P.stoodInHeld t = false ∧ P.eqGuardType P.depth t = false
def TysOk (P : Program) (E : Env) : Prop := ∀ t i, E.ty t = some i → TyOk P t i

theorem fieldsOk_get {cmp : Bool} {l : List (Nat × TypeId)} {fs : List Field} (h : fieldsOk cmp l fs = true) {j : Nat} {p : Nat × TypeId} (hp : l[j]? = some p) : ∃ f, fs[j]? = some f ∧ f.offset = p.1 ∧ f.type = p.2 ∧ (cmp = true → f.name ≠ "_") := by
  induction l generalizing fs j with
  | nil => simp at hp
  | cons q l ih => cases fs with
    | nil => obtain ⟨a, b⟩ := q; simp [fieldsOk] at h
    | cons f fs =>
      obtain ⟨a, b⟩ := q
      simp only [fieldsOk, Bool.and_eq_true] at h
      obtain ⟨⟨⟨h1, h2⟩, h3⟩, h4⟩ := h
      cases j with
      | zero =>
        simp at hp
        subst hp
        refine ⟨f, by simp, (Nat.eq_of_beq_eq_true h1).symm, (Nat.eq_of_beq_eq_true h2).symm, fun hc => ?_⟩
        subst hc
        simpa using h3
      | succ j => simp at hp; simpa using ih h4 hp
theorem fieldsOk_len {cmp : Bool} {l : List (Nat × TypeId)} {fs : List Field} (h : fieldsOk cmp l fs = true) : l.length = fs.length := by
  induction l generalizing fs with
  | nil => cases fs <;> simp [fieldsOk] at h ⊢
  | cons q l ih => cases fs with
    | nil => obtain ⟨a, b⟩ := q; simp [fieldsOk] at h
    | cons f fs =>
      obtain ⟨a, b⟩ := q
      simp only [fieldsOk, Bool.and_eq_true] at h
      simp [ih h.2]

section
variable {P : Program} {E : Env} {x : X}
theorem TyOk.run_isAgg {t : TypeId} {i : TI} (h : TyOk P t i) (w : World) : (isAgg t).run P w = .ok i.k.agg w := by
  obtain ⟨d, hd, hk⟩ := h.und
  simp only [isAgg, Sem.run_bind, run_underlying hd, Result.andThen_ok]
  cases hi : i.k <;> cases d <;> simp_all [kOk, TK.agg]
theorem TyOk.run_sizeOf {t : TypeId} {i : TI} (h : TyOk P t i) (w : World) : (sizeOf t).run P w = .ok i.sz w := by
  obtain ⟨f, hf, hs, _⟩ := h.info
  simp [sizeOf, typeInfo, hf, hs]
theorem TyOk.run_typeInfo {t : TypeId} {i : TI} (h : TyOk P t i) (w : World) : ∃ f, (typeInfo t).run P w = .ok f w ∧ f.size = i.sz ∧ f.bytes = i.bytes := by
  obtain ⟨f, hf, hs, hb, _⟩ := h.info
  exact ⟨f, by simp [typeInfo, hf], hs, hb⟩
theorem TyOk.run_zeroValue {t : TypeId} {i : TI} (h : TyOk P t i) (w : World) : ∃ z, (zeroValue t).run P w = .ok z w ∧ i.zero = z.cells.toList.map ofScalar ∧ z.cells.size = i.sz ∧ (i.k.agg = true → ∃ cs, z = .agg cs) ∧ (i.k.agg = false → z.cells = #[z]) := by
  obtain ⟨f, hf, hs, hb, z, hz, h1, h2, h3⟩ := h.info
  exact ⟨z, by simp [zeroValue, typeInfo, hf, hz], h1, h2, h3⟩
theorem zero_Vs {l : List AV} {z : Value} (h : l = z.cells.toList.map ofScalar) {w : World} {bad : Nat → Prop} {ρ : Nat → Nat} {n : Nat} : VRs w bad ρ n l z.cells.toList := by
  have : VRs w bad ρ n (z.cells.toList.map ofScalar) (z.cells.toList.map id) := VRs.map fun x _ => ofScalar_VR x
  rw [List.map_id] at this
  rw [h]
  exact this
theorem TyOk.slice {t e : TypeId} {i : TI} (h : TyOk P t i) (hk : i.k = .slice e) : P.underlying t = some (.slice e) := by
  obtain ⟨d, hd, hk'⟩ := h.und
  rw [hk] at hk'
  cases d <;> simp [kOk] at hk'
  rw [hd, hk']
theorem TyOk.arr {t e : TypeId} {n : Nat} {i : TI} (h : TyOk P t i) (hk : i.k = .arr n e) : P.underlying t = some (.array n e) := by
  obtain ⟨d, hd, hk'⟩ := h.und
  rw [hk] at hk'
  cases d <;> simp [kOk] at hk'
  rw [hd, hk'.1, hk'.2]
theorem TyOk.struct {t : TypeId} {c : Bool} {fs : List (Nat × TypeId)} {i : TI} (h : TyOk P t i) (hk : i.k = .struct c fs) : ∃ gs, P.underlying t = some (.struct gs) ∧ fieldsOk c fs gs.toList = true := by
  obtain ⟨d, hd, hk'⟩ := h.und
  rw [hk] at hk'
  cases d <;> simp [kOk] at hk'
  exact ⟨_, hd, hk'⟩
theorem TyOk.str {t : TypeId} {i : TI} (h : TyOk P t i) (hk : i.k = .str) : P.underlying t = some .string := by
  obtain ⟨d, hd, hk'⟩ := h.und
  rw [hk] at hk'
  cases d <;> simp [kOk] at hk'
  exact hd
theorem TyOk.int {t : TypeId} {k : IntKind} {i : TI} (h : TyOk P t i) (hk : i.k = .int k) : P.underlying t = some (.int k) := by
  obtain ⟨d, hd, hk'⟩ := h.und
  rw [hk] at hk'
  cases d <;> simp [kOk] at hk'
  rw [hd, hk']

/-! ### numbers, strings -/
theorem aInt_ok {w : World} {bad : Nat → Prop} {ρ : Nat → Nat} {n : Nat} {op : BinOp} {t : TypeId} {k : IntKind} {a b : Int} {v : AV} (h : aInt op k a b = some v) : ∃ u, (binOp op t (.int k a) (.int k b)).run P w = .ok u w ∧ VR w bad ρ n v u := by
  cases op <;> simp only [aInt] at h
  case quo =>
    split at h
    · cases h
    · rename_i hb
      simp only [Option.some.injEq] at h
      subst h
      exact ⟨.int k _, by simp only [binOp_quo, Op.intDiv, if_neg hb]; rfl, .int _ _⟩
  case rem =>
    split at h
    · cases h
    · rename_i hb
      simp only [Option.some.injEq] at h
      subst h
      exact ⟨.int k _, by simp only [binOp_rem, Op.intDiv, if_neg hb]; rfl, .int _ _⟩
  case shl => cases h
  case shr => cases h
  all_goals
    simp only [Option.some.injEq] at h
    subst h
    first
      | exact ⟨.bool _, by simp only [binOp, Op.intCmp, ne_eq, not_true_eq_false, if_false]; rfl, .bool _⟩
      | exact ⟨.int k _, by simp only [binOp, Op.intArith, Op.intBits, ne_eq, not_true_eq_false, if_false]; rfl, .int _ _⟩
theorem aShift_ok {w : World} {bad : Nat → Prop} {ρ : Nat → Nat} {n : Nat} {op : BinOp} {t : TypeId} {k k' : IntKind} {a b : Int} {v : AV} (h : aShift op k a b = some v) (hop : op = .shl ∨ op = .shr) : ∃ u, (binOp op t (.int k a) (.int k' b)).run P w = .ok u w ∧ VR w bad ρ n v u := by
  unfold aShift at h
  split at h
  · cases h
  · rename_i hb
    rcases hop with rfl | rfl <;> simp only [Option.some.injEq] at h <;> subst h
    · exact ⟨.int k _, by simp only [binOp_shl, Op.shift, if_neg hb]; rfl, .int _ _⟩
    · exact ⟨.int k _, by simp only [binOp_shr, Op.shift, if_neg hb]; rfl, .int _ _⟩
theorem aStr_ok {w : World} {bad : Nat → Prop} {ρ : Nat → Nat} {n : Nat} {op : BinOp} {t : TypeId} {a b : ByteArray} {v : AV} (h : aStr op a.data.toList b.data.toList = some v) : ∃ u, (binOp op t (.string a) (.string b)).run P w = .ok u w ∧ VR w bad ρ n v u := by
  cases op <;> simp only [aStr] at h
  case add =>
    split at h
    · rename_i hl
      simp at h
      subst h
      refine ⟨.string (a ++ b), ?_, ?_⟩
      · have : ¬ (((a.size + b.size : Nat) : Int) > 9223372036854775807) := by
          have e1 : a.size = a.data.toList.length := by rw [Array.length_toList]; rfl
          have e2 : b.size = b.data.toList.length := by rw [Array.length_toList]; rfl
          omega
        simp only [binOp, Op.stringOp, IntKind.max_i64, if_neg this]
        rfl
      · have := VR.str (w := w) (bad := bad) (ρ := ρ) (n := n) (a ++ b)
        simpa [ByteArray.data_append] using this
    · cases h
  all_goals first
    | (cases h; done)
    | (simp only [Option.some.injEq] at h
       subst h
       refine ⟨_, by simp only [binOp, Op.stringOp, ByteArray.toList_eq]; rfl, ?_⟩
       exact .bool _)
theorem aUn_ok {w : World} {bad : Nat → Prop} {ρ : Nat → Nat} {n : Nat} {op : UnOp} {a v : AV} {u : Value} (h : aUn op a = some v) (hu : VR w bad ρ n a u) : ∃ u', (Op.unary op u).run P w = .ok u' w ∧ VR w bad ρ n v u' := by
  unfold aUn at h
  split at h
  · cases hu; simp only [Option.some.injEq] at h; subst h; exact ⟨.int _ _, rfl, .int _ _⟩
  · cases hu; simp only [Option.some.injEq] at h; subst h; exact ⟨.int _ _, rfl, .int _ _⟩
  · cases hu; simp only [Option.some.injEq] at h; subst h; exact ⟨.bool _, rfl, .bool _⟩
  · cases h

/-! ### memory that is read -/
theorem hcells_ok (hx : WR x) {b : Nat} {cs : List AV} (h : hcells x.h b = some cs) : ∃ c e us, x.w.heap[x.ρ b]? = some (.cells c e (0, 0)) ∧ x.Vs cs us ∧ ∃ r, c.toList = us ++ r := by
  unfold hcells at h
  split at h
  · rename_i cs' hg
    simp at h
    subst h
    exact hx.cells _ _ hg
  · rename_i cs' hg
    simp at h
    subst h
    obtain ⟨_, c, e, us, h1, h2, h3⟩ := hx.ro _ _ hg
    exact ⟨c, e, us, h1, h2.up _, h3⟩
  · cases h
theorem hcells_lt {h : AH} {b : Nat} {cs : List AV} (e : hcells h b = some cs) : b < h.n := by
  unfold hcells at e
  split at e
  · rename_i hg; exact hget_lt hg
  · rename_i hg; exact hget_lt hg
  · cases e
theorem rd_ok (hx : WR x) {v : AV} {u : Value} {n : Nat} {cs : List AV} (h : rd x.h v n = some cs) (hu : x.V v u) :
    ∃ b off us, u = .pointer (some ⟨b, off, none⟩) ∧ x.Vs cs us ∧ cs.length = n ∧ ∀ i y, us[i]? = some y → x.w.cell? ⟨b, off + i, none⟩ = some y := by
  unfold rd at h
  split at h
  · rename_i b off
    split at h
    · rename_i bs hb
      obtain ⟨c, e, us, h1, h2, r, h3⟩ := hcells_ok hx hb
      obtain ⟨h4, h5⟩ := takeX_eq h
      cases hu
      refine ⟨_, off, (us.drop off).take n, rfl, by rw [h4]; exact (h2.drop off).take n, h5, fun i y hy => ?_⟩
      rw [cell_of_row _ _ _ _ _ _ h1]
      rw [List.getElem?_take] at hy
      split at hy
      · rw [List.getElem?_drop] at hy
        rw [← Array.getElem?_toList, h3, List.getElem?_append_left (List.getElem?_eq_some_iff.1 hy).1]
        exact hy
      · cases hy
    · cases h
  · rename_i bs
    obtain ⟨h4, h5⟩ := takeX_eq h
    cases hu with
    | ip b off _ him =>
      obtain ⟨us, h6, h7⟩ := (him.take n).vals
      exact ⟨b, off, us, rfl, by rw [h4]; exact h6.up _, h5, h7⟩
  · cases h
theorem run_loadCells_at {w : World} {b off : Nat} {us : List Value} (h : ∀ i y, us[i]? = some y → w.cell? ⟨b, off + i, none⟩ = some y) : (loadCells ⟨b, off, none⟩ us.length).run P w = .ok us.toArray w :=
  run_loadCells_list w _ us fun j v hv => by rw [Addr.add_lit]; exact h j v hv
theorem load_ok (hE : TysOk P E) (hx : WR x) {t : TypeId} {i : TI} (ht : E.ty t = some i) {a v : AV} {u : Value} (hu : x.V a u)
    (h : (match i.k.agg with
      | true => match rd x.h a i.sz with
        | some cs => some (AV.agg cs)
        | none => none
      | false => match rd x.h a 1 with
        | some [c] => some c
        | _ => none) = some v) : ∃ y, (Instr.loadAt t u).run P x.w = .ok y x.w ∧ x.V v y := by
  have hT := hE t i ht
  split at h
  · rename_i hag
    split at h
    · rename_i cs hr
      simp at h
      subst h
      obtain ⟨b, off, us, rfl, h1, h2, h3⟩ := rd_ok hx hr hu
      have hl := run_loadCells_at (P := P) h3
      rw [← h1.length, h2] at hl
      exact ⟨.agg us.toArray, by simp [Instr.loadAt, Instr.sureAddr, loadVar, hT.run_isAgg, hag, hT.run_sizeOf, hl], .agg _ _ h1⟩
    · cases h
  · rename_i hag
    split at h
    · rename_i c hr
      simp at h
      subst h
      obtain ⟨b, off, us, rfl, h1, h2, h3⟩ := rd_ok hx hr hu
      cases h1 with
      | cons h4 h5 =>
        cases h5
        have := h3 0 _ (by simp; rfl)
        simp only [Nat.add_zero] at this
        exact ⟨_, by simp [Instr.loadAt, Instr.sureAddr, loadVar, hT.run_isAgg, hag, this], h4⟩
    · cases h
theorem partA_ok (hE : TysOk P E) {w : World} {bad : Nat → Prop} {ρ : Nat → Nat} {n : Nat} {t : TypeId} {cs : List AV} {us : List Value} {off : Nat} {v : AV} (h : partA E t cs off = some v) (hu : VRs w bad ρ n cs us) (w' : World) :
    ∃ u, (part t us.toArray off).run P w' = .ok u w' ∧ VR w bad ρ n v u := by
  unfold partA at h
  split at h
  · rename_i i hi
    have hT := hE t i hi
    split at h
    · rename_i hag
      split at h
      · rename_i ds hd
        simp at h
        subst h
        obtain ⟨h1, h2⟩ := takeX_eq hd
        refine ⟨.agg ((us.drop off).take i.sz).toArray, ?_, .agg _ _ (by rw [h1]; exact (hu.drop off).take i.sz)⟩
        simp only [part, Sem.run_bind, hT.run_isAgg, hag, hT.run_sizeOf, Result.andThen_ok, if_true, Sem.run_pure, List.extract_toArray]
        rw [List.extract_eq_take_drop, show off + i.sz - off = i.sz by omega]
      · cases h
    · rename_i hag
      rw [nth_eq] at h
      obtain ⟨u, h1, h2⟩ := hu.get h
      refine ⟨u, ?_, h2⟩
      simp [part, hT.run_isAgg, hag, h1]
  · cases h
end
end Go.Ev

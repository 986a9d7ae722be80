/-
The abstract evaluator: comparisons, conversions, slices, indexes, assertions, literals.
-/
import Derived.Test.YtpolhfiikbmplaaGreatDoorEv2
namespace Go.Ev
section
variable {P : Program} {E : Env}
section
variable {w : World} {bad : Nat → Prop} {ρ : Nat → Nat} {n : Nat}
theorem eqFields_ok (hE : TysOk P E) {xs ys : List AV} {us vs : List Value} (hu : VRs w bad ρ n xs us) (hv : VRs w bad ρ n ys vs) (d : Nat) (w' : World) :
    ∀ {fs : List (Nat × TypeId)} {gs : List Field} {r : Bool}, fieldsOk true fs gs = true → eqFields E xs ys fs = some r → (Op.eqFields (d + 1) us.toArray vs.toArray gs).run P w' = .ok r w' := by
  intro fs
  induction fs with
  | nil =>
    intro gs r hf h
    cases gs with
    | nil => simp [eqFields] at h; subst h; rfl
    | cons => simp [fieldsOk] at hf
  | cons p fs ih =>
    intro gs r hf h
    obtain ⟨o, t⟩ := p
    cases gs with
    | nil => simp [fieldsOk] at hf
    | cons g gs =>
      have hlast : fieldsOk true fs gs = true := by
        simp only [fieldsOk, Bool.and_eq_true] at hf
        exact hf.2
      obtain ⟨g', hg', e1, e2, e3⟩ := fieldsOk_get hf (j := 0) (p := (o, t)) (by simp)
      simp at hg'
      subst hg'
      have e3 := e3 rfl
      simp only at e1 e2
      simp only [eqFields] at h
      simp only [Op.eqFields, e3, ne_eq, not_false_eq_true, if_true, e1, e2, Sem.run_bind]
      split at h
      · rename_i h1 h2 h3
        obtain ⟨u1, r1, q1⟩ := partA_ok (P := P) hE h1 hu w'
        obtain ⟨u2, r2, q2⟩ := partA_ok (P := P) hE h2 hv w'
        cases q1
        cases q2
        simp only [r1, r2, Result.andThen_ok]
        split at h
        · rename_i hk
          subst hk
          rw [run_equalIn_int _ _ _ _ _ _ _ ((hE _ _ h3).int rfl)]
          split at h
          · rename_i hb
            simp only [hb, Result.andThen_ok, Bool.not_true, Bool.false_eq_true, if_false]
            exact ih hlast h
          · rename_i hb
            simp at h
            subst h
            simp [hb]
        · cases h
      · rename_i h1 h2 h3
        obtain ⟨u1, r1, q1⟩ := partA_ok (P := P) hE h1 hu w'
        obtain ⟨u2, r2, q2⟩ := partA_ok (P := P) hE h2 hv w'
        generalize hs1 : AV.str _ = z1 at q1
        cases q1 <;> cases hs1
        generalize hs2 : AV.str _ = z2 at q2
        cases q2 <;> cases hs2
        simp only [r1, r2, Result.andThen_ok]
        rw [run_equalIn_string _ _ _ _ _ ((hE _ _ h3).str rfl), ByteArray.toList_eq, ByteArray.toList_eq]
        split at h
        · rename_i hb
          simp only [hb, Result.andThen_ok, Bool.not_true, Bool.false_eq_true, if_false]
          exact ih hlast h
        · rename_i hb
          simp at h
          subst h
          simp [hb]
      · rename_i h1 h2 h3
        obtain ⟨u1, r1, q1⟩ := partA_ok (P := P) hE h1 hu w'
        obtain ⟨u2, r2, q2⟩ := partA_ok (P := P) hE h2 hv w'
        cases q1
        cases q2
        simp only [r1, r2, Result.andThen_ok]
        obtain ⟨dd, hd, hkd⟩ := (hE _ _ h3).und
        have hdd : dd = .bool := by cases dd <;> simp [kOk] at hkd ⊢
        subst hdd
        rw [run_equalIn_bool' _ _ _ _ _ hd]
        split at h
        · rename_i hb
          simp only [hb, Result.andThen_ok, Bool.not_true, Bool.false_eq_true, if_false]
          exact ih hlast h
        · rename_i hb
          simp at h
          subst h
          simp [hb]
      · cases h
theorem eq_run {t : TypeId} {u v : Value} {r : Bool} {w' : World} (hq : (Op.equalIn (9999 + 1) t u v).run P w' = .ok r w')
    (h1 : binOp .eql t u v = (do pure (Value.bool (← Op.equal t u v)) : Sem Value)) (h2 : binOp .neq t u v = (do pure (Value.bool (!(← Op.equal t u v))) : Sem Value)) :
    (binOp .eql t u v).run P w' = .ok (.bool r) w' ∧ (binOp .neq t u v).run P w' = .ok (.bool (!r)) w' := by
  have hq' : (Op.equal t u v).run P w' = .ok r w' := hq
  rw [h1, h2]
  simp only [Sem.run_bind, hq', Result.andThen_ok, Sem.run_pure, and_self]
theorem eqIn_bool {t : TypeId} {a b : Bool} (d : Nat) (hd : P.underlying t = some .bool) (w' : World) : (Op.equalIn (d + 1) t (.bool a) (.bool b)).run P w' = .ok (a == b) w' := run_equalIn_bool' w' d t a b hd
theorem eqIn_ptr_nil {t e : TypeId} {a : Option Addr} (d : Nat) (hd : P.underlying t = some (.pointer e)) (w' : World) : (Op.equalIn (d + 1) t (.pointer a) (.pointer none)).run P w' = .ok a.isNone w' := by
  unfold Op.equalIn
  simp only [Sem.run_bind, run_underlying hd, Result.andThen_ok]
  cases a <;> rfl
theorem eqIn_nil_ptr {t e : TypeId} {a : Option Addr} (d : Nat) (hd : P.underlying t = some (.pointer e)) (w' : World) : (Op.equalIn (d + 1) t (.pointer none) (.pointer a)).run P w' = .ok a.isNone w' := by
  unfold Op.equalIn
  simp only [Sem.run_bind, run_underlying hd, Result.andThen_ok]
  rfl
theorem eqIn_nili_ifc {t : TypeId} {e : Array (String × TypeId)} {s : TypeId} {a : Value} (d : Nat) (hd : P.underlying t = some (.interface e)) (w' : World) : (Op.equalIn (d + 1) t .nilIface (.iface s a)).run P w' = .ok false w' := by
  unfold Op.equalIn
  simp only [Sem.run_bind, run_underlying hd, Result.andThen_ok]
  rfl
theorem eqIn_ifc_nili {t : TypeId} {e : Array (String × TypeId)} {s : TypeId} {a : Value} (d : Nat) (hd : P.underlying t = some (.interface e)) (w' : World) : (Op.equalIn (d + 1) t (.iface s a) .nilIface).run P w' = .ok false w' := by
  unfold Op.equalIn
  simp only [Sem.run_bind, run_underlying hd, Result.andThen_ok]
  rfl
theorem eqIn_nili {t : TypeId} {e : Array (String × TypeId)} (d : Nat) (hd : P.underlying t = some (.interface e)) (w' : World) : (Op.equalIn (d + 1) t .nilIface .nilIface).run P w' = .ok true w' := by
  unfold Op.equalIn
  simp only [Sem.run_bind, run_underlying hd, Result.andThen_ok]
  rfl
theorem eqIn_slice_nil {t e : TypeId} {a : Option Addr} {n c : Nat} (d : Nat) (hd : P.underlying t = some (.slice e)) (w' : World) : (Op.equalIn (d + 1) t (.slice a n c) (.slice none 0 0)).run P w' = .ok a.isNone w' := by
  unfold Op.equalIn
  simp only [Sem.run_bind, run_underlying hd, Result.andThen_ok]
  cases a <;> rfl
theorem eqIn_func_nil {t : TypeId} {p q : Array TypeId} {e : Bool} {f : Fn} {a c : Array Value} (d : Nat) (hd : P.underlying t = some (.func p q e)) (w' : World) : (Op.equalIn (d + 1) t (.func f a c) .nilFunc).run P w' = .ok false w' := by
  unfold Op.equalIn
  simp only [Sem.run_bind, run_underlying hd, Result.andThen_ok]
  rfl
theorem eqIn_nilf {t : TypeId} {p q : Array TypeId} {e : Bool} (d : Nat) (hd : P.underlying t = some (.func p q e)) (w' : World) : (Op.equalIn (d + 1) t .nilFunc .nilFunc).run P w' = .ok true w' := by
  unfold Op.equalIn
  simp only [Sem.run_bind, run_underlying hd, Result.andThen_ok]
  rfl
theorem kOk_bool {d : TypeDesc} (h : kOk .bool d = true) : d = .bool := by cases d <;> simp [kOk] at h ⊢
theorem kOk_ptr {d : TypeDesc} (h : kOk .ptr d = true) : ∃ e, d = .pointer e := by cases d <;> simp [kOk] at h ⊢
theorem kOk_iface {d : TypeDesc} (h : kOk .iface d = true) : ∃ e, d = .interface e := by cases d <;> simp [kOk] at h ⊢
theorem kOk_func {d : TypeDesc} (h : kOk .func d = true) : ∃ p q e, d = .func p q e := by cases d <;> simp [kOk] at h ⊢
theorem kOk_slice {d : TypeDesc} {e : TypeId} (h : kOk (.slice e) d = true) : ∃ e, d = .slice e := by cases d <;> simp [kOk] at h ⊢
theorem aEq_ok {t : TypeId} {k : TK} {d : TypeDesc} (hd : P.underlying t = some d) (hk : kOk k d = true) {a b : AV} {r : Bool} {u v : Value} (h : aEq k a b = some r) (hu : VR w bad ρ n a u) (hv : VR w bad ρ n b v) (op : BinOp) (xo yo : Operand) (w' : World) :
    (eqGuard op t xo yo u v).run P w' = .ok () w' ∧ (binOp .eql t u v).run P w' = .ok (.bool r) w' ∧ (binOp .neq t u v).run P w' = .ok (.bool (!r)) w' := by
  unfold aEq at h
  split at h
  · cases hu; cases hv
    simp at h
    subst h
    obtain rfl := kOk_bool hk
    exact ⟨by rw [eqGuard_at_bool]; rfl, eq_run (eqIn_bool 9999 hd w') rfl rfl⟩
  · simp at h; subst h; cases hu; cases hv
    obtain ⟨e, rfl⟩ := kOk_ptr hk
    exact ⟨by rw [eqGuard_at_pointer]; rfl, eq_run (eqIn_ptr_nil 9999 hd w') rfl rfl⟩
  · simp at h; subst h; cases hu; cases hv
    obtain ⟨e, rfl⟩ := kOk_ptr hk
    exact ⟨by rw [eqGuard_at_pointer]; rfl, eq_run (eqIn_ptr_nil 9999 hd w') rfl rfl⟩
  · simp at h; subst h; cases hu; cases hv
    obtain ⟨e, rfl⟩ := kOk_ptr hk
    exact ⟨by rw [eqGuard_at_pointer]; rfl, eq_run (eqIn_nil_ptr 9999 hd w') rfl rfl⟩
  · simp at h; subst h; cases hu; cases hv
    obtain ⟨e, rfl⟩ := kOk_ptr hk
    exact ⟨by rw [eqGuard_at_pointer]; rfl, eq_run (eqIn_ptr_nil 9999 hd w') rfl rfl⟩
  · simp at h; subst h; cases hu; cases hv
    obtain ⟨e, rfl⟩ := kOk_ptr hk
    exact ⟨by rw [eqGuard_at_pointer]; rfl, eq_run (eqIn_nil_ptr 9999 hd w') rfl rfl⟩
  · simp at h; subst h; cases hu; cases hv
    obtain ⟨e, rfl⟩ := kOk_iface hk
    exact ⟨by rw [eqGuard_nil_iface]; rfl, eq_run (eqIn_nili_ifc 9999 hd w') rfl rfl⟩
  · simp at h; subst h; cases hu; cases hv
    obtain ⟨e, rfl⟩ := kOk_iface hk
    exact ⟨by rw [eqGuard_at_iface]; rfl, eq_run (eqIn_ifc_nili 9999 hd w') rfl rfl⟩
  · simp at h; subst h; cases hu; cases hv
    obtain ⟨e, rfl⟩ := kOk_slice hk
    exact ⟨by rw [eqGuard_at_slice]; rfl, eq_run (eqIn_slice_nil 9999 hd w') rfl rfl⟩
  · simp at h; subst h; cases hu; cases hv
    obtain ⟨e, rfl⟩ := kOk_slice hk
    exact ⟨by rw [eqGuard_at_slice]; rfl, eq_run (eqIn_slice_nil 9999 hd w') rfl rfl⟩
  · simp at h; subst h; cases hu; cases hv
    obtain ⟨e, rfl⟩ := kOk_slice hk
    exact ⟨by rw [eqGuard_at_slice]; rfl, eq_run (eqIn_slice_nil 9999 hd w') rfl rfl⟩
  · simp at h; subst h; cases hu; cases hv
    obtain ⟨p, q, e, rfl⟩ := kOk_func hk
    exact ⟨by rw [eqGuard_at_nilFunc]; rfl, eq_run (eqIn_nilf 9999 hd w') rfl rfl⟩
  · simp at h; subst h; cases hu; cases hv
    obtain ⟨p, q, e, rfl⟩ := kOk_func hk
    exact ⟨by rw [eqGuard_at_func]; rfl, eq_run (eqIn_func_nil 9999 hd w') rfl rfl⟩
  · cases h
theorem aEqT_ok (hE : TysOk P E) {t : TypeId} {a b : AV} {cs : Bool} {r : Bool} {u v : Value} (h : aEqT E t a b cs = some r) (hu : VR w bad ρ n a u) (hv : VR w bad ρ n b v) (op : BinOp) (xo yo : Operand) (hc : cs = (isConstO xo || isConstO yo)) (w' : World) :
    (eqGuard op t xo yo u v).run P w' = .ok () w' ∧ (binOp .eql t u v).run P w' = .ok (.bool r) w' ∧ (binOp .neq t u v).run P w' = .ok (.bool (!r)) w' := by
  unfold aEqT at h
  split at h
  · cases h
  · rename_i i hi
    have hT := hE t i hi
    obtain ⟨d, hd, hk⟩ := hT.und
    split at h
    · rename_i fs xs ys hik
      cases hu with
      | agg _ us hu => cases hv with
        | agg _ vs hv =>
          obtain ⟨gs, hgs, hf⟩ := hT.struct hik
          obtain ⟨hs, hg⟩ := hT.cmp fs hik
          have hfo : P.fieldsOf t = gs := by simp [Program.fieldsOf, hgs]
          have hq := eqFields_ok (P := P) hE hu hv 9998 w' hf h
          have he := run_equalIn_struct (P := P) w' 9999 t us.toArray vs.toArray (by rw [hfo]; exact hgs) hs
          rw [hfo, hq] at he
          exact ⟨run_eqGuard_agg w' op t xo yo _ _ hg, by rw [run_eql_struct, he]; rfl, by rw [run_neq_struct, he]; rfl⟩
    · rename_i hik
      rw [hik] at hk
      cases hu
      cases hv
      split at h
      · rename_i hcs
        simp at h
        subst h
        obtain ⟨ms, rfl⟩ := kOk_iface hk
        refine ⟨?_, eq_run (eqIn_nili 9999 hd w') rfl rfl⟩
        cases xo with
        | const c => rw [eqGuard_nil_constL]; rfl
        | _ => cases yo with
          | const c => rw [eqGuard_nil_constR]; rfl
          | _ => simp [isConstO] at hc
      · cases h
    · exact aEq_ok hd hk h hu hv op xo yo w'
theorem eqGuard_int {op : BinOp} {t : TypeId} {x y : Operand} {k : IntKind} {a : Int} {v : Value} (w' : World) : (eqGuard op t x y (.int k a) v).run P w' = .ok () w' := by rw [eqGuard_at_int]; rfl
theorem memS_iff {s : List UInt8} : ∀ {l : List (List UInt8)}, memS s l = true → s ∈ l
  | [], h => by simp [memS] at h
  | t :: l, h => by
    simp only [memS] at h
    split at h
    · rename_i e
      rw [eq_of_beq e]
      exact List.mem_cons_self
    · exact List.mem_cons_of_mem _ (memS_iff h)
theorem cmpIv_ok {op : BinOp} {t : TypeId} {k : IntKind} {lo hi i b : Int} {y : AV} (h1 : lo ≤ i) (h2 : i ≤ hi) (h : cmpIv op lo hi b = some y) :
    ∃ z, (binOp op t (.int k i) (.int k b) : Sem Value).run P w = .ok z w ∧ VR w bad ρ n y z := by
  have hk : ∃ r, aInt op k i b = some (.bool r) ∧ y = .bool r := by
    unfold cmpIv at h
    split at h
    · split at h
      · rename_i hb
        simp only [Option.some.injEq] at h
        exact ⟨false, by simp [aInt]; omega, h.symm⟩
      · cases h
    · split at h
      · rename_i hb
        simp only [Option.some.injEq] at h
        exact ⟨true, by simp [aInt]; omega, h.symm⟩
      · cases h
    all_goals first
      | (split at h
         · simp only [Option.some.injEq] at h
           exact ⟨true, by simp [aInt]; omega, h.symm⟩
         · split at h
           · simp only [Option.some.injEq] at h
             exact ⟨false, by simp [aInt]; omega, h.symm⟩
           · cases h)
      | cases h
  obtain ⟨r, hr, rfl⟩ := hk
  exact aInt_ok hr
theorem aBin_ok (hE : TysOk P E) {op : BinOp} {t : TypeId} {a b : AV} {cs : Bool} {y : AV} {u v : Value} (h : aBin E op t a b cs = some y) (hu : VR w bad ρ n a u) (hv : VR w bad ρ n b v) (xo yo : Operand) (hc : cs = (isConstO xo || isConstO yo)) :
    ∃ z, (do eqGuard op t xo yo u v; binOp op t u v : Sem Value).run P w = .ok z w ∧ VR w bad ρ n y z := by
  unfold aBin at h
  split at h
  · generalize hs1 : AV.siv _ _ _ = z1 at hu
    cases hu <;> cases hs1
    cases hv
    simp only [Sem.run_bind, eqGuard_int, Result.andThen_ok]
    split at h
    · rename_i hb1 hb2 hk
      subst hk
      exact cmpIv_ok hb1 hb2 h
    · cases h
  · generalize hs1 : AV.sstr _ = z1 at hu
    cases hu <;> cases hs1
    generalize hs2 : AV.str _ = z2 at hv
    cases hv <;> cases hs2
    rename_i s1 hne s2
    simp only [Sem.run_bind, eqGuard_at_string, Sem.run_pure, Result.andThen_ok]
    unfold cmpNe at h
    split at h
    · cases h
    · rename_i hm
      have hne' : s1.data.toList ≠ s2.data.toList := hne _ (memS_iff hm)
      refine aStr_ok (op := op) ?_
      split at h
      · simp only [Option.some.injEq] at h
        subst h
        simpa [aStr] using hne'
      · simp only [Option.some.injEq] at h
        subst h
        simpa [aStr] using hne'
      · cases h
  · generalize hs1 : AV.str _ = z1 at hu
    cases hu <;> cases hs1
    generalize hs2 : AV.sstr _ = z2 at hv
    cases hv <;> cases hs2
    rename_i s1 s2 hne
    simp only [Sem.run_bind, eqGuard_at_string, Sem.run_pure, Result.andThen_ok]
    unfold cmpNe at h
    split at h
    · cases h
    · rename_i hm
      have hne' : s1.data.toList ≠ s2.data.toList := fun e => hne _ (memS_iff hm) e.symm
      refine aStr_ok (op := op) ?_
      split at h
      · simp only [Option.some.injEq] at h
        subst h
        simpa [aStr] using hne'
      · simp only [Option.some.injEq] at h
        subst h
        simpa [aStr] using hne'
      · cases h
  · cases hu
    cases hv
    simp only [Sem.run_bind, eqGuard_int, Result.andThen_ok]
    split at h
    · exact aShift_ok h (.inl rfl)
    · exact aShift_ok h (.inr rfl)
    · split at h
      · rename_i hk
        subst hk
        exact aInt_ok h
      · cases h
  · generalize hs1 : AV.str _ = z1 at hu
    cases hu <;> cases hs1
    generalize hs2 : AV.str _ = z2 at hv
    cases hv <;> cases hs2
    simp only [Sem.run_bind, eqGuard_at_string, Sem.run_pure, Result.andThen_ok]
    exact aStr_ok h
  · split at h
    · rename_i r hr
      obtain ⟨h1, h2, h3⟩ := aEqT_ok (P := P) hE hr hu hv op xo yo hc w
      simp only [Sem.run_bind, h1, Result.andThen_ok]
      split at h
      · simp at h; subst h; exact ⟨_, h2, .bool _⟩
      · simp at h; subst h; exact ⟨_, h3, .bool _⟩
      · cases h
    · cases h
end
end
end Go.Ev

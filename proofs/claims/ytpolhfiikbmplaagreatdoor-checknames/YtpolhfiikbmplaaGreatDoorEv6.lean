/-
The abstract evaluator: assertions, literals, and the lemma on all operations that only read.
-/
import Derived.Test.YtpolhfiikbmplaaGreatDoorEv5
namespace Go.Ev
section
variable {P : Program} {E : Env} {x : X}

/-! ### assertions -/
theorem zeroA_ok (hE : TysOk P E) {t : TypeId} {i : TI} (ht : E.ty t = some i) {z : AV} (h : zeroA i = some z) : ∃ y, (zeroValue t).run P x.w = .ok y x.w ∧ x.V z y := by
  obtain ⟨y, h1, h2, h3, h4, h5⟩ := (hE t i ht).run_zeroValue x.w
  refine ⟨y, h1, ?_⟩
  unfold zeroA at h
  split at h
  · rename_i hag
    simp at h
    subst h
    obtain ⟨cs, rfl⟩ := h4 hag
    have := zero_Vs (w := x.w) (bad := x.bad) (ρ := x.ρ) (n := x.h.n) h2
    exact .agg _ _ this
  · rename_i hag
    have h5 := h5 hag
    split at h
    · rename_i z' hz
      simp at h
      subst h
      rw [h5] at h2
      rw [h2] at hz
      simp at hz
      rw [← hz]
      exact ofScalar_VR _
    · cases h
theorem aAssert_ok (hE : TysOk P E) {a v : AV} {u : Value} {xt t : TypeId} {ok : Bool} (h : aAssert E a t ok = some v) (hu : x.V a u) : ∃ y, (Instr.typeAssert u xt t ok).run P x.w = .ok y x.w ∧ x.V v y := by
  unfold aAssert at h
  split at h
  · cases h
  · rename_i i hi
    obtain ⟨d, hd, hk⟩ := (hE _ _ hi).und
    split at h
    · cases h
    · cases h
    · rename_i hn1 hn2
      have hnd : ∀ m, d ≠ .interface m := by
        intro m e
        subst e
        cases hq : i.k <;> rw [hq] at hk <;> simp [kOk] at hk
        exact hn1 hq
      split at h
      · cases hu
        split at h
        · rename_i z hz
          simp at h
          subst h
          obtain ⟨y, h1, h2⟩ := zeroA_ok (x := x) hE hi hz
          refine ⟨.tuple #[y, .bool false], ?_, .tup _ [y, .bool false] (.cons h2 (.cons (.bool _) .nil))⟩
          simp only [Instr.typeAssert, Sem.run_bind, run_underlying hd, Result.andThen_ok]
          cases d <;> first | exact absurd rfl (hnd _) | simp [h1]
        · cases h
      · rename_i t' v'
        cases hu with
        | ifc _ _ u hu =>
          split at h
          · rename_i he
            subst he
            simp only [Option.some.injEq] at h
            subst h
            cases ok with
            | true =>
              refine ⟨.tuple #[u, .bool true], ?_, .tup _ [u, .bool true] (.cons hu (.cons (.bool _) .nil))⟩
              simp only [Instr.typeAssert, Sem.run_bind, run_underlying hd, Result.andThen_ok]
              cases d <;> first | exact absurd rfl (hnd _) | simp
            | false =>
              refine ⟨u, ?_, by simpa using hu⟩
              simp only [Instr.typeAssert, Sem.run_bind, run_underlying hd, Result.andThen_ok]
              cases d <;> first | exact absurd rfl (hnd _) | simp
          · rename_i he
            split at h
            · rename_i z hz
              simp at h
              subst h
              obtain ⟨y, h1, h2⟩ := zeroA_ok (x := x) hE hi hz
              refine ⟨.tuple #[y, .bool false], ?_, .tup _ [y, .bool false] (.cons h2 (.cons (.bool _) .nil))⟩
              simp only [Instr.typeAssert, Sem.run_bind, run_underlying hd, Result.andThen_ok]
              cases d <;> first | exact absurd rfl (hnd _) | simp [he, h1]
            · cases h
      · cases h

/-! ### literals -/
theorem fold_set (off : Nat) : ∀ (vs : List Value) (k : Nat) (l : List Value), off + k + vs.length ≤ l.length →
    ((vs.zipIdx k).foldl (fun (cs : Array Value) (p : Value × Nat) => cs.setIfInBounds (off + p.2) p.1) l.toArray).toList = l.take (off + k) ++ vs ++ l.drop (off + k + vs.length)
  | [], k, l, _ => by simp
  | v :: vs, k, l, h => by
    simp only [List.length_cons] at h
    simp only [List.zipIdx_cons, List.foldl_cons, List.setIfInBounds_toArray]
    rw [fold_set off vs (k + 1) (l.set (off + k) v) (by simp; omega)]
    have hlt : off + k < l.length := by omega
    rw [← Nat.add_assoc, List.take_succ_eq_append_getElem (by simp; exact hlt)]
    simp only [List.getElem_set_self, List.take_set_of_le (Nat.le_refl _), List.length_cons]
    rw [List.drop_set_of_lt (by omega), show off + k + 1 + vs.length = off + k + (vs.length + 1) by omega]
    simp [List.append_assoc]
/-- Parts, their numbers the same. -/
inductive PV (x : X) : List (Nat × AV) → List (Nat × Value) → Prop
  | nil : PV x [] []
  | cons {i : Nat} {a : AV} {u : Value} {l : List (Nat × AV)} {l' : List (Nat × Value)} : x.V a u → PV x l l' → PV x ((i, a) :: l) ((i, u) :: l')
theorem PV.map {α : Type} (f : α → AV) (g : α → Value) (h : ∀ y, x.V (f y) (g y)) : ∀ (l : List (Nat × α)), PV x (l.map fun p => (p.1, f p.2)) (l.map fun p => (p.1, g p.2))
  | [] => .nil
  | (_, y) :: l => .cons (h y) (PV.map f g h l)
theorem fillA_ok {place : Nat → Option (Nat × Nat)} {place' : Nat → Option (Nat × Nat)} (hp : ∀ i p, place i = some p → place' i = some p) : ∀ {parts : List (Nat × AV)} {parts' : List (Nat × Value)} {cells : List AV} {us : List Value} {r : List AV},
    PV x parts parts' → x.Vs cells us → fillA place cells parts = some r → ∃ us', Instr.fill place' us.toArray parts' = some us'.toArray ∧ x.Vs r us'
  | _, _, cells, us, r, .nil, hc, h => by
    simp [fillA] at h
    subst h
    exact ⟨us, rfl, hc⟩
  | _, _, cells, us, r, .cons (i := i) (a := a) (u := u) (l := l0) ha hl, hc, h => by
    simp only [fillA] at h
    split at h
    · cases h
    · rename_i off size hpl
      have hany : a ≠ .any := by
        intro e
        subst e
        simp at h
      have h' : (if a.cells.length = size then (match putAt cells off a.cells with
        | some cs => fillA place cs l0
        | none => none) else none) = some r := by
        cases a <;> first | exact absurd rfl hany | exact h
      split at h'
      · rename_i hsz
        split at h'
        · rename_i cs hcs
          obtain ⟨h1, h2⟩ := putAt_eq hcs
          have hcells := ha.cells hany
          have hlen : u.cells.size = size := by rw [← hsz, hcells.length]; simp
          have hlus : cells.length = us.length := hc.length
          have hle : a.cells.length = u.cells.toList.length := hcells.length
          have hVs : x.Vs cs (us.take off ++ u.cells.toList ++ us.drop (off + u.cells.toList.length)) := by
            rw [h1, hle]
            exact ((hc.take off).app hcells).app (hc.drop _)
          obtain ⟨us', h3, h4⟩ := fillA_ok hp hl hVs h'
          refine ⟨us', ?_, h4⟩
          rw [Instr.fill, hp _ _ hpl]
          have hcond : (u.cells.size ≠ size || off + u.cells.size > us.toArray.size) = false := by
            simp only [hlen, ne_eq, not_true_eq_false, decide_false, Bool.false_or, decide_eq_false_iff_not, List.size_toArray]
            omega
          simp only [hcond, Bool.false_eq_true, if_false]
          rw [← h3]
          congr 1
          apply Array.ext'
          rw [← Array.foldl_toList, Array.toList_zipIdx]
          have := fold_set off u.cells.toList 0 us (by rw [← hle]; simp; omega)
          simpa using this
        · cases h'
      · cases h'
theorem run_mapM_list {α β : Type} {g : α → Sem β} {r : α → β} {w : World} : ∀ {l : List α}, (∀ f ∈ l, (g f).run P w = .ok (r f) w) → (l.mapM g).run P w = .ok (l.map r) w
  | [], _ => by simp
  | f :: l, h => by
    rw [List.mapM_cons, Sem.run_bind, h f List.mem_cons_self]
    simp only [Result.andThen_ok, Sem.run_bind, run_mapM_list (l := l) fun f hf => h f (List.mem_cons_of_mem _ hf)]
    rfl
theorem aBuild_ok (hE : TysOk P E) {t : TypeId} {parts : List (Nat × AV)} {parts' : List (Nat × Value)} {v : AV} (hp : PV x parts parts') (h : aBuild E t parts = some v) :
    ∃ y, (Instr.build t parts'.toArray).run P x.w = .ok y x.w ∧ x.V v y := by
  unfold aBuild at h
  split at h
  · rename_i c fs _ _ zero ht
    obtain ⟨gs, hg, hf⟩ := (hE _ _ ht).struct rfl
    obtain ⟨z, hz, hz2, _⟩ := (hE _ _ ht).run_zeroValue x.w
    simp only at hz2
    split at h
    · rename_i places hpl
      split at h
      · rename_i cs hcs
        simp only [Option.some.injEq] at h
        subst h
        have hlen := fieldsOk_len hf
        have hsz : ∀ f ∈ gs.toList, ∃ s, (sizeOf f.type).run P x.w = .ok s x.w := by
          intro f hfm
          obtain ⟨j, hj⟩ := List.getElem?_of_mem hfm
          have hjl : j < fs.length := by rw [hlen]; exact (List.getElem?_eq_some_iff.1 hj).1
          obtain ⟨f', hf', e1, e2, _⟩ := fieldsOk_get hf (List.getElem?_eq_getElem hjl)
          rw [hj] at hf'
          cases hf'
          obtain ⟨q, hq1, hq2⟩ := mapO_get hpl j _ (List.getElem?_eq_getElem hjl)
          split at hq2
          · rename_i i hi
            exact ⟨i.sz, by rw [e2]; exact (hE _ _ hi).run_sizeOf x.w⟩
          · cases hq2
        let r : Field → Nat × Nat := fun f => (f.offset, match (sizeOf f.type).run P x.w with | .ok s _ => s | _ => 0)
        have hmap : (gs.toList.mapM fun (f : Field) => (do pure (f.offset, ← sizeOf f.type) : Sem (Nat × Nat))).run P x.w = .ok (gs.toList.map r) x.w :=
          run_mapM_list fun f hfm => by
            obtain ⟨s, hs⟩ := hsz f hfm
            simp [r, hs]
        obtain ⟨us', h1, h2⟩ := fillA_ok (x := x) (place := nth places) (place' := fun i => (gs.toList.map r)[i]?) (fun i p hi => by
          rw [nth_eq] at hi
          have hil : i < fs.length := by rw [← mapO_length hpl]; exact (List.getElem?_eq_some_iff.1 hi).1
          obtain ⟨q, hq1, hq2⟩ := mapO_get hpl i _ (List.getElem?_eq_getElem hil)
          rw [hi] at hq1
          cases hq1
          obtain ⟨f', hf', e1, e2, _⟩ := fieldsOk_get hf (List.getElem?_eq_getElem hil)
          split at hq2
          · rename_i ti hti
            simp only [Option.some.injEq] at hq2
            rw [List.getElem?_map, hf']
            simp only [Option.map_some, r, e1, e2, (hE _ _ hti).run_sizeOf x.w]
            rw [← hq2]
          · cases hq2) hp (zero_Vs hz2) hcs
        refine ⟨.agg us'.toArray, ?_, .agg _ _ h2⟩
        simp only [Instr.build, Sem.run_bind, hz, Result.andThen_ok, run_underlying hg, Array.mapM_eq_mapM_toList, Sem.run_map, hmap, List.getElem?_toArray]
        rw [show z.cells = z.cells.toList.toArray by simp, h1]
        rfl
      · cases h
    · cases h
  · rename_i n e _ _ zero ht
    have hg := (hE _ _ ht).arr rfl
    obtain ⟨z, hz, hz2, _⟩ := (hE _ _ ht).run_zeroValue x.w
    simp only at hz2
    split at h
    · rename_i i hi
      split at h
      · rename_i cs hcs
        simp only [Option.some.injEq] at h
        subst h
        obtain ⟨us', h1, h2⟩ := fillA_ok (x := x) (place' := fun j => some (j * i.sz, i.sz)) (fun _ _ h => h) hp (zero_Vs hz2) hcs
        refine ⟨.agg us'.toArray, ?_, .agg _ _ h2⟩
        simp only [Instr.build, Sem.run_bind, hz, Result.andThen_ok, run_underlying hg, (hE _ _ hi).run_sizeOf]
        rw [show z.cells = z.cells.toList.toArray by simp, List.toList_toArray, h1]
        rfl
      · cases h
    · cases h
  · cases h
theorem foldMax_ok {gt : Int → Int → Bool} {f : Value → Value → Sem Value} (hf : ∀ k (a : Int) k' b w, (f (.int k a) (.int k' b)).run P w = .ok (.int k (if gt b a then b else a)) w) :
    ∀ {l : List AV} {us : List Value} {a : AV} {u : Value} {v : AV}, x.V a u → x.Vs l us → l ≠ [] → foldMax gt a l = some v → ∃ y, (us.foldlM f u).run P x.w = .ok y x.w ∧ x.V v y := by
  intro l
  induction l with
  | nil => intro us a u v _ _ h; exact absurd rfl h
  | cons b l ih =>
    intro us a u v ha hl _ h
    cases hl with
    | cons h1 h2 =>
      unfold foldMax at h
      split at h
      · rename_i hh; cases hh
      · rename_i hh
        cases hh
        cases ha
        cases h1
        rw [List.foldlM_cons, Sem.run_bind, hf]
        simp only [Result.andThen_ok]
        cases hl' : l with
        | nil =>
          subst hl'
          cases h2
          simp [foldMax] at h
          subst h
          exact ⟨_, rfl, .int _ _⟩
        | cons c l' => exact ih (.int _ _) h2 (by simp [hl']) h
      · cases h

/-! ### all operations that only read -/
theorem val_of {s : Sem Value} {v : AV} (h : ∃ y, s.run P x.w = .ok y x.w ∧ x.V v y) : ∃ y, (do pure (Next.value (← s)) : Sem Next).run P x.w = .ok (.value y) x.w ∧ x.V v y := by
  obtain ⟨y, h1, h2⟩ := h
  exact ⟨y, by simp [h1], h2⟩
theorem aopR_ok (hE : TysOk P E) (hx : WR x) {ev : Operand → AV} {va : Operand → Value} (hev : ∀ y, x.V (ev y) (va y)) (o : Oper) {v : AV} (h : aopR E ev x.h o.op = some v) :
    ∃ y, (execOp va o).run P x.w = .ok (.value y) x.w ∧ x.V v y := by
  unfold execOp
  unfold aopR at h
  split at h
  · rename_i y hop; rw [hop]; simp at h; subst h; exact ⟨_, rfl, hev y⟩
  · rename_i y hop; rw [hop]; simp at h; subst h; exact ⟨_, rfl, hev y⟩
  · rename_i c a b hop
    rw [hop]
    have hc := hev c
    split at h
    · rename_i e
      rw [e] at hc
      generalize hu : va c = u at hc
      cases hc
      simp at h
      subst h
      exact ⟨va a, by simp [asBool, hu], hev a⟩
    · rename_i e
      rw [e] at hc
      generalize hu : va c = u at hc
      cases hc
      simp at h
      subst h
      exact ⟨va b, by simp [asBool, hu], hev b⟩
    · cases h
  · rename_i t parts hop
    rw [hop]
    have hp : PV x (parts.toList.map fun p => (p.1, ev p.2)) (parts.toList.map fun p => (p.1, va p.2)) := PV.map ev va hev parts.toList
    obtain ⟨y, h1, h2⟩ := aBuild_ok (P := P) hE hp h
    refine val_of ⟨y, ?_, h2⟩
    rw [← h1]
    congr 2
    apply Array.ext'
    simp
  · rename_i t a hop
    rw [hop]
    split at h
    · rename_i i hi
      exact val_of (load_ok hE hx hi (hev a) h)
    · cases h
  · rename_i y hop
    rw [hop]
    have hy := hev y
    split at h
    · rename_i e
      rw [e] at hy
      generalize hu : va y = u at hy
      cases hy
      rename_i hb
      simp at h
      subst h
      exact ⟨.pointer (some ⟨_, _, none⟩), by simp [hu], .ptr _ _ hb⟩
    · rename_i e
      rw [e] at hy
      generalize hu : va y = u at hy
      cases hy
      rename_i him
      simp at h
      subst h
      exact ⟨.pointer (some ⟨_, _, none⟩), by simp [hu], .ip _ _ _ him⟩
    · rename_i e
      rw [e] at hy
      generalize hu : va y = u at hy
      cases hy
      rename_i h1 h2
      simp at h
      subst h
      exact ⟨.func _ _ _, by simp [hu], .func _ _ _ _ _ h1 h2⟩
    · rename_i e
      rw [e] at hy
      generalize hu : va y = u at hy
      cases hy
      rename_i hb
      simp at h
      subst h
      exact ⟨.iface _ _, by simp [hu], .ifc _ _ _ hb⟩
    · cases h
  · rename_i op t a b _ hop
    rw [hop]
    exact val_of (aBin_ok (P := P) hE h (hev a) (hev b) a b rfl)
  · rename_i op _ a hop
    rw [hop]
    exact val_of (aUn_ok (P := P) h (hev a))
  · rename_i src dst a hop
    rw [hop]
    exact val_of (aConv_ok (P := P) hE hx h (hev a))
  · rename_i t a hop
    rw [hop]
    split at h
    · rename_i i hi
      obtain ⟨d, hd, hk⟩ := (hE _ _ hi).und
      split at h
      · cases h
      · rename_i hn
        simp only [Option.some.injEq] at h
        subst h
        refine val_of ⟨.iface t (va a), ?_, .ifc _ _ _ (hev a)⟩
        simp only [Instr.makeInterface, Sem.run_bind, run_underlying hd, Result.andThen_ok]
        cases d <;> first | rfl | (exfalso; cases hq : i.k <;> rw [hq] at hk <;> simp [kOk] at hk; exact hn hq)
    · cases h
  · rename_i fn first caps hop
    rw [hop]
    simp only [Option.some.injEq] at h
    subst h
    have h1 : x.Vs (first.toList.map ev) (first.toList.map va) := VRs.map fun y _ => hev y
    have h2 : x.Vs (caps.toList.map ev) (caps.toList.map va) := VRs.map fun y _ => hev y
    have h3 := VR.func (n := x.h.n) fn _ _ _ _ h1 h2
    refine val_of ⟨_, rfl, ?_⟩
    simpa [← Array.toList_map] using h3
  · rename_i t a lo hi mx hop
    rw [hop]
    exact val_of (aSlice_ok (P := P) hE h (hev a) (OV.map ev va hev lo) (OV.map ev va hev hi) (OV.map ev va hev mx))
  · rename_i s a f hop
    rw [hop]
    split at h
    · rename_i c fs _ _ _ hs
      obtain ⟨gs, hg, hf⟩ := (hE _ _ hs).struct rfl
      split at h
      · rename_i off t hnf
        rw [nth_eq] at hnf
        obtain ⟨g, hg1, e1, e2, _⟩ := fieldsOk_get hf hnf
        simp only at e1 e2
        rw [Array.getElem?_toList] at hg1
        split at h
        · rename_i i hi
          split at h
          · cases h
          · rename_i k hk
            have ha := hev a
            have hne : ¬ (k + 1 = 0) := by omega
            split at h
            · rename_i e
              rw [e] at ha
              generalize hu : va a = u at ha
              cases ha
              rename_i hb
              simp at h
              subst h
              refine val_of ⟨_, ?_, .ptr _ _ hb⟩
              simp [Instr.fieldAt, run_underlying hg, hg1, Instr.sureAddr, hu, fieldPlace, e1, e2, (hE _ _ hi).run_sizeOf, hk, Addr.add_lit]
            · rename_i e
              rw [e] at ha
              generalize hu : va a = u at ha
              cases ha
              rename_i b o him
              simp at h
              subst h
              refine val_of ⟨.pointer (some ⟨b, o + off, none⟩), ?_, .ip _ _ _ (him.drop _)⟩
              simp [Instr.fieldAt, run_underlying hg, hg1, Instr.sureAddr, hu, fieldPlace, e1, e2, (hE _ _ hi).run_sizeOf, hk, Addr.add_lit]
            · cases h
        · cases h
      · cases h
    · cases h
  · rename_i s a f hop
    rw [hop]
    split at h
    · rename_i c fs _ _ _ hs
      obtain ⟨gs, hg, hf⟩ := (hE _ _ hs).struct rfl
      split at h
      · rename_i off t hnf
        rw [nth_eq] at hnf
        obtain ⟨g, hg1, e1, e2, _⟩ := fieldsOk_get hf hnf
        simp only at e1 e2
        rw [Array.getElem?_toList] at hg1
        have ha := hev a
        split at h
        · rename_i cs e
          rw [e] at ha
          generalize hu : va a = u at ha
          cases ha with
          | agg _ us ha =>
            obtain ⟨y, h1, h2⟩ := partA_ok (P := P) hE h ha x.w
            refine val_of ⟨y, ?_, h2⟩
            simp [Instr.field, run_underlying hg, hg1, hu, asAgg, e1, e2, h1]
        · cases h
      · cases h
    · cases h
  · rename_i t a ix hop
    rw [hop]
    exact val_of (aIndexAddr_ok (P := P) hE h (hev a) (hev ix))
  · rename_i t a ix hop
    rw [hop]
    exact val_of (aIndex_ok (P := P) hE h (hev a) (hev ix))
  · rename_i a xt t ok hop
    rw [hop]
    exact val_of (aAssert_ok (P := P) hE h (hev a))
  · rename_i a i hop
    rw [hop]
    have ha := hev a
    split at h
    · rename_i vs e
      rw [e] at ha
      generalize hu : va a = u at ha
      cases ha with
      | tup _ us ha =>
        rw [nth_eq] at h
        obtain ⟨y, h1, h2⟩ := ha.get h
        refine val_of ⟨y, ?_, h2⟩
        simp [Instr.extract, hu, h1]
    · cases h
  · rename_i c hop
    rw [hop]
    obtain ⟨callee, args, argTypes⟩ := c
    simp only at h
    split at h
    · obtain ⟨args⟩ := args
      obtain ⟨argTypes⟩ := argTypes
      simp only at h
      split at h
      · rename_i y t
        have hy := hev y
        split at h
        · rename_i i hi
          obtain ⟨d, hd, hk⟩ := (hE _ _ hi).und
          split at h
          · rename_i hik
            have := (hE _ _ hi).arr hik
            rw [hd] at this
            cases this
            simp at h
            subst h
            refine ⟨.int .i64 _, ?_, .int _ _⟩
            simp [resolve, invoke, builtin, Builtin.len_, run_underlying hd, goInt]
          · rename_i hik e
            have := (hE _ _ hi).slice hik
            rw [hd] at this
            cases this
            simp at h
            subst h
            rw [e] at hy
            generalize hu : va y = u at hy
            cases hy
            refine ⟨.int .i64 0, ?_, .int _ _⟩
            simp [resolve, invoke, builtin, Builtin.len_, run_underlying hd, goInt, hu]
          · rename_i n _ _ hik e
            have := (hE _ _ hi).slice hik
            rw [hd] at this
            cases this
            simp at h
            subst h
            rw [e] at hy
            generalize hu : va y = u at hy
            cases hy <;>
            · refine ⟨.int .i64 n, ?_, .int _ _⟩
              simp [resolve, invoke, builtin, Builtin.len_, run_underlying hd, goInt, hu]
          · rename_i _ _ _ n _ hik e
            have := (hE _ _ hi).slice hik
            rw [hd] at this
            cases this
            simp at h
            subst h
            rw [e] at hy
            generalize hu : va y = u at hy
            cases hy
            refine ⟨.int .i64 n, ?_, .int _ _⟩
            simp [resolve, invoke, builtin, Builtin.len_, run_underlying hd, goInt, hu]
          · rename_i s hik e
            have := (hE _ _ hi).str hik
            rw [hd] at this
            cases this
            simp only [Option.some.injEq] at h
            subst h
            rw [e] at hy
            generalize hz1 : AV.str _ = z1 at hy
            generalize hu : va y = u at hy
            cases hy <;> cases hz1
            rename_i s
            refine ⟨.int .i64 _, ?_, .int _ _⟩
            have : s.data.toList.length = s.size := by rw [Array.length_toList]; rfl
            rw [this]
            simp [resolve, invoke, builtin, Builtin.len_, run_underlying hd, goInt, hu]
          · cases h
        · cases h
      · cases h
    · obtain ⟨args⟩ := args
      simp only at h
      split at h
      · rename_i y z l
        obtain ⟨r, h1, h2⟩ := foldMax_ok (P := P) (f := Builtin.max2) (fun k a k' b w => by simp [Builtin.max2]) (hev y) (VRs.map (f := ev) (g := va) (l := z :: l) fun y _ => hev y) (by simp) h
        refine ⟨r, ?_, h2⟩
        simp only [resolve, Sem.run_bind, Sem.run_pure, Result.andThen_ok, invoke, builtin, Builtin.max_, List.map_toArray]
        rw [List.map_cons]
        simp only [h1, Result.andThen_ok]
      · cases h
    · obtain ⟨args⟩ := args
      simp only at h
      split at h
      · rename_i y z l
        obtain ⟨r, h1, h2⟩ := foldMax_ok (P := P) (f := Builtin.min2) (fun k a k' b w => by simp [Builtin.min2]) (hev y) (VRs.map (f := ev) (g := va) (l := z :: l) fun y _ => hev y) (by simp) h
        refine ⟨r, ?_, h2⟩
        simp only [resolve, Sem.run_bind, Sem.run_pure, Result.andThen_ok, invoke, builtin, Builtin.min_, List.map_toArray]
        rw [List.map_cons]
        simp only [h1, Result.andThen_ok]
      · cases h
    · cases h
  · cases h
end
end Go.Ev

/-
The abstract evaluator: copy, and the lemma on all operations.
-/
import Derived.Test.YtpolhfiikbmplaaGreatDoorEv9
namespace Go.Ev
section
variable {P : Program} {E : Env} {x : X}
theorem aCopy_ok (hE : TysOk P E) (hx : WR x) {t1 : TypeId} {ts : List TypeId} {ty : TypeId} {d a v : AV} {ud ua : Value} {h' : AH} (h : aCopy E x.h t1 d a = .val v h') (hd : x.V d ud) (ha : x.V a ua) :
    OpR P x (.val v h') ((do pure (.value (← Builtin.copy_ (t1 :: ts).toArray ty #[ud, ua])) : Sem Next).run P x.w) := by
  unfold aCopy at h
  split at h
  · rename_i e _ _ _ ht1
    have h1 := (hE _ _ ht1).slice rfl
    split at h
    · rename_i ei hei
      have h3 := hE _ _ hei
      split at h
      · rename_i cs m b off sz n cap hcs hm
        split at h
        · rename_i hsz
          subst hsz
          split at h
          · rename_i h2 hw
            simp only [OR.val.injEq] at h
            obtain ⟨rfl, rfl⟩ := h
            obtain ⟨us, b1, b2, b3, b4⟩ := elems_ok (P := P) hx hcs hm ha
            have b4 := b4 x.w rfl (Nat.min m n) (Nat.min_le_left _ _)
            cases hd with
            | sr _ _ _ _ c _ hb q1 q2 q3 =>
              obtain ⟨b', off', w', e1, e2, e3, e4⟩ := writeA_ok (P := P) (u := .pointer (some ⟨x.ρ b, off, none⟩)) hx hw (.ptr _ _ hb) (b1.take (Nat.min m n * ei.sz))
              cases e1
              refine v_of (u := .int .i64 (Nat.min m n : Nat)) ?_ e3 e4 (.int _ _)
              unfold Builtin.copy_
              simp only [List.getElem?_toArray, List.getElem?_cons_zero, List.getElem?_cons_succ, Sem.run_bind, run_underlying h1, Result.andThen_ok, b3, h3.run_sizeOf, b4, e2, Sem.run_pure, goInt]
          · cases h
        · cases h
      · cases h
    · cases h
  · cases h
theorem aCallVal_ok {f : AV} {args : List AV} {uf : Value} {us : List Value} {g : FuncId} {as : List AV} (h : aCallVal f args = .call g as) (hf : x.V f uf) (hu : x.Vs args us) :
    ∃ vs, ((do let d ← Deferred.ofValue uf us.toArray; invoke d.target d.args) : Sem Next).run P x.w = (callFunc g vs.toArray).run P x.w ∧ x.Vs as vs := by
  unfold aCallVal at h
  split at h
  · simp only [OR.call.injEq] at h
    obtain ⟨rfl, rfl⟩ := h
    cases hf with
    | func _ _ a' _ c' q1 q2 =>
      refine ⟨a' ++ us ++ c', ?_, (q1.app hu).app q2⟩
      simp [Deferred.ofValue, invoke]
  · cases h
theorem aop_ok (hE : TysOk P E) (hx : WR x) {ev : Operand → AV} {va : Operand → Value} (hev : ∀ y, x.V (ev y) (va y)) (o : Oper) : OpR P x (aop E ev x.h o.op) ((execOp va o).run P x.w) := by
  have rdr : ∀ r, (match aopR E ev x.h o.op with
      | some v => OR.val v x.h
      | none => .fail) = r → OpR P x r ((execOp va o).run P x.w) := by
    intro r hr
    subst hr
    cases hq : aopR E ev x.h o.op with
    | none => trivial
    | some v => exact .of_read hx (aopR_ok hE hx hev o hq)
  unfold aop
  split
  · rename_i e hop
    split
    · rename_i i hi
      obtain ⟨z, hz, hz2, hz3, _⟩ := (hE _ _ hi).run_zeroValue x.w
      obtain ⟨ρ', a1, a2, a3, a4⟩ := alloc_ok hx (zero_Vs hz2) (r := []) (e := e) (c := z.cells) (by simp) (w' := { x.w with heap := x.w.heap.push (.cells z.cells e) }) rfl rfl rfl rfl
      unfold execOp
      rw [hop]
      refine v_of (u := .pointer (some ⟨x.w.heap.size, 0, none⟩)) ?_ a2 a3 ?_
      · simp only [Instr.alloc, Sem.run_bind, hz, Result.andThen_ok, newVar, run_newRow, Sem.run_pure]
      · rw [← a1]
        exact .ptr _ _ (by simp [hnew])
    · trivial
  · rename_i e y hop
    split
    · trivial
    · rename_i hne
      have hy := hev y
      obtain ⟨ρ', a1, a2, a3, a4⟩ := alloc_ok hx (hy.cells fun h => hne h) (r := []) (e := e) (c := (va y).cells) (by simp) (w' := { x.w with heap := x.w.heap.push (.cells (va y).cells e) }) rfl rfl rfl rfl
      unfold execOp
      rw [hop]
      refine v_of (u := .pointer (some ⟨x.w.heap.size, 0, none⟩)) ?_ a2 a3 ?_
      · simp only [Instr.box, Sem.run_bind, newVar, run_newRow, Result.andThen_ok, Sem.run_pure]
      · rw [← a1]
        exact .ptr _ _ (by simp [hnew])
  · rename_i t len parts hop
    split
    · rename_i e _ _ _ ht
      split
      · rename_i i hi
        split
        · trivial
        · rename_i sz1 hsz1
          split
          · rename_i hl
            split
            · rename_i cs hcs
              have hp : PV x (parts.toList.map fun p => (p.1, ev p.2)) (parts.toList.map fun p => (p.1, va p.2)) := PV.map ev va hev parts.toList
              obtain ⟨c, r1, r2, r3⟩ := buildSlice_ok hE ht rfl hi hp (by omega) (by rw [hsz1]; exact hl) hcs
              obtain ⟨ρ', a1, a2, a3, a4⟩ := alloc_ok hx r2 (r := []) (e := e) (by simp) (w' := { x.w with heap := x.w.heap.push (.cells c e) }) rfl rfl rfl rfl
              unfold execOp
              rw [hop]
              have harr : (parts.toList.map fun p => (p.1, va p.2)).toArray = parts.map fun p => (p.1, va p.2) := by
                apply Array.ext'
                simp
              rw [harr] at r1
              refine v_of r1 a2 a3 ?_
              have a4' := a4
              rw [← a1] at a4'
              rw [← a1]
              refine .sr _ _ _ _ _ _ (by simp [hnew]) (Nat.le_refl _) (fun k hk => by simpa using hk) ⟨_, _, a4', ?_⟩
              rw [← Array.length_toList, ← r2.length, r3]
              omega
            · trivial
          · trivial
      · trivial
    · trivial
  · rename_i t a y hop
    split
    · trivial
    · rename_i _ i hi hne
      split
      · rename_i hsz
        split
        · rename_i h1 hw
          have hy := hev y
          have hcs := hy.cells fun h => hne (by rw [h])
          obtain ⟨b, off, w', e1, e2, e3, e4⟩ := writeA_ok (P := P) hx hw (hev a) hcs
          unfold execOp
          rw [hop]
          refine u_of (w' := w') ?_ e3 e4
          have : (va y).cells.size = i.sz := by rw [← Array.length_toList, ← hcs.length, hsz]
          simp only [Instr.storeAt, Sem.run_bind, e1, Instr.sureAddr, Sem.run_pure, Result.andThen_ok, storeVar, (hE _ _ hi).run_sizeOf, this, ne_eq, not_true_eq_false, if_false, e2]
        · trivial
      · trivial
    · trivial
  · rename_i t l c hop
    unfold execOp
    rw [hop]
    cases hq : aMake E x.h t (ev l) (ev c) with
    | val v h' => exact aMake_ok hE hx hq (hev l) (hev c)
    | fail => trivial
    | _ => unfold aMake at hq; (repeat' split at hq) <;> cases hq
  · rename_i y hop
    have hy := hev y
    split
    · rename_i t v e
      rw [e] at hy
      generalize hu : va y = u at hy
      cases hy with
      | ifc _ _ u' q =>
        refine ⟨.iface t u', rfl, ?_, .ifc _ _ _ q⟩
        unfold execOp
        rw [hop]
        simp [hu, Instr.panic, goPanic]
    · trivial
  · rename_i c hop
    split
    · rename_i f hc
      have hy := hev f
      split
      · rename_i g first caps e
        rw [e] at hy
        generalize hu : va f = u at hy
        cases hy with
        | func _ _ a' _ c' q1 q2 =>
          refine ⟨a' ++ (c.args.toList.map va), c', ?_, q1.app (VRs.map fun y _ => hev y), q2⟩
          unfold execOp
          rw [hop]
          have harr : a'.toArray ++ c.args.map va = (a' ++ c.args.toList.map va).toArray := by apply Array.ext'; simp
          simp only [resolve, hc, hu, Deferred.ofValue, Sem.run_bind, Sem.run_pure, Result.andThen_ok, harr]
      · trivial
    · trivial
  · rename_i c hop
    split
    · rename_i f hc
      have hl : x.Vs (c.args.toList.map ev) (c.args.toList.map va) := VRs.map fun y _ => hev y
      cases hq : aCallVal (ev f) (c.args.toList.map ev) with
      | call g as =>
        obtain ⟨vs, h1, h2⟩ := aCallVal_ok (P := P) hq (hev f) hl
        refine ⟨vs, ?_, h2⟩
        rw [← h1]
        unfold execOp
        rw [hop]
        have harr : (c.args.toList.map va).toArray = c.args.map va := by apply Array.ext'; simp
        simp only [resolve, hc, harr]
      | fail => trivial
      | _ => unfold aCallVal at hq; (repeat' split at hq) <;> cases hq
    · rename_i hc
      obtain ⟨callee, args, argTypes⟩ := c
      obtain ⟨args⟩ := args
      obtain ⟨argTypes⟩ := argTypes
      simp only at hc
      subst hc
      simp only
      split
      · rename_i s a t1 t2
        cases hq : aAppend E x.h t1 t2 (ev s) (ev a) with
        | val v h' =>
          have := aAppend_ok (P := P) (ty := o.type) hE hx hq (hev s) (hev a)
          unfold execOp
          rw [hop]
          simpa [resolve, invoke, builtin] using this
        | fail => trivial
        | _ => unfold aAppend at hq; (repeat' split at hq) <;> cases hq
      · trivial
    · rename_i hc
      obtain ⟨callee, args, argTypes⟩ := c
      obtain ⟨args⟩ := args
      obtain ⟨argTypes⟩ := argTypes
      simp only at hc
      subst hc
      simp only
      split
      · rename_i d a t1 ts
        cases hq : aCopy E x.h t1 (ev d) (ev a) with
        | val v h' =>
          have := aCopy_ok (P := P) (ty := o.type) (ts := ts) hE hx hq (hev d) (hev a)
          unfold execOp
          rw [hop]
          simpa [resolve, invoke, builtin] using this
        | fail => trivial
        | _ => unfold aCopy at hq; (repeat' split at hq) <;> cases hq
      · trivial
    · rename_i hc
      show (execOp va o).run P x.w = .ok .recover x.w
      unfold execOp
      rw [hop]
      simp only [resolve, hc, Sem.run_bind, Sem.run_pure, Result.andThen_ok, invoke, builtin]
    · rename_i hc
      obtain ⟨callee, args, argTypes⟩ := c
      obtain ⟨args⟩ := args
      simp only at hc
      subst hc
      simp only
      split
      · rename_i y
        have hy := hev y
        split
        · rename_i t v e
          rw [e] at hy
          generalize hu : va y = u at hy
          cases hy with
          | ifc _ _ u' q =>
            refine ⟨.iface t u', rfl, ?_, .ifc _ _ _ q⟩
            unfold execOp
            rw [hop]
            simp [hu, resolve, invoke, builtin, Instr.panic, goPanic]
        · trivial
      · trivial
    · rename_i hop' _ _ _ _ _
      exact rdr _ (by rw [hop]; rfl)
  · exact rdr _ rfl
end
end Go.Ev

/-
The abstract evaluator: regions that draw their order.
-/
import Derived.Test.YtpolhfiikbmplaaGreatDoorEv11
import Derived.Still
namespace Go.Ev
/-! ### an operation looks at its operands alone -/
section
variable {E : Env} {call : FuncId → List AV → AH → CRes} {h : AH}
theorem map_eq_of {α β : Type} {f g : α → β} {l : List α} (h : ∀ x ∈ l, f x = g x) : l.map f = l.map g := List.map_congr_left h
theorem opt_map_eq_of {α β : Type} {f g : α → β} {o : Option α} (h : ∀ x ∈ o.toArray, f x = g x) : o.map f = o.map g := by
  cases o with
  | none => rfl
  | some x => simp [h x (by simp)]
theorem aopR_congr {ev ev' : Operand → AV} {op : Op} (he : ∀ y ∈ op.operands, ev y = ev' y) : aopR E ev h op = aopR E ev' h op := by
  have e1 : ∀ y, op.operands = #[y] → ev y = ev' y := fun y hy => he y (by rw [hy]; simp)
  cases op with
  | move y => simp only [aopR, e1 y rfl]
  | assign y => simp only [aopR, e1 y rfl]
  | pick c a b => simp only [aopR, he c (by simp [Op.operands]), he a (by simp [Op.operands]), he b (by simp [Op.operands])]
  | build t parts =>
    simp only [aopR]
    rw [map_eq_of (f := fun p : Nat × Operand => (p.1, ev p.2)) (g := fun p => (p.1, ev' p.2))]
    intro p hp
    rw [he p.2 (by simp only [Op.operands]; exact List.mem_toArray.2 (List.mem_map.2 ⟨p, hp, rfl⟩))]
  | load t a => simp only [aopR, e1 a rfl]
  | nilCheck y => simp only [aopR, e1 y rfl]
  | binOp op t a b _ => simp only [aopR, he a (by simp [Op.operands]), he b (by simp [Op.operands])]
  | unOp op t y => simp only [aopR, e1 y rfl]
  | convert s d y => simp only [aopR, e1 y rfl]
  | makeInterface t y => simp only [aopR, e1 y rfl]
  | makeFunc fn first caps =>
    simp only [aopR]
    rw [map_eq_of (l := first.toList) (f := ev) (g := ev'), map_eq_of (l := caps.toList) (f := ev) (g := ev')]
    · intro y hy; exact he y (by simp only [Op.operands]; exact Array.mem_append.2 (.inr (by simpa using hy)))
    · intro y hy; exact he y (by simp only [Op.operands]; exact Array.mem_append.2 (.inl (by simpa using hy)))
  | slice t y lo hi mx =>
    simp only [aopR]
    rw [he y (by simp [Op.operands]), opt_map_eq_of (o := lo) (f := ev) (g := ev'), opt_map_eq_of (o := hi) (f := ev) (g := ev'), opt_map_eq_of (o := mx) (f := ev) (g := ev')]
    · intro z hz; exact he z (by simp only [Op.operands, Array.mem_append]; exact .inr hz)
    · intro z hz; exact he z (by simp only [Op.operands, Array.mem_append]; exact .inl (.inr hz))
    · intro z hz; exact he z (by simp only [Op.operands, Array.mem_append]; exact .inl (.inl (.inr hz)))
  | fieldAddr s y f => simp only [aopR, e1 y rfl]
  | field s y f => simp only [aopR, e1 y rfl]
  | indexAddr t a b => simp only [aopR, he a (by simp [Op.operands]), he b (by simp [Op.operands])]
  | index t a b => simp only [aopR, he a (by simp [Op.operands]), he b (by simp [Op.operands])]
  | typeAssert y s t ok => simp only [aopR, e1 y rfl]
  | extract y i => simp only [aopR, e1 y rfl]
  | call c =>
    obtain ⟨callee, ⟨args⟩, argTypes⟩ := c
    have ha : ∀ y ∈ args, ev y = ev' y := fun y hy => he y (by simp only [Op.operands, Call.operands, Array.mem_append]; exact .inr (by simpa using hy))
    cases callee with
    | builtin b =>
      rcases args with _ | ⟨y, _ | ⟨z, l⟩⟩
      · cases b <;> rfl
      · have hy := ha y (by simp)
        rcases argTypes with ⟨_ | ⟨t, _ | ⟨t2, ts⟩⟩⟩ <;> cases b <;> first | rfl | (simp only [aopR, hy])
      · have hy := ha y (by simp)
        have hl : (z :: l).map ev = (z :: l).map ev' := map_eq_of fun q hq => ha q (List.mem_cons_of_mem _ hq)
        cases b <;> first | rfl | (simp only [aopR, hy, hl])
    | _ => rfl
  | _ => rfl
theorem quietVal_congr {ev ev' : Operand → AV} {op : Op} (he : ∀ y ∈ op.operands, ev y = ev' y) : quietVal E call ev h op = quietVal E call ev' h op := by
  have e0 := aopR_congr (E := E) (h := h) he
  cases op with
  | alloc e => rfl
  | box e y => simp only [quietVal, he y (by simp [Op.operands])]
  | buildSlice t len parts =>
    simp only [quietVal, aop]
    rw [map_eq_of (f := fun p : Nat × Operand => (p.1, ev p.2)) (g := fun p => (p.1, ev' p.2))]
    intro p hp
    rw [he p.2 (by simp only [Op.operands]; exact List.mem_toArray.2 (List.mem_map.2 ⟨p, hp, rfl⟩))]
  | call c =>
    obtain ⟨callee, ⟨args⟩, argTypes⟩ := c
    have ha : ∀ y ∈ args, ev y = ev' y := fun y hy => he y (by simp only [Op.operands, Call.operands, Array.mem_append]; exact .inr (by simpa using hy))
    cases callee with
    | value f =>
      have hf : ev f = ev' f := he f (by simp [Op.operands, Call.operands])
      simp only [quietVal]
      rw [hf, map_eq_of ha]
    | builtin b => cases b <;> first | exact e0 | rfl
    | invoke r m => rfl
  | _ => exact e0
end

section
variable {E : Env} {call : FuncId → List AV → AH → CRes} {h : AH} {ops : Array Oper}
theorem mem_looksAt {o : Oper} {t : Tmp} (h : Operand.tmp t ∈ o.op.operands) : t ∈ o.looksAt ops := by
  unfold Oper.looksAt
  refine List.mem_append.2 (.inl (List.mem_filterMap.2 ⟨.tmp t, by simpa using h, rfl⟩))
theorem evA_congr {fr fr' : List AV} {op : Op} (h : ∀ t, Operand.tmp t ∈ op.operands → nth fr t = nth fr' t) : ∀ y ∈ op.operands, evA fr y = evA fr' y := by
  intro y hy
  cases y with
  | tmp t => simp only [evA, h t hy]
  | _ => rfl
theorem aop_congr {ev ev' : Operand → AV} {op : Op} (hw : wrOp E op = true) (he : ∀ y ∈ op.operands, ev y = ev' y) : aop E ev h op = aop E ev' h op := by
  cases op with
  | store t a x => simp only [aop, he a (by simp [Op.operands]), he x (by simp [Op.operands])]
  | makeSlice t l c => simp only [aop, he l (by simp [Op.operands]), he c (by simp [Op.operands])]
  | call c =>
    obtain ⟨callee, ⟨args⟩, argTypes⟩ := c
    have ha : ∀ y ∈ args, ev y = ev' y := fun y hy => he y (by simp only [Op.operands, Call.operands, Array.mem_append]; exact .inr (by simpa using hy))
    cases callee with
    | value f =>
      have hf : ev f = ev' f := he f (by simp [Op.operands, Call.operands])
      simp only [aop]
      rw [hf, map_eq_of ha]
    | builtin b =>
      rcases args with _ | ⟨y, _ | ⟨z, _ | ⟨u, l⟩⟩⟩
      · cases b <;> first | rfl | (simp [wrOp] at hw)
      · cases b <;> first | rfl | (simp [wrOp] at hw)
      · have hy := ha y (by simp)
        have hz := ha z (by simp)
        rcases argTypes with ⟨_ | ⟨t, _ | ⟨t2, _ | ⟨t3, ts⟩⟩⟩⟩ <;> cases b <;> first | (simp [wrOp] at hw; done) | rfl | (simp only [aop, hy, hz])
      · cases b <;> first | rfl | (simp [wrOp] at hw)
    | invoke r m => simp [wrOp] at hw
  | _ => simp [wrOp] at hw
theorem loudD_congr {ev ev' : Operand → AV} {op : Op} (hw : wrOp E op = true) (he : ∀ y ∈ op.operands, ev y = ev' y) : loudD E call ev h op = loudD E call ev' h op := by
  unfold loudD
  rw [aop_congr hw he]
theorem pendOf_congr {pf pf' : List AV} {a : Operand} (h : ∀ t, a = .tmp t → nth pf t = nth pf' t) : pendOf pf a = pendOf pf' a := by
  cases a with
  | tmp t => simp only [pendOf, h t rfl]
  | _ => rfl
theorem doneD_congr {fr fr' pf pf' : List AV} {dst : Option Tmp} {op : Op} (hf : ∀ t, Operand.tmp t ∈ op.operands → nth fr t = nth fr' t) (hp : ∀ t, Operand.tmp t ∈ op.operands → nth pf t = nth pf' t) :
    doneD E call fr pf h dst op = doneD E call fr' pf' h dst op := by
  have he := evA_congr hf
  cases op with
  | alloc e => rfl
  | store t a x =>
    simp only [doneD]
    rw [pendOf_congr (pf := pf) (pf' := pf') (a := a) fun t e => hp t (by simp [Op.operands, e]), he x (by simp [Op.operands]), loudD_congr (op := .store t a x) rfl he]
  | _ =>
    simp only [doneD]
    rw [quietVal_congr he]
    split
    · rename_i hw; exact loudD_congr hw he
    · rfl
theorem wantedA_congr {fr fr' : List AV} {o : Oper} (h : ∀ t ∈ o.looksAt ops, nth fr t = nth fr' t) : wantedA ops.toList fr o = wantedA ops.toList fr' o := by
  unfold wantedA
  cases hg : o.guard with
  | none => rfl
  | some p =>
    obtain ⟨j, want⟩ := p
    simp only
    cases hj : nth ops.toList j with
    | none => rfl
    | some oj =>
      simp only
      cases hdj : oj.dst with
      | none => rfl
      | some t =>
        simp only
        have : nth fr t = nth fr' t := by
          refine h t ?_
          unfold Oper.looksAt
          rw [hg]
          refine List.mem_append.2 (.inr ?_)
          rw [nth_eq, Array.getElem?_toList] at hj
          simp [hj, hdj]
        rw [this]
theorem coreD_congr {o : Oper} {fr fr' pf pf' : List AV} (hf : ∀ t ∈ o.looksAt ops, nth fr t = nth fr' t) (hp : ∀ t ∈ o.looksAt ops, nth pf t = nth pf' t) :
    coreD E call ops.toList o fr pf h = coreD E call ops.toList o fr' pf' h := by
  unfold coreD
  rw [wantedA_congr hf, doneD_congr (fr := fr) (fr' := fr') (pf := pf) (pf' := pf') (fun t ht => hf t (mem_looksAt ht)) (fun t ht => hp t (mem_looksAt ht))]
/-- What does not look at the heap. -/
theorem aopR_still {ev : Operand → AV} {op : Op} (ht : tcOp E op = false) (h h' : AH) : aopR E ev h op = aopR E ev h' op := by
  cases op with
  | load => simp [tcOp] at ht
  | convert => simp [tcOp] at ht
  | _ => rfl
theorem quietVal_still {ev : Operand → AV} {op : Op} (ht : tcOp E op = false) (h h' : AH) : quietVal E call ev h op = quietVal E call ev h' op := by
  cases op with
  | buildSlice t len parts =>
    simp only [quietVal, aop]
    cases E.ty t with
    | none => rfl
    | some i =>
      obtain ⟨k, _, _, _⟩ := i
      cases k with
      | slice e =>
        simp only
        cases E.ty e with
        | none => rfl
        | some i =>
          obtain ⟨_, sz, _, z⟩ := i
          cases sz with
          | zero => rfl
          | succ sz =>
            simp only
            by_cases hl : len * (sz + 1) ≤ 16777216
            · simp only [if_pos hl]
              cases fillA (fun j => some (j * (sz + 1), sz + 1)) (rep len z) (List.map (fun p => (p.fst, ev p.snd)) parts.toList) <;> rfl
            · simp only [if_neg hl]
      | _ => rfl
  | call c =>
    obtain ⟨callee, args, argTypes⟩ := c
    cases callee with
    | builtin b => cases b <;> rfl
    | _ => rfl
  | alloc => rfl
  | box => rfl
  | _ => exact aopR_still (ev := ev) ht h h'
theorem doneD_quiet {fr pf : List AV} {dst : Option Tmp} {op : Op} {v : AV} {p : Option (Nat × AV)} {h h1 : AH} (hw : wrOp E op = false) (hh : doneD E call fr pf h dst op = some (v, p, h1)) : h1 = h := by
  cases op with
  | alloc e =>
    simp only [doneD] at hh
    split at hh
    · simp only [Option.some.injEq, Prod.mk.injEq] at hh
      exact hh.2.2.symm
    · cases hh
  | store => simp [wrOp] at hw
  | _ =>
    simp only [doneD, hw] at hh
    split at hh
    · simp only [Option.some.injEq, Prod.mk.injEq] at hh
      exact hh.2.2.symm
    · cases hh
theorem wr_of_tc {op : Op} (h : tcOp E op = false) : wrOp E op = false := by
  cases op <;> first | rfl | (simp [tcOp] at h; done) | exact h
theorem doneD_still {fr pf : List AV} {dst : Option Tmp} {op : Op} (ht : tcOp E op = false) {v : AV} {p : Option (Nat × AV)} {h h1 : AH} (hh : doneD E call fr pf h dst op = some (v, p, h1)) (h' : AH) : doneD E call fr pf h' dst op = some (v, p, h') := by
  have hw := wr_of_tc ht
  have e := doneD_quiet hw hh
  subst e
  cases op with
  | alloc e =>
    simp only [doneD] at hh ⊢
    split at hh
    · simp only [Option.some.injEq, Prod.mk.injEq] at hh
      obtain ⟨rfl, rfl, _⟩ := hh
      rfl
    · cases hh
  | store => simp [wrOp] at hw
  | _ =>
    simp only [doneD, hw] at hh ⊢
    rw [quietVal_still ht h' h1]
    split at hh
    · simp only [Option.some.injEq, Prod.mk.injEq] at hh
      obtain ⟨rfl, rfl, _⟩ := hh
      rfl
    · cases hh
theorem loudD_p {ev : Operand → AV} {op : Op} {v : AV} {p : Option (Nat × AV)} {h h1 : AH} (hh : loudD E call ev h op = some (v, p, h1)) : p = none := by
  unfold loudD at hh
  split at hh
  · simp only [Option.some.injEq, Prod.mk.injEq] at hh; exact hh.2.1.symm
  · simp only [Option.some.injEq, Prod.mk.injEq] at hh; exact hh.2.1.symm
  · split at hh
    · simp only [Option.some.injEq, Prod.mk.injEq] at hh; exact hh.2.1.symm
    · cases hh
  · cases hh
/-- The variable that an operation fills is its own or one it looks at. -/
theorem doneD_p {fr pf : List AV} {dst : Option Tmp} {op : Op} {v : AV} {d : Nat} {u : AV} {h h1 : AH} (hh : doneD E call fr pf h dst op = some (v, some (d, u), h1)) : (dst = some d ∧ wrOp E op = false) ∨ (Operand.tmp d ∈ op.operands ∧ wrOp E op = true) := by
  cases op with
  | alloc e =>
    simp only [doneD] at hh
    split at hh
    · simp only [Option.some.injEq, Prod.mk.injEq] at hh
      obtain ⟨_, ⟨rfl, _⟩, _⟩ := hh
      exact .inl ⟨rfl, rfl⟩
    · cases hh
  | store t a x =>
    right
    simp only [doneD] at hh
    split at hh
    · rename_i d' zs hp
      split at hh
      · split at hh
        · simp only [Option.some.injEq, Prod.mk.injEq] at hh
          obtain ⟨_, ⟨rfl, _⟩, _⟩ := hh
          cases a with
          | tmp t =>
            simp only [pendOf] at hp
            split at hp
            · simp only [Option.some.injEq, Prod.mk.injEq] at hp
              simp [Op.operands, hp.1, wrOp]
            · cases hp
          | _ => simp [pendOf] at hp
        · cases hh
      · cases hh
    · exact absurd (loudD_p hh) (by simp)
  | _ =>
    simp only [doneD] at hh
    split at hh
    · exact absurd (loudD_p hh) (by simp)
    · split at hh
      · simp only [Option.some.injEq, Prod.mk.injEq] at hh
        cases hh.2.1
      · cases hh
theorem coreD_quiet {o : Oper} {fr pf : List AV} {v : AV} {p : Option (Nat × AV)} {h h1 : AH} (hw : wrOp E o.op = false) (hh : coreD E call ops.toList o fr pf h = some (v, p, h1)) : h1 = h := by
  unfold coreD at hh
  split at hh
  · cases hh
  · simp only [Option.some.injEq, Prod.mk.injEq] at hh; exact hh.2.2.symm
  · exact doneD_quiet hw hh
theorem coreD_still {o : Oper} {fr pf : List AV} {v : AV} {p : Option (Nat × AV)} {h h1 : AH} (ht : tcOp E o.op = false) (hh : coreD E call ops.toList o fr pf h = some (v, p, h1)) (h' : AH) : coreD E call ops.toList o fr pf h' = some (v, p, h') := by
  unfold coreD at hh ⊢
  split at hh
  · cases hh
  · rename_i hw
    simp only [Option.some.injEq, Prod.mk.injEq] at hh
    obtain ⟨rfl, rfl, _⟩ := hh
    rfl
  · rename_i hw
    exact doneD_still ht hh h'
theorem coreD_p {o : Oper} {fr pf : List AV} {v : AV} {d : Nat} {u : AV} {h h1 : AH} (hh : coreD E call ops.toList o fr pf h = some (v, some (d, u), h1)) : (o.dst = some d ∧ wrOp E o.op = false) ∨ (d ∈ o.looksAt ops ∧ wrOp E o.op = true) := by
  unfold coreD at hh
  split at hh
  · cases hh
  · simp only [Option.some.injEq, Prod.mk.injEq] at hh
    cases hh.2.1
  · rcases doneD_p hh with h | h
    · exact .inl h
    · exact .inr ⟨mem_looksAt h.1, h.2⟩

/-! ### two operations that do not meet -/
theorem nth_putA {fr : List AV} {dst : Option Tmp} {v : AV} {t : Nat} (h : dst ≠ some t) : nth (putA fr dst v) t = nth fr t := by
  cases dst with
  | none => rfl
  | some d =>
    have hne : d ≠ t := fun e => h (by rw [e])
    simp only [putA, nth_eq, setNth_eq, List.getElem?_set_ne hne]
theorem nth_putP {pf : List AV} {p : Option (Nat × AV)} {t : Nat} (h : ∀ d u, p = some (d, u) → d ≠ t) : nth (putP pf p) t = nth pf t := by
  cases p with
  | none => rfl
  | some q =>
    obtain ⟨d, u⟩ := q
    simp only [putP, nth_eq, setNth_eq, List.getElem?_set_ne (h d u rfl)]
theorem putA_comm (fr : List AV) {a b : Option Tmp} (v u : AV) (h : ∀ d, a = some d → b ≠ some d) : putA (putA fr a v) b u = putA (putA fr b u) a v := by
  cases a with
  | none => rfl
  | some d => cases b with
    | none => rfl
    | some e =>
      have hne : d ≠ e := fun he => h d rfl (by rw [he])
      simp only [putA, setNth_eq]
      rw [List.set_comm _ _ hne]
theorem putP_comm (pf : List AV) {a b : Option (Nat × AV)} (h : ∀ d v e u, a = some (d, v) → b = some (e, u) → d ≠ e) : putP (putP pf a) b = putP (putP pf b) a := by
  cases a with
  | none => rfl
  | some p => cases b with
    | none => rfl
    | some q =>
      obtain ⟨d, v⟩ := p
      obtain ⟨e, u⟩ := q
      simp only [putP, setNth_eq]
      rw [List.set_comm _ _ (h d v e u rfl rfl)]
theorem freeD_congr {pf pf' : List AV} {dst : Option Tmp} (h : ∀ t, dst = some t → nth pf t = nth pf' t) : freeD pf dst = freeD pf' dst := by
  cases dst with
  | none => rfl
  | some d => simp only [freeD, h d rfl]
theorem stepD_some {o : Oper} {s s1 : DS} (h : stepD E call ops.toList o s = some s1) : freeD s.pf o.dst = true ∧ ∃ v p h1, coreD E call ops.toList o s.fr s.pf s.h = some (v, p, h1) ∧ s1 = ⟨putA s.fr o.dst v, putP s.pf p, h1⟩ := by
  unfold stepD at h
  split at h
  · cases h
  · rename_i hf
    split at h
    · rename_i v p h1 hc
      simp only [Option.some.injEq] at h
      exact ⟨hf, v, p, h1, hc, h.symm⟩
    · cases h
theorem stepD_of {o : Oper} {s : DS} {v : AV} {p : Option (Nat × AV)} {h1 : AH} (hf : freeD s.pf o.dst = true) (hc : coreD E call ops.toList o s.fr s.pf s.h = some (v, p, h1)) : stepD E call ops.toList o s = some ⟨putA s.fr o.dst v, putP s.pf p, h1⟩ := by
  unfold stepD
  rw [hf]
  simp only [hc]
theorem doneD_pf {fr pf pf' : List AV} {dst : Option Tmp} {op : Op} (hw : wrOp E op = false) : doneD E call fr pf h dst op = doneD E call fr pf' h dst op := by
  cases op with
  | store => simp [wrOp] at hw
  | _ => rfl
theorem coreD_pf {fr pf pf' : List AV} {o : Oper} (hw : wrOp E o.op = false) : coreD E call ops.toList o fr pf h = coreD E call ops.toList o fr pf' h := by
  unfold coreD
  rw [doneD_pf hw]
theorem coreD_half {i j : Oper} {fr pf : List AV} {vi : AV} {pi : Option (Nat × AV)} {hi h0 : AH} (ci : coreD E call ops.toList i fr pf h = some (vi, pi, hi)) (k1 : ∀ d, i.dst = some d → d ∉ j.looksAt ops) (k2 : wrOp E i.op = true → tcOp E j.op = false) :
    coreD E call ops.toList j (putA fr i.dst vi) (putP pf pi) h0 = coreD E call ops.toList j fr pf h0 := by
  rw [coreD_congr (fr' := fr) (pf' := putP pf pi) (fun t ht => nth_putA fun e => k1 t e ht) (fun _ _ => rfl)]
  cases hw : wrOp E i.op with
  | true => exact coreD_pf (wr_of_tc (k2 hw))
  | false =>
    refine coreD_congr (fun _ _ => rfl) fun t ht => nth_putP fun d u e => ?_
    subst e
    rcases coreD_p ci with ⟨h1, _⟩ | ⟨_, h1⟩
    · rintro rfl; exact k1 _ h1 ht
    · rw [hw] at h1; cases h1
theorem stepD_comm {i j : Oper} {s s1 s2 : DS} (ha : apart2 E ops i j = true) (hi : stepD E call ops.toList i s = some s1) (hj : stepD E call ops.toList j s1 = some s2) :
    ∃ t, stepD E call ops.toList j s = some t ∧ stepD E call ops.toList i t = some s2 := by
  obtain ⟨fi, vi, pi, hi1, ci, rfl⟩ := stepD_some hi
  obtain ⟨fj, vj, pj, hj1, cj, rfl⟩ := stepD_some hj
  simp only at fj cj
  simp only [apart2, Bool.and_eq_true, Bool.not_eq_true', Bool.and_eq_false_iff] at ha
  obtain ⟨⟨ha0, ha1⟩, ha2⟩ := ha
  obtain ⟨k1, k2, k3⟩ := Oper.apart_spec ha0
  have wi : wrOp E i.op = true → tcOp E j.op = false := fun h => by
    rcases ha1 with h' | h'
    · rw [h] at h'; cases h'
    · exact h'
  have wj : wrOp E j.op = true → tcOp E i.op = false := fun h => by
    rcases ha2 with h' | h'
    · exact h'
    · rw [h] at h'; cases h'
  rw [coreD_half ci k1 wi] at cj
  have dij : ∀ d u, pi = some (d, u) → j.dst ≠ some d := fun d u e => by
    subst e
    rcases coreD_p ci with ⟨h1, _⟩ | ⟨h1, _⟩
    · exact k2 d h1
    · exact fun e => k3 d e h1
  rw [freeD_congr (pf' := s.pf) (fun t e => nth_putP fun d u e' => by rintro rfl; exact dij _ u e' e)] at fj
  have fin : ∀ hj2, coreD E call ops.toList j s.fr s.pf s.h = some (vj, pj, hj2) → coreD E call ops.toList i s.fr s.pf hj2 = some (vi, pi, hj1) →
      ∃ t, stepD E call ops.toList j s = some t ∧ stepD E call ops.toList i t = some ⟨putA (putA s.fr i.dst vi) j.dst vj, putP (putP s.pf pi) pj, hj1⟩ := fun hj2 e1 e2 => by
    have dji : ∀ d u, pj = some (d, u) → i.dst ≠ some d := fun d u e => by
      subst e
      rcases coreD_p e1 with ⟨h1, _⟩ | ⟨h1, _⟩
      · exact fun h => k2 d h h1
      · exact fun h => k1 d h h1
    refine ⟨_, stepD_of fj e1, ?_⟩
    have hc : coreD E call ops.toList i (putA s.fr j.dst vj) (putP s.pf pj) hj2 = some (vi, pi, hj1) := by
      rw [coreD_half e1 k3 wj]
      exact e2
    rw [stepD_of (s := ⟨putA s.fr j.dst vj, putP s.pf pj, hj2⟩) (by rw [freeD_congr (pf' := s.pf) (fun t e => nth_putP fun d u e' => by rintro rfl; exact dji _ u e' e)]; exact fi) hc]
    rw [putA_comm s.fr vi vj k2, putP_comm s.pf]
    intro d v e u e1' e2' hde
    subst e1'
    subst e2'
    subst hde
    rcases coreD_p ci with ⟨h1, _⟩ | ⟨h1, h1'⟩
    · exact dji _ _ rfl h1
    · rcases coreD_p e1 with ⟨h2, _⟩ | ⟨h2, h2'⟩
      · exact dij _ _ rfl h2
      · have := wr_of_tc (wi h1')
        rw [h2'] at this
        cases this
  cases hwi : wrOp E i.op with
  | true =>
    have htj := wi hwi
    have := coreD_quiet (wr_of_tc htj) cj
    subst this
    exact fin s.h (coreD_still htj cj s.h) ci
  | false =>
    have := coreD_quiet hwi ci
    subst this
    refine fin hj1 cj ?_
    cases hwj : wrOp E j.op with
    | true => exact coreD_still (wj hwj) ci hj1
    | false =>
      have := coreD_quiet hwj cj
      subst this
      exact ci

/-! ### what an operation has to wait for -/
inductive Anc (md : Region.Mode) (ops : Array Oper) : Nat → Nat → Prop
  | one {j : Nat} {o : Oper} {e : Edge} : ops[j]? = some o → e ∈ o.after → Region.binds md e = true → Anc md ops j e.on
  | step {j k : Nat} {o : Oper} {e : Edge} : ops[j]? = some o → e ∈ o.after → Region.binds md e = true → Anc md ops e.on k → Anc md ops j k
def Closed (md : Region.Mode) (ops : Array Oper) (listed : Array Bool) : Prop := ∀ j o, ops[j]? = some o → listed.getD j false = true → ∀ e ∈ o.after, Region.binds md e = true → listed.getD e.on false = true
theorem Closed.anc {md : Region.Mode} {listed : Array Bool} (hc : Closed md ops listed) {j k : Nat} (h : Anc md ops j k) : listed.getD j false = true → listed.getD k false = true := by
  induction h with
  | one h1 h2 h3 => exact fun hl => hc _ _ h1 hl _ h2 h3
  | step h1 h2 h3 _ ih => exact fun hl => ih (hc _ _ h1 hl _ h2 h3)
theorem Closed.ready {md : Region.Mode} {listed : Array Bool} (hc : Closed md ops listed) {j k : Nat} (h : Anc md ops j k) (hr : j ∈ Region.ready md ops listed) : listed.getD k false = true := by
  obtain ⟨_, o, ho, hall⟩ := mem_ready.1 hr
  cases h with
  | one h1 h2 h3 =>
    rw [ho] at h1
    cases h1
    exact hall _ h2 h3
  | step h1 h2 h3 h4 =>
    rw [ho] at h1
    cases h1
    exact hc.anc h4 (hall _ h2 h3)
theorem Closed.set {md : Region.Mode} {listed : Array Bool} (hc : Closed md ops listed) {i : Nat} (hr : i ∈ Region.ready md ops listed) : Closed md ops (listed.setIfInBounds i true) := by
  obtain ⟨_, o, ho, hall⟩ := mem_ready.1 hr
  intro j oj hj hl e he hb
  by_cases hij : i = j
  · subst hij
    rw [ho] at hj
    cases hj
    exact getD_set_true (hall e he hb)
  · rw [getD_set_ne false hij] at hl
    exact getD_set_true (hc j oj hj hl e he hb)
theorem unl {listed : Array Bool} {i : Nat} (h : listed.getD i true = false) : listed.getD i false = false := by
  rcases Nat.lt_or_ge i listed.size with h' | h'
  · simp [h'] at h ⊢; exact h
  · simp [Array.getElem?_eq_none h'] at h
/-- Whatever order is picked, the state in the end is this. -/
def wpAnyD (E : Env) (call : FuncId → List AV → AH → CRes) (md : Region.Mode) (ops : Array Oper) (fin : DS) : Nat → Array Bool → DS → Prop
  | 0, listed, s => Region.ready md ops listed = [] ∧ s = fin
  | fuel + 1, listed, s => (Region.ready md ops listed = [] → s = fin) ∧
    ∀ i ∈ Region.ready md ops listed, ∃ o s1, ops[i]? = some o ∧ stepD E call ops.toList o s = some s1 ∧ wpAnyD E call md ops fin fuel (listed.setIfInBounds i true) s1
theorem wpAnyD_first {md : Region.Mode} {fin : DS} {i : Nat} {oi : Oper} (hi : ops[i]? = some oi) :
    ∀ (fuel : Nat) (listed : Array Bool) (s s1 : DS), Closed md ops listed →
      (∀ j oj, ops[j]? = some oj → j ≠ i → listed.getD j true = false → ¬ Anc md ops j i → apart2 E ops oi oj = true) →
      i ∈ Region.ready md ops listed → stepD E call ops.toList oi s = some s1 →
      wpAnyD E call md ops fin fuel (listed.setIfInBounds i true) s1 → wpAnyD E call md ops fin (fuel + 1) listed s := by
  intro fuel
  induction fuel with
  | zero =>
    intro listed s s1 _ _ hr hy H
    refine ⟨fun h => (by rw [h] at hr; cases hr), fun j hj => ?_⟩
    by_cases hji : j = i
    · subst hji; exact ⟨oi, s1, hi, hy, H⟩
    · have := ready_mono hj hji
      rw [H.1] at this
      cases this
  | succ fuel ih =>
    intro listed s s1 hcl hfree hr hy H
    refine ⟨fun h => (by rw [h] at hr; cases hr), fun j hj => ?_⟩
    by_cases hji : j = i
    · subst hji; exact ⟨oi, s1, hi, hy, H⟩
    · obtain ⟨oj, s2, hoj, hu, hrest⟩ := H.2 j (ready_mono hj hji)
      have hjun := (mem_ready.1 hj).1
      have hnot : ¬ Anc md ops j i := fun h => by
        have h1 := hcl.ready h hj
        rw [unl (mem_ready.1 hr).1] at h1
        cases h1
      obtain ⟨t, ht, ht2⟩ := stepD_comm (hfree j oj hoj hji hjun hnot) hy hu
      refine ⟨oj, t, hoj, ht, ih (listed.setIfInBounds j true) t s2 (hcl.set hj) (fun k ok hk hki hun hno => ?_) (ready_mono hr (Ne.symm hji)) ht2 ?_⟩
      · refine hfree k ok hk hki ?_ hno
        by_cases hjk : j = k
        · subst hjk; exact hjun
        · rw [getD_set_ne true hjk] at hun; exact hun
      · rw [Array.setIfInBounds_comm _ _ hji]
        exact hrest
def backB (md : Region.Mode) (k : Nat) : List Edge → Bool
  | [] => true
  | e :: l => match Region.binds md e with
    | true => Nat.blt e.on k && backB md k l
    | false => backB md k l
def rowB (E : Env) (ops : Array Oper) (oi : Oper) (i : Nat) : List Oper → List Nat → Bool
  | [], _ => true
  | _ :: _, [] => false
  | oj :: l, u :: us => match u.testBit i with
    | true => rowB E ops oi i l us
    | false => match apart2 E ops oi oj with
      | true => rowB E ops oi i l us
      | false => false
def allRowsB (E : Env) (md : Region.Mode) (ops : Array Oper) (us : List Nat) : Nat → List Oper → Bool
  | _, [] => true
  | i, o :: l => backB md i o.after.toList && rowB E ops o i l (us.drop (i + 1)) && allRowsB E md ops us (i + 1) l
/-- The order of the text stands for all. -/
def drawB (E : Env) (md : Region.Mode) (ops : Array Oper) : Bool := allRowsB E md ops (upsOf md ops.toList []) 0 ops.toList
theorem backB_spec {md : Region.Mode} {k : Nat} : ∀ {l : List Edge}, backB md k l = true → ∀ e ∈ l, Region.binds md e = true → e.on < k
  | [], _, e, he, _ => by cases he
  | e0 :: l, h, e, he, hb => by
    simp only [backB] at h
    split at h
    · simp only [Bool.and_eq_true, Nat.blt_eq] at h
      rcases List.mem_cons.1 he with rfl | he
      · exact h.1
      · exact backB_spec h.2 e he hb
    · rename_i hb0
      rcases List.mem_cons.1 he with rfl | he
      · rw [hb] at hb0; cases hb0
      · exact backB_spec h e he hb
theorem upOf_spec {md : Region.Mode} {us : List Nat} {j : Nat} {o : Oper} (ho : ops[j]? = some o) (hus : ∀ i u, us[i]? = some u → ∀ k, u.testBit k = true → Anc md ops i k) : ∀ (l : List Edge), (∀ e ∈ l, e ∈ o.after) → ∀ k, (upOf md us l).testBit k = true → Anc md ops j k
  | [], _, k, h => by simp [upOf] at h
  | e :: l, hm, k, h => by
    simp only [upOf] at h
    split at h
    · rename_i hb
      simp only [Nat.testBit_or, Bool.or_eq_true, Nat.testBit_two_pow, decide_eq_true_eq] at h
      rcases h with (rfl | h) | h
      · exact .one ho (hm e (by simp)) hb
      · split at h
        · rename_i u hu
          rw [nth_eq] at hu
          exact .step ho (hm e (by simp)) hb (hus _ _ hu k h)
        · simp at h
      · exact upOf_spec ho hus l (fun e he => hm e (by simp [he])) k h
    · exact upOf_spec ho hus l (fun e he => hm e (by simp [he])) k h
theorem upsOf_spec {md : Region.Mode} : ∀ (l : List Oper) (us : List Nat), (∀ j, l[j]? = ops[us.length + j]?) → (∀ i u, us[i]? = some u → ∀ k, u.testBit k = true → Anc md ops i k) → ∀ i u, (upsOf md l us)[i]? = some u → ∀ k, u.testBit k = true → Anc md ops i k
  | [], us, _, h => h
  | o :: l, us, hl, h => by
    simp only [upsOf]
    have h0 : ops[us.length]? = some o := by simpa using (hl 0).symm
    refine upsOf_spec l _ (fun j => ?_) fun i u hu k hk => ?_
    · have := hl (j + 1)
      simp only [List.getElem?_cons_succ] at this
      rw [this, List.length_append, List.length_singleton]
      congr 1
      omega
    · rcases Nat.lt_or_ge i us.length with hi | hi
      · rw [List.getElem?_append_left hi] at hu
        exact h i u hu k hk
      · rw [List.getElem?_append_right hi] at hu
        have hi0 : i - us.length = 0 := by
          have := (List.getElem?_eq_some_iff.1 hu).1
          simp at this
          omega
        rw [hi0] at hu
        simp only [List.getElem?_cons_zero, Option.some.injEq] at hu
        subst hu
        have : i = us.length := by omega
        subst this
        exact upOf_spec h0 h _ (fun e he => by simpa using he) k hk
theorem rowB_spec {oi : Oper} {i : Nat} : ∀ {l : List Oper} {us : List Nat}, rowB E ops oi i l us = true → ∀ (j : Nat) (oj : Oper), l[j]? = some oj → (∃ u : Nat, us[j]? = some u ∧ u.testBit i = true) ∨ apart2 E ops oi oj = true
  | [], _, _, j, oj, hj => by simp at hj
  | o :: l, [], h, _, _, _ => by simp [rowB] at h
  | o :: l, u :: us, h, j, oj, hj => by
    simp only [rowB] at h
    cases j with
    | zero =>
      simp only [List.getElem?_cons_zero, Option.some.injEq] at hj
      subst hj
      split at h
      · rename_i hu
        exact .inl ⟨u, by simp, hu⟩
      · split at h
        · rename_i ha; exact .inr ha
        · cases h
    | succ j =>
      simp only [List.getElem?_cons_succ] at hj ⊢
      split at h
      · exact rowB_spec h j oj hj
      · split at h
        · exact rowB_spec h j oj hj
        · cases h
theorem wpAnyD_lex {md : Region.Mode} {fin : DS} {us : List Nat} (hus : ∀ i u, us[i]? = some u → ∀ k, u.testBit k = true → Anc md ops i k) : ∀ (l : List Oper) (k : Nat) (listed : Array Bool) (s : DS), (∀ j, l[j]? = ops[k + j]?) → listed.size = ops.size →
    (∀ j, j < ops.size → (listed.getD j false = true ↔ j < k)) → Closed md ops listed → allRowsB E md ops us k l = true → lexD E call ops.toList l s = some fin → wpAnyD E call md ops fin l.length listed s
  | [], k, listed, s, hl, hsz, hli, _, _, hh => by
    simp only [lexD, Option.some.injEq] at hh
    refine ⟨?_, hh⟩
    rw [List.eq_nil_iff_forall_not_mem]
    intro i hi
    obtain ⟨h0, o, ho, _⟩ := mem_ready.1 hi
    have hlt : i < ops.size := (Array.getElem?_eq_some_iff.1 ho).1
    have hk : ops.size ≤ k := by
      have := hl 0
      simp only [List.getElem?_nil, Nat.add_zero] at this
      exact Array.getElem?_eq_none_iff.1 this.symm
    have h1 := (hli i hlt).2 (by omega)
    rw [unl h0] at h1
    cases h1
  | o :: l, k, listed, s, hl, hsz, hli, hcl, hB, hh => by
    have h0 : ops[k]? = some o := by simpa using (hl 0).symm
    have hk : k < ops.size := (Array.getElem?_eq_some_iff.1 h0).1
    simp only [allRowsB, Bool.and_eq_true] at hB
    obtain ⟨⟨hb, hrow⟩, hB'⟩ := hB
    simp only [lexD] at hh
    split at hh
    · rename_i s1 hs1
      have hun : listed.getD k true = false := by
        have : listed.getD k false = false := by
          cases hg : listed.getD k false with
          | false => rfl
          | true => exact absurd ((hli k hk).1 hg) (Nat.lt_irrefl k)
        have hks : k < listed.size := by omega
        simp [hks] at this ⊢
        exact this
      have hr : k ∈ Region.ready md ops listed := mem_ready.2 ⟨hun, o, h0, fun e he hbe => by
        have := backB_spec hb e (by simpa using he) hbe
        exact (hli e.on (by omega)).2 this⟩
      refine wpAnyD_first h0 l.length listed s s1 hcl (fun j oj hj hjk hjun hna => ?_) hr hs1 ?_
      · have hjlt : j < ops.size := (Array.getElem?_eq_some_iff.1 hj).1
        have hge : ¬ j < k := fun h => by
          have := (hli j hjlt).2 h
          rw [unl hjun] at this
          cases this
        have hje : (o :: l)[j - k]? = some oj := by rw [hl]; rw [show k + (j - k) = j by omega]; exact hj
        rw [show j - k = (j - k - 1) + 1 by omega, List.getElem?_cons_succ] at hje
        rcases rowB_spec hrow _ _ hje with ⟨u, hu, hub⟩ | h
        · rw [List.getElem?_drop, show k + 1 + (j - k - 1) = j by omega] at hu
          exact absurd (hus _ _ hu _ hub) hna
        · exact h
      · refine wpAnyD_lex hus l (k + 1) _ s1 (fun j => by have := hl (j + 1); simpa [Nat.add_assoc, Nat.add_comm 1 j] using this) (by simp [hsz]) (fun j hj => ?_) (hcl.set hr) hB' hh
        by_cases hjk : k = j
        · subst hjk
          have hks : k < listed.size := by omega
          simp [hks]
        · rw [getD_set_ne false hjk, hli j hj]
          omega
    · cases hh
theorem drawB_spec {md : Region.Mode} (hB : drawB E md ops = true) {s fin : DS} (h : lexD E call ops.toList ops.toList s = some fin) : wpAnyD E call md ops fin ops.size (Array.replicate ops.size false) s := by
  have := wpAnyD_lex (E := E) (call := call) (md := md) (us := upsOf md ops.toList []) (upsOf_spec (ops := ops) ops.toList [] (by simp) (by simp)) ops.toList 0 (Array.replicate ops.size false) s (by simp) (by simp) (fun j hj => by simp [hj]) (fun j o _ hl => by
    exfalso
    rcases Nat.lt_or_ge j ops.size with h | h
    · simp [h] at hl
    · simp [h] at hl) hB h
  simpa using this

/-! ### a region that panics -/
def wpAnyP (E : Env) (call : FuncId → List AV → AH → CRes) (md : Region.Mode) (ops : Array Oper) (leaf : Nat) (Lf : DS → Prop) : Nat → Array Bool → DS → Prop
  | 0, _, _ => False
  | fuel + 1, listed, s => Region.ready md ops listed ≠ [] ∧ ∀ j ∈ Region.ready md ops listed,
    (j = leaf → Lf s) ∧ (j ≠ leaf → ∃ o s1, ops[j]? = some o ∧ stepD E call ops.toList o s = some s1 ∧ wpAnyP E call md ops leaf Lf fuel (listed.setIfInBounds j true) s1)
theorem wpAnyP_first {md : Region.Mode} {leaf k : Nat} {Lf : DS → Prop} {ok : Oper} (hk : ops[k]? = some ok) (hkl : k ≠ leaf) :
    ∀ (fuel : Nat) (listed : Array Bool) (s s1 : DS), Closed md ops listed →
      (∀ j oj, ops[j]? = some oj → j ≠ k → listed.getD j true = false → ¬ Anc md ops j k → apart2 E ops ok oj = true) →
      (¬ Anc md ops leaf k → ∀ s s1, stepD E call ops.toList ok s = some s1 → Lf s1 → Lf s) →
      k ∈ Region.ready md ops listed → stepD E call ops.toList ok s = some s1 →
      wpAnyP E call md ops leaf Lf fuel (listed.setIfInBounds k true) s1 → wpAnyP E call md ops leaf Lf (fuel + 1) listed s := by
  intro fuel
  induction fuel with
  | zero => intro listed s s1 _ _ _ _ _ H; exact H.elim
  | succ fuel ih =>
    intro listed s s1 hcl hfree hlf hr hy H
    refine ⟨fun h => (by rw [h] at hr; cases hr), fun j hj => ⟨fun hjl => ?_, fun hjl => ?_⟩⟩
    · subst hjl
      have hnot : ¬ Anc md ops j k := fun h => by
        have h1 := hcl.ready h hj
        rw [unl (mem_ready.1 hr).1] at h1
        cases h1
      exact hlf hnot s s1 hy ((H.2 j (ready_mono hj (Ne.symm hkl))).1 rfl)
    · by_cases hji : j = k
      · subst hji; exact ⟨ok, s1, hk, hy, H⟩
      · obtain ⟨oj, s2, hoj, hu, hrest⟩ := (H.2 j (ready_mono hj hji)).2 hjl
        have hjun := (mem_ready.1 hj).1
        have hnot : ¬ Anc md ops j k := fun h => by
          have h1 := hcl.ready h hj
          rw [unl (mem_ready.1 hr).1] at h1
          cases h1
        obtain ⟨t, ht, ht2⟩ := stepD_comm (hfree j oj hoj hji hjun hnot) hy hu
        refine ⟨oj, t, hoj, ht, ih (listed.setIfInBounds j true) t s2 (hcl.set hj) (fun i oi hi hik hun hno => ?_) hlf (ready_mono hr (Ne.symm hji)) ht2 ?_⟩
        · refine hfree i oi hi hik ?_ hno
          by_cases hij : j = i
          · subst hij; exact hjun
          · rw [getD_set_ne true hij] at hun; exact hun
        · rw [Array.setIfInBounds_comm _ _ hji]
          exact hrest
theorem wpAnyP_more {md : Region.Mode} {leaf : Nat} {Lf : DS → Prop} : ∀ (fuel : Nat) (listed : Array Bool) (s : DS), wpAnyP E call md ops leaf Lf fuel listed s → wpAnyP E call md ops leaf Lf (fuel + 1) listed s
  | 0, _, _, h => h.elim
  | fuel + 1, listed, s, h => ⟨h.1, fun j hj => ⟨(h.2 j hj).1, fun hne => by
    obtain ⟨o, s1, h1, h2, h3⟩ := (h.2 j hj).2 hne
    exact ⟨o, s1, h1, h2, wpAnyP_more fuel _ s1 h3⟩⟩⟩
theorem wpAnyP_le {md : Region.Mode} {leaf : Nat} {Lf : DS → Prop} {n m : Nat} (hnm : n ≤ m) {listed : Array Bool} {s : DS} (h : wpAnyP E call md ops leaf Lf n listed s) : wpAnyP E call md ops leaf Lf m listed s := by
  induction hnm with
  | refl => exact h
  | step _ ih => exact wpAnyP_more _ _ _ ih
theorem memB_iff {k : Nat} {l : List Nat} : memB k l = true ↔ k ∈ l := by
  induction l with
  | nil => simp [memB]
  | cons i l ih =>
    simp only [memB]
    split
    · rename_i h; have := Nat.eq_of_beq_eq_true h; simp [this]
    · rename_i h
      have := Nat.ne_of_beq_eq_false h
      rw [ih]
      simp [Ne.symm this]
theorem edgesIn_spec {md : Region.Mode} {done : List Nat} : ∀ {l : List Edge}, edgesIn md done l = true → ∀ e ∈ l, Region.binds md e = true → e.on ∈ done
  | [], _, e, he, _ => by cases he
  | e0 :: l, h, e, he, hb => by
    simp only [edgesIn] at h
    split at h
    · simp only [Bool.and_eq_true, memB_iff] at h
      rcases List.mem_cons.1 he with rfl | he
      · exact h.1
      · exact edgesIn_spec h.2 e he hb
    · rename_i hb0
      rcases List.mem_cons.1 he with rfl | he
      · rw [hb] at hb0; cases hb0
      · exact edgesIn_spec h e he hb
theorem othersB_spec {us done : List Nat} {leaf k : Nat} {ok : Oper} : ∀ {l : List Oper} {i : Nat}, othersB E ops us done leaf k ok i l = true → ∀ (j : Nat) (oj : Oper), l[j]? = some oj →
    (i + j ∈ done ∨ i + j = k ∨ bitOf us (i + j) k = true ∨ (apart2 E ops ok oj = true ∧ (i + j ≠ leaf ∨ wrOp E ok.op = false)))
  | [], _, _, j, oj, hj => by simp at hj
  | o :: l, i, h, j, oj, hj => by
    simp only [othersB, Bool.and_eq_true, Bool.or_eq_true, memB_iff, Nat.beq_eq, Bool.not_eq_true'] at h
    obtain ⟨h1, h2⟩ := h
    cases j with
    | zero =>
      simp only [List.getElem?_cons_zero, Option.some.injEq] at hj
      subst hj
      rcases h1 with ((h1 | h1) | h1) | ⟨h1, h3⟩
      · exact .inl h1
      · exact .inr (.inl h1)
      · exact .inr (.inr (.inl h1))
      · refine .inr (.inr (.inr ⟨h1, ?_⟩))
        rcases h3 with h3 | h3
        · exact .inl (Nat.ne_of_beq_eq_false h3)
        · exact .inr h3
    | succ j =>
      simp only [List.getElem?_cons_succ] at hj
      have := othersB_spec h2 j oj hj
      rw [show i + 1 + j = i + (j + 1) by omega] at this
      exact this
theorem leafB_spec {us done : List Nat} {leaf : Nat} : ∀ {l : List Oper} {i : Nat}, leafB us done leaf i l = true → ∀ (j : Nat), j < l.length → (i + j ∈ done ∨ i + j = leaf ∨ bitOf us (i + j) leaf = true)
  | [], _, _, j, hj => by simp at hj
  | o :: l, i, h, j, hj => by
    simp only [leafB, Bool.and_eq_true, Bool.or_eq_true, memB_iff, Nat.beq_eq] at h
    obtain ⟨h1, h2⟩ := h
    cases j with
    | zero =>
      rcases h1 with (h1 | h1) | h1
      · exact .inl h1
      · exact .inr (.inl h1)
      · exact .inr (.inr h1)
    | succ j =>
      simp only [List.length_cons] at hj
      have := leafB_spec h2 j (by omega)
      rw [show i + 1 + j = i + (j + 1) by omega] at this
      exact this
theorem wpAnyP_order {md : Region.Mode} {leaf : Nat} {ol : Oper} (hleaf0 : ops[leaf]? = some ol) {Lf : DS → Prop} {us : List Nat} (hus : ∀ i u, us[i]? = some u → ∀ k, u.testBit k = true → Anc md ops i k)
    (hlf : ∀ (k : Nat) (ok : Oper), ops[k]? = some ok → apart2 E ops ok ol = true → wrOp E ok.op = false → ∀ s s1, stepD E call ops.toList ok s = some s1 → Lf s1 → Lf s) :
    ∀ (order done : List Nat) (listed : Array Bool) (s s1 : DS), listed.size = ops.size → (∀ j ∈ done, j < ops.size) → leaf ∉ done → (∀ j, j < ops.size → (listed.getD j false = true ↔ j ∈ done)) → Closed md ops listed →
      panB E md ops us leaf order done = true → lexI E call ops.toList order s = some s1 → Lf s1 → wpAnyP E call md ops leaf Lf (order.length + 1) listed s
  | [], done, listed, s, s1, hsz, hds, hnl, hli, hcl, hB, hh, hf => by
    simp only [lexI, Option.some.injEq] at hh
    subst hh
    simp only [panB, Bool.and_eq_true, Bool.not_eq_true'] at hB
    obtain ⟨⟨_, hedge⟩, hleaf⟩ := hB
    split at hedge
    · rename_i ol hol
      rw [nth_eq, Array.getElem?_toList] at hol
      have hlt : leaf < ops.size := (Array.getElem?_eq_some_iff.1 hol).1
      have hun : listed.getD leaf true = false := by
        have : listed.getD leaf false = false := by
          cases hg : listed.getD leaf false with
          | false => rfl
          | true => exact absurd ((hli leaf hlt).1 hg) hnl
        have hks : leaf < listed.size := by omega
        simp [hks] at this ⊢
        exact this
      have hon : ∀ e ∈ ol.after, Region.binds md e = true → listed.getD e.on false = true := fun e he hbe => by
        have h1 := edgesIn_spec hedge e (by simpa using he) hbe
        have hlt2 : e.on < ops.size := hds _ h1
        exact (hli e.on hlt2).2 h1
      have hr : leaf ∈ Region.ready md ops listed := mem_ready.2 ⟨hun, ol, hol, hon⟩
      refine ⟨fun h => (by rw [h] at hr; cases hr), fun j hj => ⟨fun _ => hf, fun hne => ?_⟩⟩
      exfalso
      obtain ⟨h0, oj, hoj, _⟩ := mem_ready.1 hj
      have hjlt : j < ops.size := (Array.getElem?_eq_some_iff.1 hoj).1
      rcases leafB_spec hleaf j (by simpa using hjlt) with h | h | h
      · rw [Nat.zero_add] at h
        have := (hli j hjlt).2 h
        rw [unl h0] at this
        cases this
      · rw [Nat.zero_add] at h; exact hne h
      · rw [Nat.zero_add] at h
        unfold bitOf at h
        split at h
        · rename_i u hu
          rw [nth_eq] at hu
          have := hcl.ready (hus _ _ hu _ h) hj
          rw [unl hun] at this
          cases this
        · cases h
    · cases hedge
  | k :: order, done, listed, s, s1, hsz, hds, hnl, hli, hcl, hB, hh, hf => by
    simp only [panB, Bool.and_eq_true, Bool.not_eq_true'] at hB
    obtain ⟨⟨⟨hnk, hkl⟩, hmid⟩, hB'⟩ := hB
    have hnk : k ∉ done := fun h => by rw [memB_iff.2 h] at hnk; cases hnk
    have hkl := Nat.ne_of_beq_eq_false hkl
    simp only [lexI] at hh
    split at hmid
    · rename_i ok hok
      rw [hok] at hh
      simp only at hh
      rw [nth_eq, Array.getElem?_toList] at hok
      simp only [Bool.and_eq_true] at hmid
      obtain ⟨hedge, hoth⟩ := hmid
      have hlt : k < ops.size := (Array.getElem?_eq_some_iff.1 hok).1
      split at hh
      · rename_i t ht
        have hun : listed.getD k true = false := by
          have : listed.getD k false = false := by
            cases hg : listed.getD k false with
            | false => rfl
            | true => exact absurd ((hli k hlt).1 hg) hnk
          have hks : k < listed.size := by omega
          simp [hks] at this ⊢
          exact this
        have hon : ∀ e ∈ ok.after, Region.binds md e = true → listed.getD e.on false = true := fun e he hbe => by
          have h1 := edgesIn_spec hedge e (by simpa using he) hbe
          have hlt2 : e.on < ops.size := hds _ h1
          exact (hli e.on hlt2).2 h1
        have hr : k ∈ Region.ready md ops listed := mem_ready.2 ⟨hun, ok, hok, hon⟩
        have other : ∀ j oj, ops[j]? = some oj → j ≠ k → j ∉ done → ¬ Anc md ops j k → apart2 E ops ok oj = true ∧ (j ≠ leaf ∨ wrOp E ok.op = false) := fun j oj hj hjk hjd hna => by
          rcases othersB_spec hoth j oj (by rw [Array.getElem?_toList]; exact hj) with h | h | h | h
          · rw [Nat.zero_add] at h; exact absurd h hjd
          · rw [Nat.zero_add] at h; exact absurd h hjk
          · rw [Nat.zero_add] at h
            unfold bitOf at h
            split at h
            · rename_i u hu
              rw [nth_eq] at hu
              exact absurd (hus _ _ hu _ h) hna
            · cases h
          · rw [Nat.zero_add] at h; exact h
        refine wpAnyP_first hok hkl _ listed s t hcl (fun j oj hj hjk hjun hna => ?_) (fun hna s s1 hs hl => ?_) hr ht ?_
        · have hjlt : j < ops.size := (Array.getElem?_eq_some_iff.1 hj).1
          refine (other j oj hj hjk (fun hd => ?_) hna).1
          have := (hli j hjlt).2 hd
          rw [unl hjun] at this
          cases this
        · obtain ⟨h1, h2⟩ := other leaf ol hleaf0 (Ne.symm hkl) hnl hna
          exact hlf k ok hok h1 (h2.resolve_left fun h => h rfl) s s1 hs hl
        · refine wpAnyP_order hleaf0 hus hlf order (k :: done) _ t s1 (by simp [hsz]) (fun j hj => by
            rcases List.mem_cons.1 hj with rfl | hj
            · exact hlt
            · exact hds j hj) (fun h => by
            rcases List.mem_cons.1 h with h | h
            · exact hkl h.symm
            · exact hnl h) (fun j hj => ?_) (hcl.set hr) hB' hh hf
          by_cases hjk : k = j
          · subst hjk
            have hks : k < listed.size := by omega
            simp [hks]
          · rw [getD_set_ne false hjk, hli j hj]
            simp [Ne.symm hjk]
      · cases hh
    · cases hmid
/-! ### the operation that panics -/
theorem panD_congr {o : Oper} {fr fr' : List AV} (hf : ∀ t ∈ o.looksAt ops, nth fr t = nth fr' t) : panD E call ops.toList o fr h = panD E call ops.toList o fr' h := by
  have he := evA_congr (fr := fr) (fr' := fr') (op := o.op) fun t ht => hf t (mem_looksAt ht)
  unfold panD
  rw [wantedA_congr hf]
  generalize o.op = op at he
  cases op with
  | panic x => simp only [he x (by simp [Op.operands])]
  | call c =>
    obtain ⟨callee, ⟨args⟩, argTypes⟩ := c
    have ha : ∀ y ∈ args, evA fr y = evA fr' y := fun y hy => he y (by simp only [Op.operands, Call.operands, Array.mem_append]; exact .inr (by simpa using hy))
    cases callee with
    | value f =>
      have hf : evA fr f = evA fr' f := he f (by simp [Op.operands, Call.operands])
      simp only [hf, map_eq_of ha]
    | _ => rfl
  | _ => rfl
theorem hvA_get : ∀ (l : List Oper) (fr : List AV) (t : Nat), (hvA l fr)[t]? = if (∃ o ∈ l, o.dst = some t) then (if t < fr.length then some .any else none) else fr[t]?
  | [], fr, t => by simp [hvA]
  | o :: l, fr, t => by
    simp only [hvA]
    rw [hvA_get l]
    have hlen : (putA fr o.dst .any).length = fr.length := by cases o.dst <;> simp [putA, setNth_eq]
    rw [hlen]
    by_cases h1 : ∃ o ∈ l, o.dst = some t
    · obtain ⟨o', h2, h3⟩ := h1
      rw [if_pos ⟨o', h2, h3⟩, if_pos (show ∃ o'' ∈ o :: l, o''.dst = some t from ⟨o', List.mem_cons_of_mem _ h2, h3⟩)]
    · rw [if_neg h1]
      by_cases h2 : o.dst = some t
      · rw [if_pos ⟨o, by simp, h2⟩, h2]
        simp only [putA, setNth_eq, List.getElem?_set, if_true]
      · rw [if_neg]
        · cases hd : o.dst with
          | none => rfl
          | some d =>
            have hne : d ≠ t := fun e => h2 (by rw [hd, e])
            simp only [putA, setNth_eq, List.getElem?_set_ne hne]
        · rintro ⟨o', h3, h4⟩
          rcases List.mem_cons.1 h3 with rfl | h3
          · exact h2 h4
          · exact h1 ⟨o', h3, h4⟩
theorem hvA_put {l : List Oper} {o : Oper} (ho : o ∈ l) (fr : List AV) (v : AV) : hvA l (putA fr o.dst v) = hvA l fr := by
  apply List.ext_getElem?
  intro t
  rw [hvA_get, hvA_get]
  have hlen : (putA fr o.dst v).length = fr.length := by cases o.dst <;> simp [putA, setNth_eq]
  rw [hlen]
  by_cases h1 : ∃ o ∈ l, o.dst = some t
  · rw [if_pos h1, if_pos h1]
  · rw [if_neg h1, if_neg h1]
    have h2 : o.dst ≠ some t := fun h => h1 ⟨o, ho, h⟩
    have := nth_putA (fr := fr) (v := v) h2
    rwa [nth_eq, nth_eq] at this
theorem hvA_lexI : ∀ (order : List Nat) (s s1 : DS), lexI E call ops.toList order s = some s1 → hvA ops.toList s1.fr = hvA ops.toList s.fr
  | [], s, s1, h => by
    simp only [lexI, Option.some.injEq] at h
    rw [h]
  | k :: l, s, s1, h => by
    simp only [lexI] at h
    split at h
    · rename_i o ho
      split at h
      · rename_i t ht
        rw [hvA_lexI l t s1 h]
        obtain ⟨_, v, p, h1, _, rfl⟩ := stepD_some ht
        exact hvA_put (List.mem_of_getElem? (by rw [← nth_eq]; exact ho)) _ _
      · cases h
    · cases h
/-- What the leaf finds. -/
def LfD (E : Env) (call : FuncId → List AV → AH → CRes) (ops : Array Oper) (o : Oper) (v : AV) (h1 : AH) (F : List AV) (s : DS) : Prop := panD E call ops.toList o s.fr s.h = some (v, h1) ∧ hvA ops.toList s.fr = F
theorem panicD_spec {fr F : List AV} {h h1 : AH} {v : AV} (hh : panicD E call ops fr h = some (v, F, h1)) :
    ∃ (leaf : Nat) (o : Oper) (n : Nat), n < ops.size ∧ ops[leaf]? = some o ∧ wpAnyP E call .any ops leaf (LfD E call ops o v h1 F) (n + 1) (Array.replicate ops.size false) ⟨fr, fr.map fun _ => .any, h⟩ := by
  unfold panicD at hh
  split at hh
  · cases hh
  · rename_i i _
    split at hh
    · cases hh
    · rename_i o ho
      rw [nth_eq, Array.getElem?_toList] at ho
      split at hh
      · cases hh
      · rename_i s1 hs1
        split at hh
        · cases hh
        · rename_i hB
          simp only [Bool.and_eq_true, Nat.blt_eq] at hB
          obtain ⟨hB0, hB⟩ := hB
          split at hh
          · rename_i v' h' hp
            simp only [Option.some.injEq, Prod.mk.injEq] at hh
            obtain ⟨rfl, rfl, rfl⟩ := hh
            refine ⟨i, o, _, by simpa using hB0, ho, wpAnyP_order ho (upsOf_spec (ops := ops) ops.toList [] (by simp) (by simp)) (fun k ok hk ha hw s t hst hl => ?_) _ [] _ _ s1 (by simp) (by simp) (by simp) (fun j hj => by simp [hj]) (fun j o _ hl => by
              exfalso
              rcases Nat.lt_or_ge j ops.size with h | h
              · simp [h] at hl
              · simp [h] at hl) hB hs1 ⟨hp, hvA_lexI _ _ _ hs1⟩⟩
            obtain ⟨_, v2, p2, h2, hc, rfl⟩ := stepD_some hst
            have := coreD_quiet hw hc
            subst this
            obtain ⟨hl1, hl2⟩ := hl
            simp only [apart2, Bool.and_eq_true] at ha
            obtain ⟨k1, k2, k3⟩ := Oper.apart_spec ha.1.1
            refine ⟨?_, ?_⟩
            · rw [← hl1]
              exact (panD_congr fun t ht => nth_putA fun e => k1 t e ht).symm
            · rw [← hl2]
              exact (hvA_put (List.mem_of_getElem? (by rw [Array.getElem?_toList]; exact hk)) _ _).symm
          · cases hh
end
end Go.Ev

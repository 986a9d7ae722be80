/-
The abstract evaluator: deferred closures that may recover; functions; the evaluator is sound.
-/
import Derived.Test.YtpolhfiikbmplaaGreatDoorEv14
namespace Go.Ev
/-- The mode of the frame below. -/
inductive RecR (x : X) : Rec → FrameMode → Prop
  | ret : RecR x .ret .returning
  | pan {v : AV} {u : Value} (rec : Bool) : x.V v u → RecR x (.pan v rec) (.panicking [{ v := u, recovered := rec }])
theorem RecR.ext {x x' : X} (h : Ext x x') {u : Rec} {m : FrameMode} (r : RecR x u m) : RecR x' u m := by
  cases r with
  | ret => exact .ret
  | pan rec hv => exact .pan rec (h.V hv)
def GoodS (x : X) (c₀ : Frame) (cs₀ : List Frame) (s : St) (a : Act) (cs : List Frame) (w' : World) : Prop :=
  ∃ ρ' m, cs = { c₀ with mode := m } :: cs₀ ∧ Good x s a w' ρ' ∧ RecR ⟨w', s.h, ρ', x.out⟩ s.u m
def XPS (x : X) (c₀ : Frame) (cs₀ : List Frame) (r : XR) (e : Exit) (a : Act) (cs : List Frame) (w' : World) : Prop := match r with
  | .norm s => e = .normal ∧ GoodS x c₀ cs₀ s a cs w'
  | .exit id s => e = .exit id ∧ GoodS x c₀ cs₀ s a cs w'
  | .ret s => e = .ret ∧ GoodS x c₀ cs₀ s a cs w'
  | .pan _ _ => True
  | .fail => False
theorem GoodS.pre {x y : X} (h : Ext x y) {c₀ : Frame} {cs₀ : List Frame} {s : St} {a : Act} {cs : List Frame} {w' : World} (g : GoodS y c₀ cs₀ s a cs w') : GoodS x c₀ cs₀ s a cs w' := by
  have ho : y.out = x.out := h.out
  obtain ⟨ρ', m, h1, h2, h3⟩ := g
  rw [ho] at h3
  exact ⟨ρ', m, h1, h2.pre h, h3⟩
theorem XPS.pre {x y : X} (h : Ext x y) {c₀ : Frame} {cs₀ : List Frame} {r : XR} {e : Exit} {a : Act} {cs : List Frame} {w' : World} (g : XPS y c₀ cs₀ r e a cs w') : XPS x c₀ cs₀ r e a cs w' := by
  cases r with
  | norm s => exact ⟨g.1, g.2.pre h⟩
  | exit id s => exact ⟨g.1, g.2.pre h⟩
  | ret s => exact ⟨g.1, g.2.pre h⟩
  | pan v s => trivial
  | fail => exact g
section
variable {P : Program} {E : Env} {call : FuncId → List AV → AH → CRes}
/-- A panic does not go through such a piece of code. -/
def XR.calm : XR → Bool
  | .pan _ _ => false
  | .fail => false
  | _ => true
theorem aOpsS_ok (hE : EnvOk P E) (hc : CallSound P call) {ops : Array Oper} (c₀ : Frame) (cs₀ : List Frame) : ∀ (rest : List Oper) (k : Nat) (s : St) (x : X) (a : Act) (cs : List Frame) (m : FrameMode) (r : XR) (Q : Exit → Act → List Frame → World → Prop), (∀ j, rest[j]? = ops[k + j]?) →
    WR x → x.h = s.h → x.Vs s.fr a.tmps.toList → DR x s.ds a.defers → RecR x s.u m → cs = { c₀ with mode := m } :: cs₀ →
    aOps E call ops.toList rest s = r → r.calm = true → (∀ e a' cs' w', XPS x c₀ cs₀ r e a' cs' w' → Q e a' cs' w') → wpOpsS P ops Q (List.range' k rest.length) a cs x.w
  | [], k, s, x, a, cs, m, r, Q, hl, hx, hh, hV, hD, hu, hcs, h, hr, hQ => by
    simp only [aOps] at h
    subst h
    exact hQ _ _ _ _ ⟨rfl, x.ρ, m, hcs, ⟨by rw [← hh]; exact hx, by rw [← hh]; exact Ext.refl x, by rw [← hh]; exact hV, by rw [← hh]; exact hD⟩, by rw [← hh]; exact hu⟩
  | o :: rest, k, s, x, a, cs, m, r, Q, hl, hx, hh, hV, hD, hu, hcs, h, hr, hQ => by
    obtain ⟨fr, hp, dfs, us⟩ := s
    simp only at hh hV hD hu
    subst hh
    have h0 : ops[k]? = some o := by simpa using (hl 0).symm
    have hl' : ∀ j, rest[j]? = ops[k + 1 + j]? := fun j => by have := hl (j + 1); simpa [Nat.add_assoc, Nat.add_comm 1 j] using this
    simp only [aOps] at h
    simp only [List.length_cons, List.range'_succ, wpOpsS, h0]
    split at h
    · subst h; simp [XR.calm] at hr
    · rename_i hw
      rw [wantedA_ok hV hw]
      simp only [Bool.false_eq_true, if_false]
      exact aOpsS_ok hE hc c₀ cs₀ rest (k + 1) _ x (a.put o.dst undef) cs m r Q hl' hx rfl (hV.put o.dst (.tup [] [] .nil)) (by rw [put_defers]; exact hD) hu hcs h hr hQ
    · rename_i hw
      rw [wantedA_ok hV hw]
      simp only [if_true]
      have hop := aop_ok (P := P) hE.ty hx (fun y => evA_ok hx.gl hV y) o
      have step : ∀ (x' : X) (a' : Act) (s' : St) (cs' : List Frame) (m' : FrameMode), Ext x x' → WR x' → x'.h = s'.h → x'.Vs s'.fr a'.tmps.toList → DR x' s'.ds a'.defers → RecR x' s'.u m' → cs' = { c₀ with mode := m' } :: cs₀ → aOps E call ops.toList rest s' = r → wpOpsS P ops Q (List.range' (k + 1) rest.length) a' cs' x'.w :=
        fun x' a' s' cs' m' e1 e2 e3 e4 e5 e6 e7 e8 => aOpsS_ok hE hc c₀ cs₀ rest (k + 1) s' x' a' cs' m' r Q hl' e2 e3 e4 e5 e6 e7 e8 hr fun e a'' cs'' w'' hp => hQ e a'' cs'' w'' (hp.pre e1)
      split at h
      · rename_i v h' heq
        rw [heq] at hop
        obtain ⟨u, w', ρ', e1, e2, e3, e4⟩ := hop
        rw [e1]
        exact step ⟨w', h', ρ', x.out⟩ _ ⟨_, _, _, _⟩ cs m e3 e2 rfl ((e3.Vs hV).put o.dst e4) (by rw [put_defers]; exact hD.ext e3) (hu.ext e3) hcs h
      · rename_i h' heq
        rw [heq] at hop
        obtain ⟨w', ρ', e1, e2, e3⟩ := hop
        rw [e1]
        exact step ⟨w', h', ρ', x.out⟩ _ ⟨_, _, _, _⟩ cs m e3 e2 rfl ((e3.Vs hV).put o.dst (.tup [] [] .nil)) (by rw [put_defers]; exact hD.ext e3) (hu.ext e3) hcs h
      · subst h; simp [XR.calm] at hr
      · rename_i f args heq
        rw [heq] at hop
        obtain ⟨vs, e1, e2⟩ := hop
        cases hcr : callA E call f args x.h with
        | fail => rw [hcr] at h; subst h; simp [XR.calm] at hr
        | ret v h' =>
          rw [hcr] at h
          obtain ⟨q1, q2⟩ := callA_ok hc hE.orc f args x vs _ hx e2 hcr (by simp)
          rw [e1, q1.run]
          refine Calls.mono q2 fun e w' hp => ?_
          obtain ⟨u, ρ', rfl, p2, p3, p4⟩ := hp
          exact step ⟨w', h', ρ', x.out⟩ _ ⟨_, _, _, _⟩ cs m p3 p2 rfl ((p3.Vs hV).put o.dst p4) (by rw [put_defers]; exact hD.ext p3) (hu.ext p3) hcs h
        | pan v h' => rw [hcr] at h; subst h; simp [XR.calm] at hr
      · rename_i f args caps heq
        rw [heq] at hop
        obtain ⟨as, cs', e1, e2, e3⟩ := hop
        rw [e1]
        refine step x _ ⟨_, _, _, _⟩ cs m (Ext.refl x) hx rfl ?_ ?_ hu hcs h
        · rw [put_defers']; exact hV.put o.dst (.tup [] [] .nil)
        · rw [put_defers]; exact .cons e2 e3 hD
      · rename_i heq
        rw [heq] at hop
        rw [show (execOp a.eval o).run P x.w = .ok .recover x.w from hop]
        simp only
        subst hcs
        split at h
        · subst h; simp [XR.calm] at hr
        · cases hu
          simp only [recoverD]
          exact step x _ ⟨_, _, _, _⟩ _ _ (Ext.refl x) hx rfl (hV.put o.dst .nili) (by rw [put_defers]; exact hD) .ret rfl h
        · cases hu with
          | pan _ hv =>
            simp only [recoverD]
            exact step x _ ⟨_, _, _, _⟩ _ _ (Ext.refl x) hx rfl (hV.put o.dst hv) (by rw [put_defers]; exact hD) (.pan true hv) rfl h
        · cases hu with
          | pan _ hv =>
            simp only [recoverD]
            exact step x _ ⟨_, _, _, _⟩ _ _ (Ext.refl x) hx rfl (hV.put o.dst .nili) (by rw [put_defers]; exact hD) (.pan true hv) rfl h
      · subst h; simp [XR.calm] at hr
section rules
variable {Q : Exit → Act → List Frame → World → Prop} {a : Act} {cs : List Frame} {w : World}
def inBlockS (id : Nat) (Q : Exit → Act → List Frame → World → Prop) : Exit → Act → List Frame → World → Prop
  | .exit id', a, cs, w => if id' = id then Q .normal a cs w else Q (.exit id') a cs w
  | e, a, cs, w => Q e a cs w
theorem wpS_block {id : Nat} {c : Code} (h : c.wpS P (inBlockS id Q) a cs w) : (Code.block id c).wpS P Q a cs w := by
  intro b k hb hr
  obtain ⟨e, a₁, cs₁, w₁, hq, harr⟩ := h b (.inBlock id :: k) hb hr
  cases e with
  | normal => exact ⟨.normal, a₁, cs₁, w₁, hq, .head step_block (Steps.trans harr (.one step_inBlock))⟩
  | exit id' =>
    by_cases hid : id' = id
    · simp only [inBlockS, hid, if_true] at hq
      exact ⟨.normal, a₁, cs₁, w₁, hq, .head step_block (harr k (by simp [exitTo, hid]))⟩
    · simp only [inBlockS, hid, if_false] at hq
      refine ⟨.exit id', a₁, cs₁, w₁, hq, fun k' hk => .head step_block (harr k' ?_)⟩
      have : (id == id') = false := by simp; exact fun h => hid h.symm
      simp [exitTo, this, hk]
  | goto l => exact ⟨_, a₁, cs₁, w₁, hq, fun k' hk => .head step_block (harr k' (by simp [gotoIn, hk]))⟩
  | ret => exact ⟨_, a₁, cs₁, w₁, hq, .of_steps (.one step_block) harr⟩
  | panic ch => exact ⟨_, a₁, cs₁, w₁, hq, .of_steps (.one step_block) harr⟩
  | outgrown => exact ⟨_, a₁, cs₁, w₁, hq, .of_steps (b := b) (k := k) (cs := cs₁) (e := .outgrown) (.one step_block) harr⟩
theorem wpS_mono {c : Code} {Q' : Exit → Act → List Frame → World → Prop} (h : c.wpS P Q a cs w) (hq : ∀ e a cs w, Q e a cs w → Q' e a cs w) : c.wpS P Q' a cs w :=
  fun b k hb hr => let ⟨e, a', cs', w', q, r⟩ := h b k hb hr; ⟨e, a', cs', w', hq _ _ _ _ q, r⟩
end rules
def CodeSoundS (P : Program) (c : Code) (f : St → XR) : Prop :=
  ∀ (c₀ : Frame) (cs₀ : List Frame) (s : St) (x : X) (a : Act) (m : FrameMode) (r : XR), WR x → x.h = s.h → x.Vs s.fr a.tmps.toList → DR x s.ds a.defers → RecR x s.u m → f s = r → r.calm = true → c.wpS P (XPS x c₀ cs₀ r) a ({ c₀ with mode := m } :: cs₀) x.w
theorem aCodeS_ok (hE : EnvOk P E) (hc : CallSound P call) (fuel : Nat) : ∀ (c : Code), codeOk E c = true → noLoop c = true → CodeSoundS P c (aCode E call fuel c) := by
  intro c
  have leaf : ∀ {c₀ : Frame} {cs₀ : List Frame} {s : St} {x : X} {a : Act} {m : FrameMode}, WR x → x.h = s.h → x.Vs s.fr a.tmps.toList → DR x s.ds a.defers → RecR x s.u m → GoodS x c₀ cs₀ s a ({ c₀ with mode := m } :: cs₀) x.w := by
    intro c₀ cs₀ s x a m hx hh hV hD hu
    exact ⟨x.ρ, m, rfl, ⟨by rw [← hh]; exact hx, by rw [← hh]; exact Ext.refl x, by rw [← hh]; exact hV, by rw [← hh]; exact hD⟩, by rw [← hh]; exact hu⟩
  induction c with
  | skip =>
    intro _ _ c₀ cs₀ s x a m r hx hh hV hD hu h hr
    simp only [aCode] at h
    subst h
    exact wpS_of_wp (wp_skip ⟨rfl, leaf hx hh hV hD hu⟩)
  | label l =>
    intro _ _ c₀ cs₀ s x a m r hx hh hV hD hu h hr
    simp only [aCode] at h
    subst h
    exact wpS_of_wp (wp_label ⟨rfl, leaf hx hh hV hD hu⟩)
  | region id ops draw =>
    intro hok _ c₀ cs₀ s x a m r hx hh hV hD hu h hr
    cases draw with
    | false =>
      simp only [aCode] at h
      refine wpS_region ?_
      rw [List.range_eq_range', ← Array.length_toList]
      exact aOpsS_ok hE hc c₀ cs₀ ops.toList 0 s x a _ m r _ (by simp) hx hh hV hD hu rfl h hr fun _ _ _ _ h => h
    | true =>
      simp only [aCode] at h
      simp only [codeOk] at hok
      split at h
      · subst h; simp [XR.calm] at hr
      · rename_i hsus
        simp only [hsus, Bool.false_or] at hok
        split at h
        · rename_i fr h1 hfr
          subst h
          rw [← hh] at hfr
          refine wpS_of_wp (draw_ok hE.ty hc hE.orc hE.mixed hx hok hV hfr fun w' ρ' a' q1 q2 q3 q4 => ⟨rfl, ρ', m, rfl, ⟨q1, q2, q3, ?_⟩, hu.ext q2⟩)
          rw [q4]
          exact hD.ext q2
        · split at h
          · subst h; simp [XR.calm] at hr
          · subst h; simp [XR.calm] at hr
  | seq c1 c2 ih1 ih2 =>
    intro hok hnl c₀ cs₀ s x a m r hx hh hV hD hu h hr
    simp only [codeOk, Bool.and_eq_true] at hok
    simp only [noLoop, Bool.and_eq_true] at hnl
    simp only [aCode] at h
    refine wpS_seq ?_
    split at h
    · rename_i s1 hs
      refine wpS_mono (ih1 hok.1 hnl.1 c₀ cs₀ s x a m _ hx hh hV hD hu hs rfl) fun e a' cs' w' hp => ?_
      obtain ⟨rfl, ρ', m', rfl, ⟨g1, g2, g3, g4⟩, g5⟩ := hp
      exact wpS_mono (ih2 hok.2 hnl.2 c₀ cs₀ s1 ⟨w', s1.h, ρ', x.out⟩ a' m' r g1 rfl g3 g4 g5 h hr) fun e a'' cs'' w'' hp => hp.pre g2
    · rename_i hn
      refine wpS_mono (ih1 hok.1 hnl.1 c₀ cs₀ s x a m _ hx hh hV hD hu h hr) fun e a' cs' w' hp => ?_
      cases r with
      | norm s1 => exact absurd h (hn s1)
      | exit id s1 => obtain ⟨rfl, hp⟩ := hp; exact ⟨rfl, hp⟩
      | ret s1 => obtain ⟨rfl, hp⟩ := hp; exact ⟨rfl, hp⟩
      | pan v s1 => simp [XR.calm] at hr
      | fail => simp [XR.calm] at hr
  | cond y c1 c2 ih1 ih2 =>
    intro hok hnl c₀ cs₀ s x a m r hx hh hV hD hu h hr
    simp only [codeOk, Bool.and_eq_true] at hok
    simp only [noLoop, Bool.and_eq_true] at hnl
    simp only [aCode] at h
    have hy := evA_ok hx.gl hV y
    split at h
    · rename_i e
      rw [e] at hy
      generalize hq : a.eval y = u at hy
      cases hy
      exact wpS_cond hq (by simp only [if_true]; exact ih1 hok.1 hnl.1 c₀ cs₀ s x a m r hx hh hV hD hu h hr)
    · rename_i e
      rw [e] at hy
      generalize hq : a.eval y = u at hy
      cases hy
      exact wpS_cond hq (by simp only [Bool.false_eq_true, if_false]; exact ih2 hok.2 hnl.2 c₀ cs₀ s x a m r hx hh hV hD hu h hr)
    · subst h; simp [XR.calm] at hr
  | block id c ih =>
    intro hok hnl c₀ cs₀ s x a m r hx hh hV hD hu h hr
    simp only [codeOk] at hok
    simp only [noLoop] at hnl
    simp only [aCode] at h
    refine wpS_block ?_
    split at h
    · rename_i id' s1 hs
      refine wpS_mono (ih hok hnl c₀ cs₀ s x a m _ hx hh hV hD hu hs rfl) fun e a' cs' w' hp => ?_
      obtain ⟨rfl, hp⟩ := hp
      split at h
      · rename_i hb
        have hid : id' = id := Nat.eq_of_beq_eq_true hb
        subst h
        simp only [inBlockS, hid, if_true]
        exact ⟨rfl, hp⟩
      · rename_i hb
        have hid : ¬ id' = id := Nat.ne_of_beq_eq_false hb
        subst h
        simp only [inBlockS, hid, if_false]
        exact ⟨rfl, hp⟩
    · rename_i hn
      refine wpS_mono (ih hok hnl c₀ cs₀ s x a m _ hx hh hV hD hu h hr) fun e a' cs' w' hp => ?_
      cases r with
      | norm s1 => obtain ⟨rfl, hp⟩ := hp; exact ⟨rfl, hp⟩
      | exit id s1 => exact absurd h (hn id s1)
      | ret s1 => obtain ⟨rfl, hp⟩ := hp; exact ⟨rfl, hp⟩
      | pan v s1 => simp [XR.calm] at hr
      | fail => simp [XR.calm] at hr
  | loop c ih => intro _ hnl; simp [noLoop] at hnl
  | exit id =>
    intro _ _ c₀ cs₀ s x a m r hx hh hV hD hu h hr
    simp only [aCode] at h
    subst h
    exact wpS_of_wp (wp_exit ⟨rfl, leaf hx hh hV hD hu⟩)
  | ret =>
    intro _ _ c₀ cs₀ s x a m r hx hh hV hD hu h hr
    simp only [aCode] at h
    subst h
    exact wpS_of_wp (wp_ret ⟨rfl, leaf hx hh hV hD hu⟩)
  | rangeFunc => intro _ _ c₀ cs₀ s x a m r hx hh hV hD hu h hr; simp only [aCode] at h; subst h; simp [XR.calm] at hr
  | scope => intro _ _ c₀ cs₀ s x a m r hx hh hV hD hu h hr; simp only [aCode] at h; subst h; simp [XR.calm] at hr
  | goto => intro _ _ c₀ cs₀ s x a m r hx hh hV hD hu h hr; simp only [aCode] at h; subst h; simp [XR.calm] at hr
  | refuse => intro _ _ c₀ cs₀ s x a m r hx hh hV hD hu h hr; simp only [aCode] at h; subst h; simp [XR.calm] at hr

/-! ### results, the door, functions -/
def resVar (tmps : Array Value) : ResultVar → Sem Value
  | .tmp t => pure (tmps.getD t undef)
  | .cell a t => do loadVar t (← asAddr (tmps.getD a undef))
theorem results_eq (fn : Func) (tmps : Array Value) : results fn tmps = (do
    let vs ← fn.results.mapM (resVar tmps)
    pure (if h : vs.size = 1 then vs[0] else .tuple vs)) := rfl
theorem aResults_ok (hE : EnvOk P E) {x : X} (hx : WR x) {fr : List AV} {tmps : Array Value} (hV : x.Vs fr tmps.toList) : ∀ {rs : List ResultVar} {vs : List AV}, aResults E fr x.h rs = some vs →
    ∃ us, (rs.mapM (resVar tmps)).run P x.w = .ok us x.w ∧ x.Vs vs us := by
  intro rs
  induction rs with
  | nil =>
    intro vs h
    simp only [aResults, Option.some.injEq] at h
    subst h
    exact ⟨[], by simp, .nil⟩
  | cons r rs ih =>
    intro vs h
    simp only [aResults] at h
    split at h
    · rename_i v hv
      split at h
      · rename_i vs' hvs
        simp only [Option.some.injEq] at h
        subst h
        obtain ⟨us, h1, h2⟩ := ih hvs
        have hev := fun y => evA_ok (a := ⟨tmps, []⟩) hx.gl hV y
        cases r with
        | tmp t =>
          simp only [Option.some.injEq] at hv
          subst hv
          refine ⟨tmps.getD t undef :: us, ?_, .cons (hev (.tmp t)) h2⟩
          rw [List.mapM_cons]
          simp only [resVar, Sem.run_bind, Sem.run_pure, Result.andThen_ok, h1]
        | cell y t =>
          simp only at hv
          have hy := hev (.tmp y)
          simp only [aopR] at hv
          split at hv
          · rename_i i hi
            obtain ⟨u, q1, q2⟩ := load_ok (P := P) hE.ty hx hi hy hv
            refine ⟨u :: us, ?_, .cons q2 h2⟩
            rw [List.mapM_cons]
            have : (asAddr (tmps.getD y undef) >>= fun p => loadVar t p).run P x.w = .ok u x.w := by
              rw [← q1]
              unfold Instr.loadAt
              simp only [Act.eval, Sem.run_bind] at q1 ⊢
              generalize tmps.getD y undef = z at q1 ⊢
              cases z with
              | pointer p => cases p with
                | none => simp only [Instr.loadAt, Instr.sureAddr, Sem.run_bind] at q1; cases q1
                | some p => rfl
              | _ => simp only [Instr.loadAt, Instr.sureAddr, Sem.run_bind] at q1; cases q1
            simp only [Sem.run_bind] at this
            simp only [resVar, Sem.run_bind, this, Result.andThen_ok, h1, Sem.run_pure]
          · cases hv
      · cases h
    · cases h
theorem results_ok (hE : EnvOk P E) {x : X} (hx : WR x) {fr : List AV} {tmps : Array Value} (hV : x.Vs fr tmps.toList) {fn : Func} {vs : List AV} (h : aResults E fr x.h fn.results.toList = some vs) : ∃ u, (results fn tmps).run P x.w = .ok u x.w ∧ x.V (tupA vs) u := by
  obtain ⟨us, h1, h2⟩ := aResults_ok hE hx hV h
  rw [results_eq, Array.mapM_eq_mapM_toList]
  simp only [Sem.run_bind, Sem.run_map, h1, Result.andThen_ok]
  cases h2 with
  | nil => exact ⟨.tuple #[], rfl, .tup [] [] .nil⟩
  | cons p1 p2 => cases p2 with
    | nil => exact ⟨_, rfl, p1⟩
    | cons p3 p4 =>
      refine ⟨_, ?_, .tup _ _ (.cons p1 (.cons p3 p4))⟩
      rw [dif_neg (by simp)]
      rfl
theorem init_fr {x : X} {args : List AV} {vs : List Value} (hV : x.Vs args vs) (n : Nat) : x.Vs (args ++ List.replicate (n - args.length) (.tup [])) (vs.toArray ++ Array.replicate (n - vs.toArray.size) undef).toList := by
  simp only [Array.toList_append, List.size_toArray, Array.toList_replicate, ← hV.length]
  exact hV.app (.replicate (.tup [] [] .nil) _)
theorem leave_ok (hE : EnvOk P E) (hc : CallSound P call) (fuel : Nat) {fn : Func} {fr : List AV} {tmps : Array Value} {x0 : X} : ∀ (ds : List Dfr) (dds : List Deferred) (u : Rec) (m : FrameMode) (x : X) (r : CRes), WR x → Ext x0 x → x.Vs fr tmps.toList → DR x ds dds → RecR x u m → (∀ v, u ≠ .pan v true) →
    aLeave E call fuel fn fr ds u x.h = r → r ≠ .fail → Leaves P fn tmps (Post x0 r) dds m x.w
  | [], dds, u, m, x, r, hx, he, hV, hD, hu, hnr, h, hr => by
    have ho : x.out = x0.out := he.out
    cases hD
    cases hu with
    | ret =>
      simp only [aLeave] at h
      split at h
      · rename_i vs hvs
        subst h
        obtain ⟨u, h1, h2⟩ := results_ok hE hx hV hvs
        refine ⟨u, h1, u, x.ρ, rfl, ?_⟩
        rw [← ho]
        exact ⟨hx, he, h2⟩
      · exact absurd h.symm hr
    | pan rec hv =>
      cases rec with
      | true => exact absurd rfl (hnr _)
      | false =>
        simp only [aLeave] at h
        subst h
        refine ⟨_, x.ρ, rfl, ?_⟩
        rw [← ho]
        exact ⟨hx, he, hv⟩
  | d :: ds, dds, u, m, x, r, hx, he, hV, hD, hu, hnr, h, hr => by
    cases hD with
    | cons ha hcp hrest =>
      rename_i f args caps as cs l'
      simp only [aLeave] at h
      split at h
      · exact absurd h.symm hr
      · rename_i g hg
        obtain ⟨g1, g2, g3⟩ := hE.fn _ _ hg
        split at h
        · rename_i c hbody hres
          have hok := g3 c hbody
          split at h
          · exact absurd h.symm hr
          · rename_i hnl
            have hm : m ≠ .run := by cases hu <;> simp
            have hfn : FnOk P f := ⟨g, g1, g2, by rw [hbody]; rfl⟩
            have hinv : (invoke (.fn (.func f) cs.toArray) as.toArray).run P x.w = .ok (.enter f (as ++ cs).toArray) x.w := by
              have : as.toArray ++ cs.toArray = (as ++ cs).toArray := by simp
              simp only [invoke, this]
              exact hfn.run _ _
            refine leaves_cons hm hinv ?_
            have hres0 : g.results = #[] := by
              apply Array.ext'
              simpa using hres
            -- the closure's walk
            have hcode : ∀ rr, aBody E call fuel g c (args ++ caps) x.h u = rr → rr.calm = true → ∀ (R : Ending → FrameMode → World → Prop), (∀ e a' cs' w' c₀ cs₀, XPS x c₀ cs₀ rr e a' cs' w' → bodyPostS P g c₀ cs₀ R e a' cs' w') → CallsD P f (as ++ cs).toArray m x.w R := by
              intro rr hrr hcalm R hR
              refine callsD_of_wpS g1 hbody fun c₀ cs₀ hm0 => ?_
              have := aCodeS_ok hE hc fuel c hok hnl c₀ cs₀ _ x ⟨(as ++ cs).toArray ++ Array.replicate (g.ntmps - (as ++ cs).toArray.size) undef, []⟩ m rr hx rfl (init_fr (ha.app hcp) g.ntmps) .nil hu hrr hcalm
              have hc0 : ({ c₀ with mode := m } : Frame) = c₀ := by subst hm0; rfl
              rw [hc0] at this
              exact wpS_mono this fun e a' cs' w' hp => hR e a' cs' w' c₀ cs₀ hp
            have cont : ∀ (s : St) (a' : Act) (cs' : List Frame) (w' : World) (c₀ : Frame) (cs₀ : List Frame), s.ds = [] → GoodS x c₀ cs₀ s a' cs' w' → aLeave E call fuel fn fr ds (match s.u with | .pan _ true => .ret | u => u) s.h = r →
                a'.defers = [] ∧ ∃ u', cs' = { c₀ with mode := u' } :: cs₀ ∧ Leaves P fn tmps (Post x0 r) l' (settle u') w' := by
              intro s a' cs' w' c₀ cs₀ hds hg hl
              obtain ⟨ρ', m', hcs, ⟨q1, q2, q3, q4⟩, q5⟩ := hg
              rw [hds] at q4
              have hdef : a'.defers = [] := by cases hq : a'.defers with
                | nil => rfl
                | cons => rw [hq] at q4; cases q4
              refine ⟨hdef, m', hcs, ?_⟩
              have hV' := q2.Vs hV
              have hD' := hrest.ext q2
              have he' := he.trans q2
              cases hsu : s.u with
              | off => rw [hsu] at q5; cases q5
              | ret =>
                rw [hsu] at q5 hl
                cases q5
                exact leave_ok hE hc fuel ds l' .ret .returning ⟨w', s.h, ρ', x.out⟩ r q1 he' hV' hD' .ret (fun v h => by cases h) hl hr
              | pan v rec =>
                rw [hsu] at q5 hl
                cases q5 with
                | pan _ hv =>
                  cases rec with
                  | true => exact leave_ok hE hc fuel ds l' .ret .returning ⟨w', s.h, ρ', x.out⟩ r q1 he' hV' hD' .ret (fun v h => by cases h) hl hr
                  | false => exact leave_ok hE hc fuel ds l' (.pan v false) _ ⟨w', s.h, ρ', x.out⟩ r q1 he' hV' hD' (.pan false hv) (fun v h => by cases h) hl hr
            split at h
            · rename_i fr1 h1 u1 hb
              refine hcode _ hb rfl _ fun e a' cs' w' c₀ cs₀ hp => ?_
              obtain ⟨rfl, hg⟩ := hp
              obtain ⟨k1, u', k2, k3⟩ := cont _ a' cs' w' c₀ cs₀ rfl hg h
              exact ⟨k1, u', k2, .tuple #[], results_none hres0 _ _ _, k3⟩
            · rename_i fr1 h1 u1 hb
              refine hcode _ hb rfl _ fun e a' cs' w' c₀ cs₀ hp => ?_
              obtain ⟨rfl, hg⟩ := hp
              obtain ⟨k1, u', k2, k3⟩ := cont _ a' cs' w' c₀ cs₀ rfl hg h
              exact ⟨k1, u', k2, .tuple #[], results_none hres0 _ _ _, k3⟩
            · exact absurd h.symm hr
        · exact absurd h.symm hr
theorem aFun_ok (hE : EnvOk P E) (hc : CallSound P call) (fuel : Nat) : CallSound P (aFun E call fuel) := by
  intro f args x vs r hx hV h hr
  unfold aFun at h
  split at h
  · exact absurd h.symm hr
  · rename_i fn hfn
    obtain ⟨g1, g2, g3⟩ := hE.fn f fn hfn
    split at h
    · exact absurd h.symm hr
    · rename_i c hbody
      refine ⟨⟨fn, g1, g2, by rw [hbody]; rfl⟩, ?_⟩
      refine calls_of_wp_defers g1 hbody ?_
      have hcode : ∀ rr, aBody E call fuel fn c args x.h .off = rr → rr ≠ .fail → c.wp P (XP x rr) ⟨vs.toArray ++ Array.replicate (fn.ntmps - vs.toArray.size) undef, []⟩ x.w := fun rr hrr hne =>
        aCode_ok hE hc fuel c (g3 c hbody) _ x _ rr hx rfl (init_fr hV fn.ntmps) .nil rfl hrr hne
      split at h
      · rename_i s hb
        refine wp_mono (hcode _ hb (by simp)) fun e a' w' hp => ?_
        obtain ⟨rfl, _, ρ', q1, q2, q3, q4⟩ := hp
        exact leave_ok hE hc fuel s.ds a'.defers .ret .returning ⟨w', s.h, ρ', x.out⟩ r q1 q2 q3 q4 .ret (fun v h => by cases h) h hr
      · rename_i s hb
        refine wp_mono (hcode _ hb (by simp)) fun e a' w' hp => ?_
        obtain ⟨rfl, _, ρ', q1, q2, q3, q4⟩ := hp
        exact leave_ok hE hc fuel s.ds a'.defers .ret .returning ⟨w', s.h, ρ', x.out⟩ r q1 q2 q3 q4 .ret (fun v h => by cases h) h hr
      · rename_i v s hb
        refine wp_mono (hcode _ hb (by simp)) fun e a' w' hp => ?_
        obtain ⟨_, ρ', u, rfl, ⟨q1, q2, q3, q4⟩, q5⟩ := hp
        exact leave_ok hE hc fuel s.ds a'.defers (.pan v false) _ ⟨w', s.h, ρ', x.out⟩ r q1 q2 q3 q4 (.pan false q5) (fun v h => by cases h) h hr
      · exact absurd h.symm hr
/-- **The evaluator is sound.** -/
theorem evCall_ok (hE : EnvOk P E) : ∀ n, CallSound P (evCall E n)
  | 0 => fun _ _ _ _ _ _ _ h hr => absurd h.symm hr
  | n + 1 => aFun_ok hE (evCall_ok hE n) n
end
end Go.Ev

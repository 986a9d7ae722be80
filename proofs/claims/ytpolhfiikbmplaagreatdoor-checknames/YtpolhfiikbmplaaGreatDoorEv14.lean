/-
The abstract evaluator: code, without deferred calls of its own frame's panic.
-/
import Derived.Test.YtpolhfiikbmplaaGreatDoorEv13
namespace Go.Ev
/-- Every region that draws lets its lexical order stand for all. -/
def codeOk (E : Env) : Code → Bool
  | .region id ops true => E.sus id ops.size || drawB E .any ops
  | .seq a b => codeOk E a && codeOk E b
  | .cond _ a b => codeOk E a && codeOk E b
  | .block _ c => codeOk E c
  | .loop c => codeOk E c
  | _ => true
inductive DR (x : X) : List Dfr → List Deferred → Prop
  | nil : DR x [] []
  | cons {f : FuncId} {args caps : List AV} {as cs : List Value} {l : List Dfr} {l' : List Deferred} : x.Vs args as → x.Vs caps cs → DR x l l' → DR x (⟨f, args, caps⟩ :: l) (⟨.fn (.func f) cs.toArray, as.toArray⟩ :: l')
theorem DR.ext {x x' : X} (h : Ext x x') {l : List Dfr} {l' : List Deferred} (hd : DR x l l') : DR x' l l' := by
  induction hd with
  | nil => exact .nil
  | cons h1 h2 _ ih => exact .cons (h.Vs h1) (h.Vs h2) ih
/-- A state and its frame. -/
structure Good (x : X) (s : St) (a : Act) (w' : World) (ρ' : Nat → Nat) : Prop where
  wr : WR ⟨w', s.h, ρ', x.out⟩
  ext : Ext x ⟨w', s.h, ρ', x.out⟩
  fr : X.Vs ⟨w', s.h, ρ', x.out⟩ s.fr a.tmps.toList
  ds : DR ⟨w', s.h, ρ', x.out⟩ s.ds a.defers
def XP (x : X) (r : XR) (e : Exit) (a : Act) (w' : World) : Prop := match r with
  | .norm s => e = .normal ∧ s.u = .off ∧ ∃ ρ', Good x s a w' ρ'
  | .exit id s => e = .exit id ∧ s.u = .off ∧ ∃ ρ', Good x s a w' ρ'
  | .ret s => e = .ret ∧ s.u = .off ∧ ∃ ρ', Good x s a w' ρ'
  | .pan v s => s.u = .off ∧ ∃ ρ' u, e = .panic [{ v := u, recovered := false }] ∧ Good x s a w' ρ' ∧ X.V ⟨w', s.h, ρ', x.out⟩ v u
  | .fail => False
theorem Good.pre {x y : X} (h : Ext x y) {s : St} {a : Act} {w' : World} {ρ' : Nat → Nat} (g : Good y s a w' ρ') : Good x s a w' ρ' := by
  have ho : y.out = x.out := h.out
  obtain ⟨g1, g2, g3, g4⟩ := g
  rw [ho] at g1 g2 g3 g4
  exact ⟨g1, h.trans g2, g3, g4⟩
theorem XP.pre {x y : X} (h : Ext x y) {r : XR} {e : Exit} {a : Act} {w' : World} (g : XP y r e a w') : XP x r e a w' := by
  have ho : y.out = x.out := h.out
  cases r with
  | norm s => obtain ⟨h1, h2, ρ', h3⟩ := g; exact ⟨h1, h2, ρ', h3.pre h⟩
  | exit id s => obtain ⟨h1, h2, ρ', h3⟩ := g; exact ⟨h1, h2, ρ', h3.pre h⟩
  | ret s => obtain ⟨h1, h2, ρ', h3⟩ := g; exact ⟨h1, h2, ρ', h3.pre h⟩
  | pan v s => obtain ⟨h2, ρ', u, h1, h3, h4⟩ := g; rw [ho] at h4; exact ⟨h2, ρ', u, h1, h3.pre h, h4⟩
  | fail => exact g
structure EnvOk (P : Program) (E : Env) : Prop where
  ty : TysOk P E
  fn : ∀ f fn, E.fn f = some fn → P.funcs[f]? = some fn ∧ (fn.name == "runtime.NumGoroutine") = false ∧ ∀ c, fn.body = some c → codeOk E c = true
  orc : OrcSound P E
  mixed : P.follows .mixedOrders = true
section
variable {P : Program} {E : Env} {call : FuncId → List AV → AH → CRes}
theorem VRs.putA {w : World} {bad : Nat → Prop} {ρ : Nat → Nat} {n : Nat} {fr : List AV} {a : Act} (h : VRs w bad ρ n fr a.tmps.toList) (dst : Option Tmp) {v : AV} {u : Value} (hv : VR w bad ρ n v u) : VRs w bad ρ n (putA fr dst v) (a.put dst u).tmps.toList := h.put dst hv
theorem put_defers (a : Act) (dst : Option Tmp) (v : Value) : (a.put dst v).defers = a.defers := by cases dst <;> rfl
theorem put_defers' (a : Act) (dst : Option Tmp) (v : Value) (ds : List Deferred) : (({ a with defers := ds } : Act).put dst v).tmps = (a.put dst v).tmps := by cases dst <;> rfl
theorem aOps_ok (hE : EnvOk P E) (hc : CallSound P call) {ops : Array Oper} : ∀ (rest : List Oper) (s : St) (x : X) (a : Act) (r : XR) (Q : Exit → Act → World → Prop), WR x → x.h = s.h → x.Vs s.fr a.tmps.toList → DR x s.ds a.defers → s.u = .off →
    aOps E call ops.toList rest s = r → r ≠ .fail → (∀ e a' w', XP x r e a' w' → Q e a' w') → wpList P ops Q rest a x.w
  | [], s, x, a, r, Q, hx, hh, hV, hD, hu, h, hr, hQ => by
    simp only [aOps] at h
    subst h
    exact hQ _ _ _ ⟨rfl, hu, x.ρ, ⟨by rw [← hh]; exact hx, by rw [← hh]; exact Ext.refl x, by rw [← hh]; exact hV, by rw [← hh]; exact hD⟩⟩
  | o :: rest, s, x, a, r, Q, hx, hh, hV, hD, hu, h, hr, hQ => by
    obtain ⟨fr, hp, dfs, us⟩ := s
    simp only at hh hV hD hu
    subst hh
    subst hu
    simp only [aOps] at h
    unfold wpList
    split at h
    · exact absurd h.symm hr
    · rename_i hw
      rw [wantedA_ok hV hw]
      simp only [Bool.false_eq_true, if_false]
      exact aOps_ok hE hc rest _ x (a.put o.dst undef) r Q hx rfl (hV.put o.dst (.tup [] [] .nil)) (by rw [put_defers]; exact hD) rfl h hr hQ
    · rename_i hw
      rw [wantedA_ok hV hw]
      simp only [if_true]
      have hop := aop_ok (P := P) hE.ty hx (fun y => evA_ok hx.gl hV y) o
      have step : ∀ (x' : X) (a' : Act) (s' : St), Ext x x' → WR x' → x'.h = s'.h → x'.Vs s'.fr a'.tmps.toList → DR x' s'.ds a'.defers → s'.u = .off → aOps E call ops.toList rest s' = r → wpList P ops Q rest a' x'.w :=
        fun x' a' s' e1 e2 e3 e4 e5 e6 e7 => aOps_ok hE hc rest s' x' a' r Q e2 e3 e4 e5 e6 e7 hr fun e a'' w'' hp => hQ e a'' w'' (hp.pre e1)
      refine .inl ?_
      unfold Oper.wp
      split at h
      · rename_i v h' heq
        rw [heq] at hop
        obtain ⟨u, w', ρ', e1, e2, e3, e4⟩ := hop
        rw [e1]
        exact step ⟨w', h', ρ', x.out⟩ _ ⟨_, _, _, _⟩ e3 e2 rfl ((e3.Vs hV).put o.dst e4) (by rw [put_defers]; exact hD.ext e3) rfl h
      · rename_i h' heq
        rw [heq] at hop
        obtain ⟨w', ρ', e1, e2, e3⟩ := hop
        rw [e1]
        exact step ⟨w', h', ρ', x.out⟩ _ ⟨_, _, _, _⟩ e3 e2 rfl ((e3.Vs hV).put o.dst (.tup [] [] .nil)) (by rw [put_defers]; exact hD.ext e3) rfl h
      · rename_i v h' heq
        rw [heq] at hop
        obtain ⟨u, e1, e2, e3⟩ := hop
        rw [e2]
        subst h
        subst e1
        exact hQ _ _ _ ⟨rfl, x.ρ, u, rfl, ⟨hx, Ext.refl x, hV, hD⟩, e3⟩
      · rename_i f args heq
        rw [heq] at hop
        obtain ⟨us, e1, e2⟩ := hop
        cases hcr : callA E call f args x.h with
        | fail => rw [hcr] at h; exact absurd h.symm hr
        | ret v h' =>
          rw [hcr] at h
          obtain ⟨q1, q2⟩ := callA_ok hc hE.orc f args x us _ hx e2 hcr (by simp)
          rw [e1, q1.run]
          refine q2.mono fun e w' hp => ?_
          obtain ⟨u, ρ', rfl, p2, p3, p4⟩ := hp
          exact step ⟨w', h', ρ', x.out⟩ _ ⟨_, _, _, _⟩ p3 p2 rfl ((p3.Vs hV).put o.dst p4) (by rw [put_defers]; exact hD.ext p3) rfl h
        | pan v h' =>
          rw [hcr] at h
          obtain ⟨q1, q2⟩ := callA_ok hc hE.orc f args x us _ hx e2 hcr (by simp)
          rw [e1, q1.run]
          refine q2.mono fun e w' hp => ?_
          obtain ⟨u, ρ', rfl, p2, p3, p4⟩ := hp
          subst h
          exact hQ _ _ _ ⟨rfl, ρ', u, rfl, ⟨p2, p3, p3.Vs hV, hD.ext p3⟩, p4⟩
      · rename_i f args caps heq
        rw [heq] at hop
        obtain ⟨as, cs, e1, e2, e3⟩ := hop
        rw [e1]
        refine step x _ ⟨_, _, _, _⟩ (Ext.refl x) hx rfl ?_ ?_ rfl h
        · rw [put_defers']; exact hV.put o.dst (.tup [] [] .nil)
        · rw [put_defers]; exact .cons e2 e3 hD
      · exact absurd h.symm hr
      · exact absurd h.symm hr

/-! ### loops -/
def LoopWp (P : Program) (c : Code) (Q : Exit → Act → World → Prop) (a : Act) (w : World) : Prop :=
  ∀ (b : Frame) (k : List Item) (cs : List Frame), ∃ e a' w', Q e a' w' ∧ Arrives P (lone (b.at a (.code c :: .inLoop c :: k)) cs w) b k cs e a' w'
theorem loop_of {c : Code} {Q : Exit → Act → World → Prop} {a : Act} {w : World} (h : LoopWp P c Q a w) : (Code.loop c).wp P Q a w :=
  fun b k cs => let ⟨e, a', w', q, r⟩ := h b k cs; ⟨e, a', w', q, .of_steps (.one step_loop) r⟩
theorem LoopWp.step {c : Code} {Q : Exit → Act → World → Prop} {a : Act} {w : World} (h : c.wp P (Exit.then (LoopWp P c Q) Q) a w) : LoopWp P c Q a w := by
  intro b k cs
  obtain ⟨e, a₁, w₁, hq, harr⟩ := h b (.inLoop c :: k) cs
  cases e with
  | normal =>
    obtain ⟨e₂, a₂, w₂, hq₂, harr₂⟩ := hq b k cs
    exact ⟨e₂, a₂, w₂, hq₂, .of_steps (Steps.trans harr (.one step_inLoop)) harr₂⟩
  | exit id => exact ⟨_, a₁, w₁, hq, .pass (x := .inLoop c) rfl (fun _ _ => .inl (by simp)) harr⟩
  | goto l => exact ⟨_, a₁, w₁, hq, .pass (x := .inLoop c) rfl (fun _ _ => .inl (by simp)) harr⟩
  | ret => exact ⟨_, a₁, w₁, hq, .pass (x := .inLoop c) rfl (fun _ _ => .inl (by simp)) harr⟩
  | panic ch => exact ⟨_, a₁, w₁, hq, .pass (x := .inLoop c) rfl (fun _ _ => .inl (by simp)) harr⟩
  | outgrown => exact ⟨_, a₁, w₁, hq, .pass (x := .inLoop c) rfl (fun _ _ => .inl (by simp)) harr⟩
/-- What a piece of code owes. -/
def CodeSound (P : Program) (c : Code) (f : St → XR) : Prop :=
  ∀ (s : St) (x : X) (a : Act) (r : XR), WR x → x.h = s.h → x.Vs s.fr a.tmps.toList → DR x s.ds a.defers → s.u = .off → f s = r → r ≠ .fail → c.wp P (XP x r) a x.w
theorem loop_ok {c : Code} {f : St → XR} (hf : CodeSound P c f) : ∀ (n : Nat) (s : St) (x : X) (a : Act) (r : XR), WR x → x.h = s.h → x.Vs s.fr a.tmps.toList → DR x s.ds a.defers → s.u = .off → aLoop f n s = r → r ≠ .fail → LoopWp P c (XP x r) a x.w
  | 0, s, x, a, r, hx, hh, hV, hD, hu, h, hr => by simp only [aLoop] at h; exact absurd h.symm hr
  | n + 1, s, x, a, r, hx, hh, hV, hD, hu, h, hr => by
    simp only [aLoop] at h
    refine LoopWp.step ?_
    split at h
    · rename_i s1 hs
      have := hf s x a _ hx hh hV hD hu hs (by simp)
      refine wp_mono this fun e a' w' hp => ?_
      obtain ⟨rfl, hu1, ρ', g1, g2, g3, g4⟩ := hp
      have := loop_ok hf n s1 ⟨w', s1.h, ρ', x.out⟩ a' r g1 rfl g3 g4 hu1 h hr
      exact fun b k cs => let ⟨e, a'', w'', q, arr⟩ := this b k cs; ⟨e, a'', w'', q.pre g2, arr⟩
    · rename_i hn
      have := hf s x a _ hx hh hV hD hu h hr
      refine wp_mono this fun e a' w' hp => ?_
      cases r with
      | norm s1 => exact absurd h (hn s1)
      | exit id s1 => obtain ⟨rfl, hp⟩ := hp; exact ⟨rfl, hp⟩
      | ret s1 => obtain ⟨rfl, hp⟩ := hp; exact ⟨rfl, hp⟩
      | pan v s1 => obtain ⟨h2, ρ', u, rfl, hp⟩ := hp; exact ⟨h2, ρ', u, rfl, hp⟩
      | fail => exact absurd rfl hr
theorem aCode_ok (hE : EnvOk P E) (hc : CallSound P call) (fuel : Nat) : ∀ (c : Code), codeOk E c = true → CodeSound P c (aCode E call fuel c) := by
  intro c
  induction c with
  | skip =>
    intro _ s x a r hx hh hV hD hu h hr
    simp only [aCode] at h
    subst h
    exact wp_skip ⟨rfl, hu, x.ρ, by rw [← hh]; exact hx, by rw [← hh]; exact Ext.refl x, by rw [← hh]; exact hV, by rw [← hh]; exact hD⟩
  | label l =>
    intro _ s x a r hx hh hV hD hu h hr
    simp only [aCode] at h
    subst h
    exact wp_label ⟨rfl, hu, x.ρ, by rw [← hh]; exact hx, by rw [← hh]; exact Ext.refl x, by rw [← hh]; exact hV, by rw [← hh]; exact hD⟩
  | region id ops draw =>
    intro hok s x a r hx hh hV hD hu h hr
    cases draw with
    | false =>
      simp only [aCode] at h
      exact wp_region_list (aOps_ok hE hc ops.toList s x a r _ hx hh hV hD hu h hr fun _ _ _ h => h)
    | true =>
      simp only [aCode] at h
      simp only [codeOk] at hok
      split at h
      · exact absurd h.symm hr
      · rename_i hsus
        simp only [hsus, Bool.false_or] at hok
        split at h
        · rename_i fr h1 hfr
          subst h
          rw [← hh] at hfr
          refine draw_ok hE.ty hc hE.orc hE.mixed hx hok hV hfr fun w' ρ' a' q1 q2 q3 q4 => ⟨rfl, hu, ρ', q1, q2, q3, ?_⟩
          rw [q4]
          exact hD.ext q2
        · split at h
          · rename_i v fr h1 hp
            subst h
            rw [← hh] at hp
            refine panicD_ok hE.ty hc hE.orc hE.mixed hx hV hp fun w' ρ' a' u q1 q2 q3 q4 q5 => ⟨hu, ρ', u, rfl, ⟨q1, q2, q3, ?_⟩, q4⟩
            rw [q5]
            exact hD.ext q2
          · exact absurd h.symm hr
  | seq c1 c2 ih1 ih2 =>
    intro hok s x a r hx hh hV hD hu h hr
    simp only [codeOk, Bool.and_eq_true] at hok
    simp only [aCode] at h
    refine wp_seq ?_
    split at h
    · rename_i s1 hs
      refine wp_mono (ih1 hok.1 s x a _ hx hh hV hD hu hs (by simp)) fun e a' w' hp => ?_
      obtain ⟨rfl, hu1, ρ', g1, g2, g3, g4⟩ := hp
      exact wp_mono (ih2 hok.2 s1 ⟨w', s1.h, ρ', x.out⟩ a' r g1 rfl g3 g4 hu1 h hr) fun e a'' w'' hp => hp.pre g2
    · rename_i hn
      refine wp_mono (ih1 hok.1 s x a _ hx hh hV hD hu h hr) fun e a' w' hp => ?_
      cases r with
      | norm s1 => exact absurd h (hn s1)
      | exit id s1 => obtain ⟨rfl, hp⟩ := hp; exact ⟨rfl, hp⟩
      | ret s1 => obtain ⟨rfl, hp⟩ := hp; exact ⟨rfl, hp⟩
      | pan v s1 => obtain ⟨h2, ρ', u, rfl, hp⟩ := hp; exact ⟨h2, ρ', u, rfl, hp⟩
      | fail => exact absurd rfl hr
  | cond y c1 c2 ih1 ih2 =>
    intro hok s x a r hx hh hV hD hu h hr
    simp only [codeOk, Bool.and_eq_true] at hok
    simp only [aCode] at h
    have hy := evA_ok hx.gl hV y
    split at h
    · rename_i e
      rw [e] at hy
      generalize hq : a.eval y = u at hy
      cases hy
      exact wp_cond_true hq (ih1 hok.1 s x a r hx hh hV hD hu h hr)
    · rename_i e
      rw [e] at hy
      generalize hq : a.eval y = u at hy
      cases hy
      exact wp_cond_false hq (ih2 hok.2 s x a r hx hh hV hD hu h hr)
    · exact absurd h.symm hr
  | block id c ih =>
    intro hok s x a r hx hh hV hD hu h hr
    simp only [codeOk] at hok
    simp only [aCode] at h
    refine wp_block ?_
    split at h
    · rename_i id' s1 hs
      refine wp_mono (ih hok s x a _ hx hh hV hD hu hs (by simp)) fun e a' w' hp => ?_
      obtain ⟨rfl, hp⟩ := hp
      split at h
      · rename_i hb
        have hid : id' = id := Nat.eq_of_beq_eq_true hb
        subst h
        simp only [Exit.inBlock, hid, if_true]
        exact ⟨rfl, hp⟩
      · rename_i hb
        have hid : ¬ id' = id := Nat.ne_of_beq_eq_false hb
        subst h
        simp only [Exit.inBlock, hid, if_false]
        exact ⟨rfl, hp⟩
    · rename_i hn
      refine wp_mono (ih hok s x a _ hx hh hV hD hu h hr) fun e a' w' hp => ?_
      cases r with
      | norm s1 => obtain ⟨rfl, hp⟩ := hp; exact ⟨rfl, hp⟩
      | exit id s1 => exact absurd h (hn id s1)
      | ret s1 => obtain ⟨rfl, hp⟩ := hp; exact ⟨rfl, hp⟩
      | pan v s1 => obtain ⟨h2, ρ', u, rfl, hp⟩ := hp; exact ⟨h2, ρ', u, rfl, hp⟩
      | fail => exact absurd rfl hr
  | loop c ih =>
    intro hok s x a r hx hh hV hD hu h hr
    simp only [codeOk] at hok
    simp only [aCode] at h
    exact loop_of (loop_ok (ih hok) fuel s x a r hx hh hV hD hu h hr)
  | exit id =>
    intro _ s x a r hx hh hV hD hu h hr
    simp only [aCode] at h
    subst h
    exact wp_exit ⟨rfl, hu, x.ρ, by rw [← hh]; exact hx, by rw [← hh]; exact Ext.refl x, by rw [← hh]; exact hV, by rw [← hh]; exact hD⟩
  | ret =>
    intro _ s x a r hx hh hV hD hu h hr
    simp only [aCode] at h
    subst h
    exact wp_ret ⟨rfl, hu, x.ρ, by rw [← hh]; exact hx, by rw [← hh]; exact Ext.refl x, by rw [← hh]; exact hV, by rw [← hh]; exact hD⟩
  | rangeFunc => intro _ s x a r hx hh hV hD hu h hr; simp only [aCode] at h; exact absurd h.symm hr
  | scope => intro _ s x a r hx hh hV hD hu h hr; simp only [aCode] at h; exact absurd h.symm hr
  | goto => intro _ s x a r hx hh hV hD hu h hr; simp only [aCode] at h; exact absurd h.symm hr
  | refuse => intro _ s x a r hx hh hV hD hu h hr; simp only [aCode] at h; exact absurd h.symm hr
end
end Go.Ev

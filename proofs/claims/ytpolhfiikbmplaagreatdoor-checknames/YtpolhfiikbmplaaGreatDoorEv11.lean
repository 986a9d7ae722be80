/-
The abstract evaluator: calls by their mode.
-/
import Derived.Test.YtpolhfiikbmplaaGreatDoorEv10
import Derived.Tactics
namespace Go.Ev
/-- How a call ends. -/
def Post (x : X) (r : CRes) (e : Ending) (w' : World) : Prop := match r with
  | .ret v h' => ∃ u ρ', e = .returned u ∧ WR ⟨w', h', ρ', x.out⟩ ∧ Ext x ⟨w', h', ρ', x.out⟩ ∧ X.V ⟨w', h', ρ', x.out⟩ v u
  | .pan v h' => ∃ u ρ', e = .panicked [{ v := u, recovered := false }] ∧ WR ⟨w', h', ρ', x.out⟩ ∧ Ext x ⟨w', h', ρ', x.out⟩ ∧ X.V ⟨w', h', ρ', x.out⟩ v u
  | .fail => False
/-- A function with a body. -/
def FnOk (P : Program) (f : FuncId) : Prop := ∃ fn, P.funcs[f]? = some fn ∧ (fn.name == "runtime.NumGoroutine") = false ∧ fn.body.isNone = false
def CallSound (P : Program) (call : FuncId → List AV → AH → CRes) : Prop :=
  ∀ (f : FuncId) (args : List AV) (x : X) (vs : List Value) (r : CRes), WR x → x.Vs args vs → call f args x.h = r → r ≠ .fail → FnOk P f ∧ Calls P f vs.toArray x.w (Post x r)
def OrcSound (P : Program) (E : Env) : Prop :=
  ∀ (f : FuncId) (args : List AV) (x : X) (vs : List Value) (v : AV), WR x → x.h = .empty → x.Vs args vs → E.orc f args = some v → FnOk P f ∧ Calls P f vs.toArray x.w (Post x (.ret v .empty))
theorem FnOk.run {P : Program} {f : FuncId} (h : FnOk P f) (args : Array Value) (w : World) : (callFunc f args).run P w = .ok (.enter f args) w := by
  obtain ⟨fn, h1, h2, h3⟩ := h
  have h2' : ¬ fn.name = "runtime.NumGoroutine" := by simpa using h2
  have h3' : ¬ fn.body = none := fun e => by rw [e] at h3; simp at h3
  simp [callFunc, h1, h2', h3']
section
variable {P : Program} {E : Env} {x : X}
theorem WR.empty (hx : WR x) : WR ⟨x.w, .empty, x.ρ, x.bad⟩ where
  len := rfl
  cells := fun b cs h => by have := hget_lt h; simp [AH.empty] at this
  ro := fun b cs h => by have := hget_lt h; simp [AH.empty] at this
  inj := fun b b' cs cs' h => by have := hget_lt h; simp [AH.empty] at this
  outOk := fun b cs h => by have := hget_lt h; simp [AH.empty] at this
  outLt := fun k hk => by
    rcases hk with hk | hk
    · exact hx.outLt k hk
    · exact hx.live_lt hk
  gl := hx.gl.tr ⟨fun b off u hb hc => ⟨hc, fun hbad => by
    rcases hbad with h | ⟨b, cs, h, _⟩
    · exact hb h
    · have := hget_lt h; simp [AH.empty] at this⟩, fun b hb => absurd hb (Nat.not_lt_zero _), Nat.le_refl _, fun k m h => h⟩
/-- The abstract heap stands while only new blocks are laid. -/
theorem WR.grow (hx : WR x) {w' : World} (hs : x.w.heap.size ≤ w'.heap.size) (ho : w'.os = x.w.os) (ht : w'.tape = x.w.tape) (hu : w'.output = x.w.output) (hb : ∀ i, i < x.w.heap.size → w'.heap[i]? = x.w.heap[i]?) :
    WR ⟨w', x.h, x.ρ, x.out⟩ ∧ Ext x ⟨w', x.h, x.ρ, x.out⟩ := by
  have hext : Ext x ⟨w', x.h, x.ρ, x.out⟩ := ⟨hs, ho, ht, hu, fun i hi _ => hb i hi, fun _ _ h => h, rfl, fun _ _ => rfl, Nat.le_refl _, fun k m hr => by
    have := hr.lt
    obtain ⟨c, e, h1, h2⟩ := hr
    exact ⟨c, e, by rw [hb k this]; exact h1, h2⟩⟩
  refine ⟨⟨hx.len, fun b cs h => ?_, fun b cs h => ?_, hx.inj, hx.outOk, fun k hk => Nat.lt_of_lt_of_le (hx.outLt k hk) hs, hx.gl.tr hext.carry.low⟩, hext⟩
  · obtain ⟨c, e, us, h1, h2, h3⟩ := hx.cells b cs h
    exact ⟨c, e, us, by rw [hb _ (hx.rho_lt h)]; exact h1, hext.Vs h2, h3⟩
  · obtain ⟨h0, c, e, us, h1, h2, h3⟩ := hx.ro b cs h
    exact ⟨h0, c, e, us, by rw [hb _ (Array.getElem?_eq_some_iff.1 h1).1]; exact h1, h2.tr hext.carry.low, h3⟩
/-- From the callee's own heap back to the caller's. -/
theorem back_ok (hx : WR x) {w' : World} {h2 : AH} {ρ2 : Nat → Nat} {v v' : AV} {u : Value} {h3 : AH} (hw : WR ⟨w', h2, ρ2, x.bad⟩) (he : Ext ⟨x.w, .empty, x.ρ, x.bad⟩ ⟨w', h2, ρ2, x.bad⟩) (hv : X.V ⟨w', h2, ρ2, x.bad⟩ v u)
    (hf : fz fzDepth h2 v = some (v', h3)) : WR ⟨w', x.h, x.ρ, x.out⟩ ∧ Ext x ⟨w', x.h, x.ρ, x.out⟩ ∧ X.Vp ⟨w', x.h, x.ρ, x.out⟩ v' u := by
  obtain ⟨f1, f2⟩ := fz_ok fzDepth ⟨w', h2, ρ2, x.bad⟩ v v' u h3 hw hv hf
  have hnl : ∀ i, ¬ X.live ⟨x.w, .empty, x.ρ, x.bad⟩ i := by
    rintro i ⟨b, cs, h, _⟩
    have := hget_lt h
    simp [AH.empty] at this
  obtain ⟨g1, g2⟩ := hx.grow he.size he.os he.tape he.output fun i hi => he.blk i hi (hnl i)
  refine ⟨g1, g2, f2.tr ⟨fun b off u hb hc => ⟨hc, fun hbad => hb (.inl ?_)⟩, fun b hb => absurd hb (Nat.not_lt_zero _), Nat.le_refl _, fun k m h => h⟩⟩
  exact hbad
/-- How a call on a heap of its own ends. -/
def PPost (x : X) (r : CRes) (e : Ending) (w' : World) : Prop := match r with
  | .ret v _ => ∃ u, e = .returned u ∧ WR ⟨w', x.h, x.ρ, x.out⟩ ∧ Ext x ⟨w', x.h, x.ρ, x.out⟩ ∧ X.Vp ⟨w', x.h, x.ρ, x.out⟩ v u
  | .pan v _ => ∃ u, e = .panicked [{ v := u, recovered := false }] ∧ WR ⟨w', x.h, x.ρ, x.out⟩ ∧ Ext x ⟨w', x.h, x.ρ, x.out⟩ ∧ X.Vp ⟨w', x.h, x.ρ, x.out⟩ v u
  | .fail => False
theorem pureCall_ok {call : FuncId → List AV → AH → CRes} (hc : CallSound P call) (ho : OrcSound P E) (hx : WR x) {f : FuncId} {args : List AV} {vs : List Value} (hV : VRs x.w x.bad x.ρ 0 args vs) {r : CRes} (h : pureCall E call f args = r) (hr : r ≠ .fail) :
    FnOk P f ∧ Calls P f vs.toArray x.w (PPost x r) := by
  have hy := hx.empty
  have hVy : X.Vs ⟨x.w, .empty, x.ρ, x.bad⟩ args vs := hV.tr ⟨fun b off u hb hc => ⟨hc, fun hbad => by
    rcases hbad with h | ⟨b, cs, h, _⟩
    · exact hb h
    · have := hget_lt h; simp [AH.empty] at this⟩, fun b hb => absurd hb (Nat.not_lt_zero _), Nat.zero_le _, fun k m h => h⟩
  unfold pureCall at h
  split at h
  · rename_i v hv
    subst h
    obtain ⟨h1, h2⟩ := ho f args _ vs v hy rfl hVy hv
    refine ⟨h1, h2.mono fun e w' hp => ?_⟩
    obtain ⟨u, ρ', e1, e2, e3, e4⟩ := hp
    have hnl : ∀ i, ¬ X.live ⟨x.w, .empty, x.ρ, x.bad⟩ i := by
      rintro i ⟨b, cs, h, _⟩
      have := hget_lt h
      simp [AH.empty] at this
    obtain ⟨g1, g2⟩ := hx.grow e3.size e3.os e3.tape e3.output fun i hi => e3.blk i hi (hnl i)
    refine ⟨u, e1, g1, g2, e4.tr ⟨fun b off u hb hc => ⟨hc, fun hbad => hb (.inl ?_)⟩, fun b hb => absurd hb (Nat.not_lt_zero _), Nat.le_refl _, fun k m h => h⟩⟩
    exact hbad
  · split at h
    · rename_i v h2 hcall
      obtain ⟨h1, h3⟩ := hc f args ⟨x.w, .empty, x.ρ, x.bad⟩ vs _ hy hVy hcall (by simp)
      split at h
      · rename_i u' h4 hf
        subst h
        refine ⟨h1, h3.mono fun e w' hp => ?_⟩
        obtain ⟨u, ρ', e1, e2, e3, e4⟩ := hp
        exact ⟨u, e1, back_ok hx e2 e3 e4 hf⟩
      · exact absurd h.symm hr
    · rename_i v h2 hcall
      obtain ⟨h1, h3⟩ := hc f args ⟨x.w, .empty, x.ρ, x.bad⟩ vs _ hy hVy hcall (by simp)
      split at h
      · rename_i u' h4 hf
        subst h
        refine ⟨h1, h3.mono fun e w' hp => ?_⟩
        obtain ⟨u, ρ', e1, e2, e3, e4⟩ := hp
        exact ⟨u, e1, back_ok hx e2 e3 e4 hf⟩
      · exact absurd h.symm hr
    · exact absurd h.symm hr

/-! ### blocks struck -/
theorem lowRef_ok : ∀ (n k m : Nat) {v : AV} {u : Value} {w : World} {bad : Nat → Prop} {ρ : Nat → Nat}, VR w bad ρ m v u → lowRef k n v = true → VR w bad ρ k v u
  | 0, _, _, _, _, _, _, _, _, h => by simp [lowRef] at h
  | n + 1, k, m, v, u, w, bad, ρ, hV, h => by
    have hL : ∀ {vs : List AV} {us : List Value}, VRs w bad ρ m vs us → allB (lowRef k n) vs = true → VRs w bad ρ k vs us := by
      intro vs us hVs hall
      induction vs generalizing us with
      | nil => cases hVs; exact .nil
      | cons a vs ih => cases hVs with
        | cons h1 h2 =>
          have := allB_iff.1 hall
          exact .cons (lowRef_ok n k m h1 (this a List.mem_cons_self)) (ih h2 (allB_iff.2 fun y hy => this y (List.mem_cons_of_mem _ hy)))
    cases hV with
    | any => exact .any _
    | bool => exact .bool _
    | int => exact .int _ _
    | str => exact .str _
    | nilp => exact .nilp
    | ptr b off hb => exact .ptr _ _ (by simpa [lowRef, Nat.blt_eq] using h)
    | ip b off cs him => exact .ip _ _ _ him
    | nils => exact .nils
    | sl0 m a c cap h1 h2 => exact .sl0 _ _ _ _ h1 h2
    | sl m b off c d cs cap h1 h2 h3 => exact .sl _ _ _ _ _ _ _ h1 h2 h3
    | sr b off sz m c cap hb h1 h2 h3 => exact .sr _ _ _ _ _ _ (by simpa [lowRef, Nat.blt_eq] using h) h1 h2 h3
    | func f a a' c c' h1 h2 =>
      simp only [lowRef, Bool.and_eq_true] at h
      exact .func _ _ _ _ _ (hL h1 h.1) (hL h2 h.2)
    | nilf => exact .nilf
    | ifc t v u hv => exact .ifc _ _ _ (lowRef_ok n k m hv (by simpa [lowRef] using h))
    | nili => exact .nili
    | agg cs us hv => exact .agg _ _ (hL hv (by simpa [lowRef] using h))
    | tup cs us hv => exact .tup _ _ (hL hv (by simpa [lowRef] using h))
    | sstr ne s hs => exact .sstr _ _ hs
    | siv k lo hi i h1 h2 => exact .siv _ _ _ _ h1 h2
theorem lowRefs_ok {k m : Nat} {vs : List AV} {us : List Value} {w : World} {bad : Nat → Prop} {ρ : Nat → Nat} (hV : VRs w bad ρ m vs us) (h : allB (lowRef k fzDepth) vs = true) : VRs w bad ρ k vs us := by
  induction vs generalizing us with
  | nil => cases hV; exact .nil
  | cons a vs ih => cases hV with
    | cons h1 h2 =>
      have := allB_iff.1 h
      exact .cons (lowRef_ok _ k m h1 (this a List.mem_cons_self)) (ih h2 (allB_iff.2 fun y hy => this y (List.mem_cons_of_mem _ hy)))
theorem cut_ok (hx : WR x) {n : Nat} {h' : AH} (hn : n ≤ x.h.n) (h : cutTo x.h n = some h') :
    WR ⟨x.w, h', x.ρ, x.out⟩ ∧ h'.n = n ∧ (∀ i, X.live ⟨x.w, h', x.ρ, x.out⟩ i → x.live i) := by
  unfold cutTo at h
  split at h
  · rename_i hall
    simp only [Option.some.injEq] at h
    subst h
    have hl := hx.len
    have hget : ∀ b, b < n → hget ⟨n, x.h.l.drop (x.h.n - n)⟩ b = Go.Ev.hget x.h b := by
      intro b hb
      rw [hget_eq (h := ⟨n, _⟩) hb, hget_eq (by omega)]
      simp only [List.getElem?_drop]
      congr 1
      omega
    have hsub : ∀ {b k}, Go.Ev.hget ⟨n, x.h.l.drop (x.h.n - n)⟩ b = some k → b < n ∧ Go.Ev.hget x.h b = some k ∧ lowBlk n k = true := by
      intro b k hb
      have h1 : b < n := hget_lt hb
      have h2 := hget b h1
      rw [hb] at h2
      refine ⟨h1, h2.symm, ?_⟩
      rw [hget_eq (h := ⟨n, _⟩) h1] at hb
      exact allB_iff.1 hall _ (List.mem_of_getElem? hb)
    have hlive : ∀ i, X.live ⟨x.w, ⟨n, x.h.l.drop (x.h.n - n)⟩, x.ρ, x.out⟩ i → x.live i := by
      rintro i ⟨b, cs, h1, h2⟩
      exact ⟨b, cs, (hsub h1).2.1, h2⟩
    have hbad : ∀ i, X.bad ⟨x.w, ⟨n, x.h.l.drop (x.h.n - n)⟩, x.ρ, x.out⟩ i → x.bad i := fun i h => h.imp id (hlive i)
    have hcar : ∀ m, Carry x.w x.bad x.ρ m x.w (X.bad ⟨x.w, ⟨n, x.h.l.drop (x.h.n - n)⟩, x.ρ, x.out⟩) x.ρ m := fun m => ⟨fun b off u hb hc => ⟨hc, fun h => hb (hbad _ h)⟩, fun _ _ => rfl, Nat.le_refl _, fun _ _ h => h⟩
    refine ⟨⟨by simp; omega, fun b cs h => ?_, fun b cs h => ?_, fun b b' cs cs' h h' hr => hx.inj b b' cs cs' (hsub h).2.1 (hsub h').2.1 hr, fun b cs h => hx.outOk b cs (hsub h).2.1, hx.outLt, hx.gl.tr (hcar 0)⟩, rfl, hlive⟩
    · obtain ⟨a1, a2, a3⟩ := hsub h
      obtain ⟨c, e, us, h1, h2, h3⟩ := hx.cells b cs a2
      exact ⟨c, e, us, h1, (lowRefs_ok h2 a3).tr (hcar n), h3⟩
    · obtain ⟨a1, a2, a3⟩ := hsub h
      obtain ⟨h0, c, e, us, h1, h2, h3⟩ := hx.ro b cs a2
      exact ⟨fun hb => h0 (hbad _ hb), c, e, us, h1, h2.tr (hcar 0), h3⟩
  · cases h
theorem shared_ok (hx : WR x) {w' : World} {h2 : AH} {ρ2 : Nat → Nat} {v v' : AV} {u : Value} {h3 h4 : AH} (hw : WR ⟨w', h2, ρ2, x.out⟩) (he : Ext x ⟨w', h2, ρ2, x.out⟩) (hv : X.V ⟨w', h2, ρ2, x.out⟩ v u)
    (hf : fz fzDepth h2 v = some (v', h3)) (hc : cutTo h3 x.h.n = some h4) : WR ⟨w', h4, ρ2, x.out⟩ ∧ Ext x ⟨w', h4, ρ2, x.out⟩ ∧ X.V ⟨w', h4, ρ2, x.out⟩ v' u := by
  obtain ⟨f1, f2⟩ := fz_ok fzDepth ⟨w', h2, ρ2, x.out⟩ v v' u h3 hw hv hf
  have hle : x.h.n ≤ h3.n := by rw [f1.2.2.1]; exact he.le
  obtain ⟨c1, c2, c3⟩ := cut_ok (x := ⟨w', h3, ρ2, x.out⟩) f1.1 hle hc
  have he3 := he.trans f1.2.1
  have _ := hx
  refine ⟨c1, ⟨he3.size, he3.os, he3.tape, he3.output, he3.blk, fun i hi hl => he3.live i hi (c3 i hl), rfl, fun b hb => he3.ren b hb, by rw [c2]; exact Nat.le_refl _, he3.room⟩, ?_⟩
  exact f2.tr ⟨fun b off u hb hc => ⟨hc, fun h => hb (h.imp id (c3 _))⟩, fun b hb => absurd hb (Nat.not_lt_zero _), Nat.zero_le _, fun _ _ h => h⟩
theorem callA_ok {call : FuncId → List AV → AH → CRes} (hc : CallSound P call) (ho : OrcSound P E) : CallSound P (callA E call) := by
  intro f args x vs r hx hV h hr
  unfold callA at h
  split at h
  · split at h
    · rename_i args1 h1 hf
      obtain ⟨f1, f2⟩ := fzL_ok hx hV hf
      split at h
      · rename_i v h5 hq
        subst h
        obtain ⟨a1, a2⟩ := pureCall_ok (x := ⟨x.w, h1, x.ρ, x.out⟩) hc ho f1.1 f2 hq (by simp)
        refine ⟨a1, a2.mono fun e w' hh => ?_⟩
        obtain ⟨u, e1, e2, e3, e4⟩ := hh
        exact ⟨u, x.ρ, e1, e2, f1.2.1.trans e3, e4.up _⟩
      · rename_i v h5 hq
        subst h
        obtain ⟨a1, a2⟩ := pureCall_ok (x := ⟨x.w, h1, x.ρ, x.out⟩) hc ho f1.1 f2 hq (by simp)
        refine ⟨a1, a2.mono fun e w' hh => ?_⟩
        obtain ⟨u, e1, e2, e3, e4⟩ := hh
        exact ⟨u, x.ρ, e1, e2, f1.2.1.trans e3, e4.up _⟩
      · exact absurd h.symm hr
    · exact absurd h.symm hr
  · split at h
    · rename_i v h2 hq
      obtain ⟨a1, a2⟩ := hc f args x vs _ hx hV hq (by simp)
      split at h
      · rename_i u' h3 hf
        split at h
        · rename_i h4 hcut
          subst h
          refine ⟨a1, a2.mono fun e w' hh => ?_⟩
          obtain ⟨u, ρ', e1, e2, e3, e4⟩ := hh
          exact ⟨u, ρ', e1, shared_ok hx e2 e3 e4 hf hcut⟩
        · exact absurd h.symm hr
      · exact absurd h.symm hr
    · rename_i v h2 hq
      obtain ⟨a1, a2⟩ := hc f args x vs _ hx hV hq (by simp)
      split at h
      · rename_i u' h3 hf
        split at h
        · rename_i h4 hcut
          subst h
          refine ⟨a1, a2.mono fun e w' hh => ?_⟩
          obtain ⟨u, ρ', e1, e2, e3, e4⟩ := hh
          exact ⟨u, ρ', e1, shared_ok hx e2 e3 e4 hf hcut⟩
        · exact absurd h.symm hr
      · exact absurd h.symm hr
    · exact absurd h.symm hr
  · exact hc f args x vs r hx hV h hr
end
end Go.Ev

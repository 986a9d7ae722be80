/-
The abstract evaluator: how the abstract heap follows the world: a new block, a store, an append in place, a block that is made read-only.
-/
import Derived.Test.YtpolhfiikbmplaaGreatDoorEv6
import Derived.Laws.CopyRow
namespace Go.Ev
def upd (ρ : Nat → Nat) (n k : Nat) : Nat → Nat := fun b => if b = n then k else ρ b
theorem upd_same (ρ : Nat → Nat) (n k : Nat) : upd ρ n k n = k := by simp [upd]
theorem upd_old (ρ : Nat → Nat) {n k b : Nat} (h : b < n) : upd ρ n k b = ρ b := by
  unfold upd
  rw [if_neg (by omega)]
theorem Room.lt {w : World} {k m : Nat} (h : Room w k m) : k < w.heap.size := by
  obtain ⟨c, e, h1, _⟩ := h
  exact (Array.getElem?_eq_some_iff.1 h1).1
section
variable {x : X}
theorem WR.rho_lt (hx : WR x) {b : Nat} {cs : List AV} (h : hget x.h b = some (.cells cs)) : x.ρ b < x.w.heap.size := by
  obtain ⟨c, e, us, h1, _⟩ := hx.cells b cs h
  exact (Array.getElem?_eq_some_iff.1 h1).1
theorem WR.live_lt (hx : WR x) {k : Nat} (h : x.live k) : k < x.w.heap.size := by
  obtain ⟨b, cs, h1, rfl⟩ := h
  exact hx.rho_lt h1
/-- The same abstract heap over another world, whose heap is the same. -/
theorem WR.same (hx : WR x) {w' : World} (hh : w'.heap = x.w.heap) (ho : w'.os = x.w.os) (ht : w'.tape = x.w.tape) (hu : w'.output = x.w.output) : WR ⟨w', x.h, x.ρ, x.out⟩ ∧ Ext x ⟨w', x.h, x.ρ, x.out⟩ := by
  have hext : Ext x ⟨w', x.h, x.ρ, x.out⟩ := ⟨by rw [hh]; exact Nat.le_refl _, ho, ht, hu, fun i _ _ => by rw [hh], fun _ _ h => h, rfl, fun _ _ => rfl, Nat.le_refl _, fun k m ⟨c, e, h1, h2⟩ => ⟨c, e, by rw [hh]; exact h1, h2⟩⟩
  have hlow : Carry x.w x.bad x.ρ 0 w' (X.bad ⟨w', x.h, x.ρ, x.out⟩) x.ρ 0 := hext.carry.low
  refine ⟨⟨hx.len, fun b cs h => ?_, fun b cs h => ?_, hx.inj, hx.outOk, fun k hk => by rw [hh]; exact hx.outLt k hk, hx.gl.tr hext.carry.low⟩, hext⟩
  · obtain ⟨c, e, us, h1, h2, h3⟩ := hx.cells b cs h
    exact ⟨c, e, us, by rw [hh]; exact h1, hext.Vs h2, h3⟩
  · obtain ⟨h0, c, e, us, h1, h2, h3⟩ := hx.ro b cs h
    exact ⟨h0, c, e, us, by rw [hh]; exact h1, h2.tr hlow, h3⟩
/-- A new block. -/
theorem WR.alloc (hx : WR x) {acs : List AV} {us r : List Value} {c : Array Value} {e : TypeId} (hV : x.Vs acs us) (hc : c.toList = us ++ r) {w' : World} (hh : w'.heap = x.w.heap.push (.cells c e (0, 0)))
    (ho : w'.os = x.w.os) (ht : w'.tape = x.w.tape) (hu : w'.output = x.w.output) :
    WR ⟨w', hnew x.h (.cells acs), upd x.ρ x.h.n x.w.heap.size, x.out⟩ ∧ Ext x ⟨w', hnew x.h (.cells acs), upd x.ρ x.h.n x.w.heap.size, x.out⟩ := by
  have hold : ∀ i, i < x.w.heap.size → w'.heap[i]? = x.w.heap[i]? := fun i hi => by rw [hh, Array.getElem?_push, if_neg (by omega)]
  have hnewb : w'.heap[x.w.heap.size]? = some (.cells c e (0, 0)) := by rw [hh]; simp
  have hext : Ext x ⟨w', hnew x.h (.cells acs), upd x.ρ x.h.n x.w.heap.size, x.out⟩ := by
    refine ⟨by rw [hh]; simp, ho, ht, hu, fun i hi _ => hold i hi, fun i hi hl => ?_, rfl, fun b hb => upd_old _ hb, by simp [hnew], fun k m hr => ?_⟩
    · obtain ⟨b, cs, h1, h2⟩ := hl
      have hb := hget_lt h1
      simp only [hnew_n] at hb
      by_cases hbn : b = x.h.n
      · subst hbn
        simp only [upd_same] at h2
        omega
      · have hb' : b < x.h.n := by omega
        simp only [hget_hnew_old x.h (.cells acs) hb', upd_old _ hb'] at h1 h2
        exact ⟨b, cs, h1, h2⟩
    · have hlt := hr.lt
      obtain ⟨c', e', h1, h2⟩ := hr
      exact ⟨c', e', by rw [hold k hlt]; exact h1, h2⟩
  refine ⟨⟨by simp [hnew, hx.len], fun b cs h => ?_, fun b cs h => ?_, fun b b' cs cs' h h' hr => ?_, fun b cs h => ?_, fun k hk => by rw [hh]; have := hx.outLt k hk; simp; omega, hx.gl.tr hext.carry.low⟩, hext⟩
  · have hb := hget_lt h
    simp only [hnew_n] at hb
    by_cases hbn : b = x.h.n
    · subst hbn
      simp only [hget_hnew_new, Option.some.injEq, ABlk.cells.injEq] at h
      subst h
      exact ⟨c, e, us, by simp only [upd_same]; exact hnewb, hext.Vs hV, r, hc⟩
    · have hb' : b < x.h.n := by omega
      simp only [hget_hnew_old x.h (.cells acs) hb'] at h
      obtain ⟨c', e', us', h1, h2, h3⟩ := hx.cells b cs h
      exact ⟨c', e', us', by simp only [upd_old _ hb']; rw [hold _ (hx.rho_lt h)]; exact h1, hext.Vs h2, h3⟩
  · have hb := hget_lt h
    simp only [hnew_n] at hb
    by_cases hbn : b = x.h.n
    · subst hbn
      simp only [hget_hnew_new, Option.some.injEq] at h
      cases h
    · have hb' : b < x.h.n := by omega
      simp only [hget_hnew_old x.h (.cells acs) hb'] at h
      obtain ⟨h0, c', e', us', h1, h2, h3⟩ := hx.ro b cs h
      have hlt : x.ρ b < x.w.heap.size := (Array.getElem?_eq_some_iff.1 h1).1
      refine ⟨?_, c', e', us', by simp only [upd_old _ hb']; rw [hold _ hlt]; exact h1, h2.tr hext.carry.low, h3⟩
      simp only [upd_old _ hb']
      rintro (ho | hl)
      · exact h0 (.inl ho)
      · exact h0 (.inr (hext.live _ hlt hl))
  · have hb := hget_lt h
    have hb2 := hget_lt h'
    simp only [hnew_n] at hb hb2
    by_cases hbn : b = x.h.n <;> by_cases hbn2 : b' = x.h.n
    · omega
    · have hb' : b' < x.h.n := by omega
      simp only [hget_hnew_old x.h (.cells acs) hb'] at h'
      subst hbn
      simp only [upd_same, upd_old _ hb'] at hr
      have := hx.rho_lt h'
      omega
    · have hb' : b < x.h.n := by omega
      simp only [hget_hnew_old x.h (.cells acs) hb'] at h
      subst hbn2
      simp only [upd_same, upd_old _ hb'] at hr
      have := hx.rho_lt h
      omega
    · have hb1 : b < x.h.n := by omega
      have hb2 : b' < x.h.n := by omega
      simp only [hget_hnew_old x.h (.cells acs) hb1, hget_hnew_old x.h (.cells acs) hb2, upd_old _ hb1, upd_old _ hb2] at h h' hr
      exact hx.inj b b' cs cs' h h' hr
  · have hb := hget_lt h
    simp only [hnew_n] at hb
    by_cases hbn : b = x.h.n
    · subst hbn
      simp only [upd_same]
      intro hout
      have := hx.outLt _ hout
      omega
    · have hb' : b < x.h.n := by omega
      simp only [hget_hnew_old x.h (.cells acs) hb', upd_old _ hb'] at h ⊢
      exact hx.outOk b cs h
/-- A live block's cells are written. -/
theorem WR.poke (hx : WR x) {b : Nat} {bs ds : List AV} (hb : hget x.h b = some (.cells bs)) {c c' : Array Value} {e : TypeId} {us r : List Value} (hc : x.w.heap[x.ρ b]? = some (.cells c e (0, 0))) (hs : c'.size = c.size)
    (hV : x.Vs ds us) (hc' : c'.toList = us ++ r) {w' : World} (hsz : w'.heap.size = x.w.heap.size) (hat : w'.heap[x.ρ b]? = some (.cells c' e (0, 0))) (hoth : ∀ k, k ≠ x.ρ b → w'.heap[k]? = x.w.heap[k]?)
    (ho : w'.os = x.w.os) (ht : w'.tape = x.w.tape) (hu : w'.output = x.w.output) :
    WR ⟨w', hset x.h b (.cells ds), x.ρ, x.out⟩ ∧ Ext x ⟨w', hset x.h b (.cells ds), x.ρ, x.out⟩ := by
  have hbn := hget_lt hb
  have hlive : ∀ k, X.live ⟨w', hset x.h b (.cells ds), x.ρ, x.out⟩ k → x.live k := by
    rintro k ⟨b', cs, h1, h2⟩
    by_cases hbb : b = b'
    · subst hbb
      exact ⟨b, bs, hb, h2⟩
    · simp only [hget_hset_other hbb] at h1
      exact ⟨b', cs, h1, h2⟩
  have hext : Ext x ⟨w', hset x.h b (.cells ds), x.ρ, x.out⟩ := by
    refine ⟨by rw [hsz]; exact Nat.le_refl _, ho, ht, hu, fun i hi hl => hoth i fun e => hl (e ▸ ⟨b, bs, hb, rfl⟩), fun i _ h => hlive i h, rfl, fun _ _ => rfl, by simp [hset_n], fun k m hr => ?_⟩
    obtain ⟨c1, e1, h1, h2⟩ := hr
    by_cases hk : k = x.ρ b
    · subst hk
      rw [hc] at h1
      cases h1
      exact ⟨c', e, hat, by omega⟩
    · exact ⟨c1, e1, by rw [hoth k hk]; exact h1, h2⟩
  refine ⟨⟨by rw [hset_len, hset_n]; exact hx.len, fun b' cs h => ?_, fun b' cs h => ?_, fun b1 b2 cs1 cs2 h1 h2 hr => ?_, fun b' cs h => ?_, fun k hk => by rw [hsz]; exact hx.outLt k hk, hx.gl.tr hext.carry.low⟩, hext⟩
  · by_cases hbb : b = b'
    · subst hbb
      simp only [hget_hset_same hbn hx.len, Option.some.injEq, ABlk.cells.injEq] at h
      subst h
      have := hext.Vs hV
      exact ⟨c', e, us, hat, this, r, hc'⟩
    · simp only [hget_hset_other hbb] at h
      obtain ⟨c1, e1, us1, h1, h2, h3⟩ := hx.cells b' cs h
      refine ⟨c1, e1, us1, ?_, hext.Vs h2, h3⟩
      rw [hoth _ fun e => hbb (hx.inj b b' bs cs hb h e.symm)]
      exact h1
  · by_cases hbb : b = b'
    · subst hbb
      simp only [hget_hset_same hbn hx.len, Option.some.injEq] at h
      cases h
    · simp only [hget_hset_other hbb] at h
      obtain ⟨h0, c1, e1, us1, h1, h2, h3⟩ := hx.ro b' cs h
      refine ⟨?_, c1, e1, us1, ?_, h2.tr hext.carry.low, h3⟩
      · rintro (ho | hl)
        · exact h0 (.inl ho)
        · exact h0 (.inr (hlive _ hl))
      · rw [hoth _ fun e => h0 (.inr ⟨b, bs, hb, e.symm⟩)]
        exact h1
  · have aux : ∀ b' cs, hget (hset x.h b (.cells ds)) b' = some (.cells cs) → ∃ cs', hget x.h b' = some (.cells cs') := by
      intro b' cs h
      by_cases hbb : b = b'
      · exact ⟨bs, hbb ▸ hb⟩
      · exact ⟨cs, by rw [← h, hget_hset_other hbb]⟩
    obtain ⟨c1, h1'⟩ := aux _ _ h1
    obtain ⟨c2, h2'⟩ := aux _ _ h2
    exact hx.inj b1 b2 c1 c2 h1' h2' hr
  · by_cases hbb : b = b'
    · subst hbb; exact hx.outOk b bs hb
    · simp only [hget_hset_other hbb] at h
      exact hx.outOk b' cs h
/-- A live block is given up. -/
theorem WR.kill (hx : WR x) {b : Nat} {bs : List AV} (hb : hget x.h b = some (.cells bs)) : WR ⟨x.w, hset x.h b .dead, x.ρ, x.out⟩ ∧ Ext x ⟨x.w, hset x.h b .dead, x.ρ, x.out⟩ ∧ ¬ X.live ⟨x.w, hset x.h b .dead, x.ρ, x.out⟩ (x.ρ b) := by
  have hbn := hget_lt hb
  have hsub : ∀ b' cs, hget (hset x.h b .dead) b' = some (.cells cs) → b ≠ b' ∧ hget x.h b' = some (.cells cs) := by
    intro b' cs h
    by_cases hbb : b = b'
    · subst hbb
      rw [hget_hset_same hbn hx.len] at h
      cases h
    · exact ⟨hbb, by rw [← h, hget_hset_other hbb]⟩
  have hlive : ∀ k, X.live ⟨x.w, hset x.h b .dead, x.ρ, x.out⟩ k → x.live k := by
    rintro k ⟨b', cs, h1, h2⟩
    exact ⟨b', cs, (hsub b' cs h1).2, h2⟩
  have hext : Ext x ⟨x.w, hset x.h b .dead, x.ρ, x.out⟩ :=
    ⟨Nat.le_refl _, rfl, rfl, rfl, fun _ _ _ => rfl, fun i _ h => hlive i h, rfl, fun _ _ => rfl, by simp [hset_n], fun _ _ h => h⟩
  refine ⟨⟨by rw [hset_len, hset_n]; exact hx.len, fun b' cs h => ?_, fun b' cs h => ?_, fun b1 b2 cs1 cs2 h1 h2 hr => hx.inj b1 b2 cs1 cs2 (hsub _ _ h1).2 (hsub _ _ h2).2 hr, fun b' cs h => hx.outOk b' cs (hsub _ _ h).2, hx.outLt, hx.gl.tr hext.carry.low⟩, hext, ?_⟩
  · obtain ⟨c1, e1, us1, h1, h2, h3⟩ := hx.cells b' cs (hsub _ _ h).2
    exact ⟨c1, e1, us1, h1, hext.Vs h2, h3⟩
  · have h' : hget x.h b' = some (.ro cs) := by
      by_cases hbb : b = b'
      · subst hbb
        simp only [hget_hset_same hbn hx.len] at h
        cases h
      · rw [← h]; exact (hget_hset_other hbb).symm
    obtain ⟨h0, c1, e1, us1, h1, h2, h3⟩ := hx.ro b' cs h'
    refine ⟨?_, c1, e1, us1, h1, h2.tr hext.carry.low, h3⟩
    rintro (ho | hl)
    · exact h0 (.inl ho)
    · exact h0 (.inr (hlive _ hl))
  · rintro ⟨b', cs, h1, h2⟩
    obtain ⟨hne, h3⟩ := hsub b' cs h1
    exact hne (hx.inj b b' bs cs hb h3 h2.symm)
/-- A live block is given another number. -/
theorem WR.renum (hx : WR x) {b : Nat} {bs : List AV} (hb : hget x.h b = some (.cells bs)) :
    WR ⟨x.w, hnew (hset x.h b .dead) (.cells bs), upd x.ρ x.h.n (x.ρ b), x.out⟩ ∧ Ext x ⟨x.w, hnew (hset x.h b .dead) (.cells bs), upd x.ρ x.h.n (x.ρ b), x.out⟩ := by
  have hbn := hget_lt hb
  have hn : (hset x.h b .dead).n = x.h.n := hset_n _ _ _
  have hsub : ∀ b' cs, b' < x.h.n → hget (hnew (hset x.h b .dead) (.cells bs)) b' = some (.cells cs) → b ≠ b' ∧ hget x.h b' = some (.cells cs) := by
    intro b' cs hb' h
    rw [hget_hnew_old _ _ (by rw [hn]; exact hb')] at h
    by_cases hbb : b = b'
    · subst hbb
      rw [hget_hset_same hbn hx.len] at h
      cases h
    · exact ⟨hbb, by rw [← h, hget_hset_other hbb]⟩
  have hnew' : hget (hnew (hset x.h b .dead) (.cells bs)) x.h.n = some (.cells bs) := by
    have := hget_hnew_new (hset x.h b .dead) (.cells bs)
    rwa [hn] at this
  have hcase : ∀ {b' k}, hget (hnew (hset x.h b .dead) (.cells bs)) b' = some k → b' < x.h.n ∨ b' = x.h.n := by
    intro b' k h
    have := hget_lt h
    simp only [hnew_n, hn] at this
    omega
  have hlive : ∀ k, X.live ⟨x.w, hnew (hset x.h b .dead) (.cells bs), upd x.ρ x.h.n (x.ρ b), x.out⟩ k → x.live k := by
    rintro k ⟨b', cs, h1, h2⟩
    rcases hcase h1 with hb' | rfl
    · simp only [upd_old _ hb'] at h2
      exact ⟨b', cs, (hsub b' cs hb' h1).2, h2⟩
    · simp only [upd_same] at h2
      exact ⟨b, bs, hb, h2⟩
  have hext : Ext x ⟨x.w, hnew (hset x.h b .dead) (.cells bs), upd x.ρ x.h.n (x.ρ b), x.out⟩ :=
    ⟨Nat.le_refl _, rfl, rfl, rfl, fun _ _ _ => rfl, fun i _ h => hlive i h, rfl, fun b' hb' => upd_old _ hb', by simp [hnew_n, hn], fun _ _ h => h⟩
  refine ⟨⟨by simp [hnew, hset_len, hset_n, hx.len], fun b' cs h => ?_, fun b' cs h => ?_, fun b1 b2 cs1 cs2 h1 h2 hr => ?_, fun b' cs h => ?_, hx.outLt, hx.gl.tr hext.carry.low⟩, hext⟩
  · rcases hcase h with hb' | rfl
    · obtain ⟨c1, e1, us1, h1, h2, h3⟩ := hx.cells b' cs (hsub _ _ hb' h).2
      exact ⟨c1, e1, us1, by simp only [upd_old _ hb']; exact h1, hext.Vs h2, h3⟩
    · simp only [hnew', Option.some.injEq, ABlk.cells.injEq] at h
      subst h
      obtain ⟨c1, e1, us1, h1, h2, h3⟩ := hx.cells b bs hb
      exact ⟨c1, e1, us1, by simp only [upd_same]; exact h1, hext.Vs h2, h3⟩
  · rcases hcase h with hb' | rfl
    · have h' : hget x.h b' = some (.ro cs) := by
        simp only [hget_hnew_old (hset x.h b .dead) (.cells bs) (b := b') (by rw [hn]; exact hb')] at h
        by_cases hbb : b = b'
        · subst hbb
          simp only [hget_hset_same hbn hx.len] at h
          cases h
        · rw [← h]; exact (hget_hset_other hbb).symm
      obtain ⟨h0, c1, e1, us1, h1, h2, h3⟩ := hx.ro b' cs h'
      refine ⟨?_, c1, e1, us1, by simp only [upd_old _ hb']; exact h1, h2.tr hext.carry.low, h3⟩
      simp only [upd_old _ hb']
      rintro (ho | hl)
      · exact h0 (.inl ho)
      · exact h0 (.inr (hlive _ hl))
    · simp only [hnew', Option.some.injEq] at h
      cases h
  · rcases hcase h1 with hb1 | rfl <;> rcases hcase h2 with hb2 | rfl
    · simp only [upd_old _ hb1, upd_old _ hb2] at hr
      exact hx.inj b1 b2 cs1 cs2 (hsub _ _ hb1 h1).2 (hsub _ _ hb2 h2).2 hr
    · simp only [upd_old _ hb1, upd_same] at hr
      have := hsub _ _ hb1 h1
      exact absurd (hx.inj b1 b cs1 bs this.2 hb hr).symm this.1
    · simp only [upd_old _ hb2, upd_same] at hr
      have := hsub _ _ hb2 h2
      exact absurd (hx.inj b b2 bs cs2 hb this.2 hr) this.1
    · rfl
  · rcases hcase h with hb' | rfl
    · simp only [upd_old _ hb']
      exact hx.outOk b' cs (hsub _ _ hb' h).2
    · simp only [upd_same]
      exact hx.outOk b bs hb
/-- A block is made read-only. -/
theorem WR.mark (hx : WR x) {b : Nat} {bs ds : List AV} (hb : hcells x.h b = some bs) {c : Array Value} {e : TypeId} {us r : List Value} (hc : x.w.heap[x.ρ b]? = some (.cells c e (0, 0))) (hcu : c.toList = us ++ r)
    (hV : VRs x.w x.bad x.ρ 0 ds us) :
    WR ⟨x.w, hset x.h b (.ro ds), x.ρ, x.out⟩ ∧ Ext x ⟨x.w, hset x.h b (.ro ds), x.ρ, x.out⟩ ∧ IM x.w (X.bad ⟨x.w, hset x.h b (.ro ds), x.ρ, x.out⟩) x.ρ (x.ρ b) 0 ds := by
  have hbn := hcells_lt hb
  have hsub : ∀ b' cs, hget (hset x.h b (.ro ds)) b' = some (.cells cs) → b ≠ b' ∧ hget x.h b' = some (.cells cs) := by
    intro b' cs h
    by_cases hbb : b = b'
    · subst hbb
      rw [hget_hset_same hbn hx.len] at h
      cases h
    · exact ⟨hbb, by rw [← h, hget_hset_other hbb]⟩
  have hlive : ∀ k, X.live ⟨x.w, hset x.h b (.ro ds), x.ρ, x.out⟩ k → x.live k := by
    rintro k ⟨b', cs, h1, h2⟩
    exact ⟨b', cs, (hsub b' cs h1).2, h2⟩
  have hext : Ext x ⟨x.w, hset x.h b (.ro ds), x.ρ, x.out⟩ :=
    ⟨Nat.le_refl _, rfl, rfl, rfl, fun _ _ _ => rfl, fun i _ h => hlive i h, rfl, fun _ _ => rfl, by simp [hset_n], fun _ _ h => h⟩
  have hnb : ¬ X.bad ⟨x.w, hset x.h b (.ro ds), x.ρ, x.out⟩ (x.ρ b) := by
    unfold hcells at hb
    split at hb
    · rename_i cs' hg
      rintro (ho | ⟨b', cs, h1, h2⟩)
      · exact hx.outOk b cs' hg ho
      · obtain ⟨hne, h3⟩ := hsub b' cs h1
        exact hne (hx.inj b b' cs' cs hg h3 h2.symm)
    · rename_i cs' hg
      obtain ⟨h0, _⟩ := hx.ro b cs' hg
      rintro (ho | hl)
      · exact h0 (.inl ho)
      · exact h0 (.inr (hlive _ hl))
    · cases hb
  have hV' := hV.tr hext.carry.low
  refine ⟨⟨by rw [hset_len, hset_n]; exact hx.len, fun b' cs h => ?_, fun b' cs h => ?_, fun b1 b2 cs1 cs2 h1 h2 hr => hx.inj b1 b2 cs1 cs2 (hsub _ _ h1).2 (hsub _ _ h2).2 hr, fun b' cs h => hx.outOk b' cs (hsub _ _ h).2, hx.outLt, hx.gl.tr hext.carry.low⟩, hext, ?_⟩
  · obtain ⟨c1, e1, us1, h1, h2, h3⟩ := hx.cells b' cs (hsub _ _ h).2
    exact ⟨c1, e1, us1, h1, hext.Vs h2, h3⟩
  · by_cases hbb : b = b'
    · subst hbb
      simp only [hget_hset_same hbn hx.len, Option.some.injEq, ABlk.ro.injEq] at h
      subst h
      exact ⟨hnb, c, e, us, hc, hV', r, hcu⟩
    · simp only [hget_hset_other hbb] at h
      obtain ⟨h0, c1, e1, us1, h1, h2, h3⟩ := hx.ro b' cs h
      refine ⟨?_, c1, e1, us1, h1, h2.tr hext.carry.low, h3⟩
      rintro (ho | hl)
      · exact h0 (.inl ho)
      · exact h0 (.inr (hlive _ hl))
  · refine IM.mk hnb fun i v hv => ?_
    obtain ⟨u, hu, hr⟩ := hV'.get hv
    refine ⟨u, ?_, hr⟩
    rw [Nat.zero_add, cell_of_row _ _ _ _ _ _ hc, ← Array.getElem?_toList, hcu, List.getElem?_append_left (List.getElem?_eq_some_iff.1 hu).1]
    exact hu
end

/-! ### what a value can see is made read-only -/
def Fz (x : X) (h' : AH) : Prop := WR ⟨x.w, h', x.ρ, x.out⟩ ∧ Ext x ⟨x.w, h', x.ρ, x.out⟩ ∧ h'.n = x.h.n ∧ ∀ b, (∃ cs, hcells x.h b = some cs) → ∃ cs, hcells h' b = some cs
theorem Fz.refl {x : X} (hx : WR x) : Fz x x.h := ⟨hx, Ext.refl x, rfl, fun _ h => h⟩
theorem Fz.trans {x : X} {h1 h2 : AH} (a : Fz x h1) (b : Fz ⟨x.w, h1, x.ρ, x.out⟩ h2) : Fz x h2 :=
  ⟨b.1, a.2.1.trans b.2.1, b.2.2.1.trans a.2.2.1, fun i hi => b.2.2.2 i (a.2.2.2 i hi)⟩
theorem hcells_hset {h : AH} (hl : h.l.length = h.n) {b : Nat} (hb : b < h.n) (ds : List AV) (b' : Nat) (hh : ∃ cs, hcells h b' = some cs) : ∃ cs, hcells (hset h b (.ro ds)) b' = some cs := by
  by_cases hbb : b = b'
  · subst hbb
    exact ⟨ds, by unfold hcells; rw [hget_hset_same hb hl]⟩
  · obtain ⟨cs, hcs⟩ := hh
    exact ⟨cs, by unfold hcells; rw [hget_hset_other hbb]; exact hcs⟩
abbrev X.Vp (x : X) (v : AV) (u : Value) : Prop := VR x.w x.bad x.ρ 0 v u
theorem mapS_ok {f : AH → AV → Option (AV × AH)} (hf : ∀ (x : X) (v v' : AV) (u : Value) (h' : AH), WR x → x.V v u → f x.h v = some (v', h') → Fz x h' ∧ X.Vp ⟨x.w, h', x.ρ, x.out⟩ v' u) :
    ∀ (vs vs' : List AV) (x : X) (us : List Value) (h' : AH), WR x → x.Vs vs us → mapS f x.h vs = some (vs', h') → Fz x h' ∧ VRs x.w (X.bad ⟨x.w, h', x.ρ, x.out⟩) x.ρ 0 vs' us
  | [], vs', x, us, h', hx, hV, h => by
    simp only [mapS, Option.some.injEq, Prod.mk.injEq] at h
    obtain ⟨rfl, rfl⟩ := h
    cases hV
    exact ⟨Fz.refl hx, .nil⟩
  | v :: vs, vs', x, us, h', hx, hV, h => by
    cases hV with
    | cons h1 h2 =>
      simp only [mapS] at h
      split at h
      · cases h
      · rename_i y s1 hy
        split at h
        · rename_i r s2 hr
          simp only [Option.some.injEq, Prod.mk.injEq] at h
          obtain ⟨rfl, rfl⟩ := h
          obtain ⟨a1, a2⟩ := hf x v y _ s1 hx h1 hy
          obtain ⟨b1, b2⟩ := mapS_ok hf vs r ⟨x.w, s1, x.ρ, x.out⟩ _ s2 a1.1 (a1.2.1.Vs h2) hr
          exact ⟨a1.trans b1, .cons (a2.tr b1.2.1.carry.low) b2⟩
        · cases h
theorem fz_ok : ∀ (n : Nat) (x : X) (v v' : AV) (u : Value) (h' : AH), WR x → x.V v u → fz n x.h v = some (v', h') → Fz x h' ∧ X.Vp ⟨x.w, h', x.ρ, x.out⟩ v' u
  | 0, _, _, _, _, _, _, _, h => by simp [fz] at h
  | n + 1, x, v, v', u, h', hx, hV, h => by
    have blk : ∀ {b : Nat} {cs ds : List AV} {h1 : AH}, hcells x.h b = some cs → mapS (fz n) x.h cs = some (ds, h1) →
        Fz x (hset h1 b (.ro ds)) ∧ IM x.w (X.bad ⟨x.w, hset h1 b (.ro ds), x.ρ, x.out⟩) x.ρ (x.ρ b) 0 ds := by
      intro b cs ds h1 hb hm
      obtain ⟨c, e, us, h2, h3, r, h4⟩ := hcells_ok hx hb
      obtain ⟨a1, a2⟩ := mapS_ok (fz_ok n) cs ds x us h1 hx h3 hm
      obtain ⟨bs', hb'⟩ := a1.2.2.2 b ⟨cs, hb⟩
      obtain ⟨m1, m2, m3⟩ := WR.mark (x := ⟨x.w, h1, x.ρ, x.out⟩) a1.1 hb' h2 h4 a2
      refine ⟨a1.trans ⟨m1, m2, by simp [hset_n], fun b' hh => ?_⟩, m3⟩
      exact hcells_hset a1.1.len (hcells_lt hb') ds b' hh
    simp only [fz] at h
    split at h
    · rename_i b off
      split at h
      · rename_i cs hb
        split at h
        · rename_i ds h1 hm
          simp only [Option.some.injEq, Prod.mk.injEq] at h
          obtain ⟨rfl, rfl⟩ := h
          obtain ⟨a1, a2⟩ := blk hb hm
          cases hV
          refine ⟨a1, .ip _ _ _ ?_⟩
          have := a2.drop off
          rwa [Nat.zero_add] at this
        · cases h
      · cases h
    · rename_i b off sz k cap
      split at h
      · rename_i cs hb
        split at h
        · rename_i ds h1 hm
          split at h
          · rename_i es he
            simp only [Option.some.injEq, Prod.mk.injEq] at h
            obtain ⟨rfl, rfl⟩ := h
            obtain ⟨a1, a2⟩ := blk hb hm
            obtain ⟨h5, h6⟩ := takeX_eq he
            cases hV with
            | sr _ _ _ _ c _ hb1 h7 h8 h9 =>
              refine ⟨a1, ?_⟩
              have him := (a2.drop off).take (k * sz)
              rw [Nat.zero_add, ← h5] at him
              cases hes : es with
              | nil => exact .sl0 _ _ _ _ h7 h8
              | cons d es' => rw [hes] at him; exact .sl _ _ _ _ _ _ _ h7 h8 him
          · cases h
        · cases h
      · cases h
    · rename_i f a c
      split at h
      · rename_i a1 h1 ha
        split at h
        · rename_i c1 h2 hc
          simp only [Option.some.injEq, Prod.mk.injEq] at h
          obtain ⟨rfl, rfl⟩ := h
          cases hV with
          | func _ _ a' _ c' q1 q2 =>
            obtain ⟨b1, b2⟩ := mapS_ok (fz_ok n) a a1 x a' h1 hx q1 ha
            obtain ⟨d1, d2⟩ := mapS_ok (fz_ok n) c c1 ⟨x.w, h1, x.ρ, x.out⟩ c' h2 b1.1 (b1.2.1.Vs q2) hc
            exact ⟨b1.trans d1, .func _ _ _ _ _ (b2.tr d1.2.1.carry.low) d2⟩
        · cases h
      · cases h
    · rename_i t y
      split at h
      · rename_i y1 h1 hy
        simp only [Option.some.injEq, Prod.mk.injEq] at h
        obtain ⟨rfl, rfl⟩ := h
        cases hV with
        | ifc _ _ u' q =>
          obtain ⟨b1, b2⟩ := fz_ok n x y y1 u' h1 hx q hy
          exact ⟨b1, .ifc _ _ _ b2⟩
      · cases h
    · rename_i cs
      split at h
      · rename_i ds h1 hm
        simp only [Option.some.injEq, Prod.mk.injEq] at h
        obtain ⟨rfl, rfl⟩ := h
        cases hV with
        | agg _ us q =>
          obtain ⟨b1, b2⟩ := mapS_ok (fz_ok n) cs ds x us h1 hx q hm
          exact ⟨b1, .agg _ _ b2⟩
      · cases h
    · rename_i cs
      split at h
      · rename_i ds h1 hm
        simp only [Option.some.injEq, Prod.mk.injEq] at h
        obtain ⟨rfl, rfl⟩ := h
        cases hV with
        | tup _ us q =>
          obtain ⟨b1, b2⟩ := mapS_ok (fz_ok n) cs ds x us h1 hx q hm
          exact ⟨b1, .tup _ _ b2⟩
      · cases h
    · rename_i hn1 hn2 hn3 hn4 hn5 hn6
      simp only [Option.some.injEq, Prod.mk.injEq] at h
      obtain ⟨rfl, rfl⟩ := h
      refine ⟨Fz.refl hx, ?_⟩
      cases hV with
      | any => exact .any _
      | bool => exact .bool _
      | int => exact .int _ _
      | str => exact .str _
      | nilp => exact .nilp
      | ptr b off hb => exact absurd rfl (hn1 _ _)
      | ip b off cs h => exact .ip _ _ _ h
      | nils => exact .nils
      | sl0 m a c cap h1 h2 => exact .sl0 _ _ _ _ h1 h2
      | sl m b off c d cs cap h1 h2 h3 => exact .sl _ _ _ _ _ _ _ h1 h2 h3
      | sr b off sz m c cap hb h1 h2 h3 => exact absurd rfl (hn2 _ _ _ _ _)
      | func f a a' c c' h1 h2 => exact absurd rfl (hn3 _ _ _)
      | nilf => exact .nilf
      | ifc t v u h => exact absurd rfl (hn4 _ _)
      | nili => exact .nili
      | agg cs us h => exact absurd rfl (hn5 _)
      | tup cs us h => exact absurd rfl (hn6 _)
      | sstr ne s hs => exact .sstr _ _ hs
      | siv k lo hi i h1 h2 => exact .siv _ _ _ _ h1 h2
theorem fzL_ok {x : X} {vs vs' : List AV} {us : List Value} {h' : AH} (hx : WR x) (hV : x.Vs vs us) (h : fzL x.h vs = some (vs', h')) : Fz x h' ∧ VRs x.w (X.bad ⟨x.w, h', x.ρ, x.out⟩) x.ρ 0 vs' us :=
  mapS_ok (fz_ok fzDepth) vs vs' x us h' hx hV h
end Go.Ev

/-
The abstract evaluator: append, copy, and the lemma on all operations.
-/
import Derived.Test.YtpolhfiikbmplaaGreatDoorEv8
namespace Go.Ev
section
variable {P : Program} {E : Env} {x : X}
theorem hsame_drew (w : World) : w.drew.heap = w.heap := rfl
/-- A new block out of an append. -/
theorem append_new (hx : WR x) {t1 t2 ty e : TypeId} {d2 : TypeDesc} {ei : TI} (h1 : P.underlying t1 = some (.slice e)) (h2 : P.underlying t2 = some d2) (hni : ∀ k, d2 ≠ .int k) (h3 : TyOk P e ei) (base : Option Addr) (n c m : Nat) (u : Value)
    {os ns : List AV} {olds news : List Value} (hlen : (Builtin.lenOf u).run P x.w = .ok m x.w) (hf : (Builtin.firstCells ei.sz m u).run P x.w.drew = .ok news.toArray x.w.drew)
    (ho : (Builtin.firstCells ei.sz n (.slice base n c)).run P x.w.drew = .ok olds.toArray x.w.drew) (hroom : c < n + m) (h63 : n + m ≤ 9223372036854775807) (hb : (n + m) * ei.bytes ≤ 140737488355328)
    (hVo : x.Vs os olds) (hVn : x.Vs ns news) (hlo : olds.length = n * ei.sz) (hln : news.length = m * ei.sz) :
    OpR P x (.val (.sr x.h.n 0 ei.sz (n + m) none) (hnew x.h (.cells (os ++ ns)))) ((do pure (.value (← Builtin.append_ #[t1, t2] ty #[.slice base n c, u])) : Sem Next).run P x.w) := by
  obtain ⟨rest, hr, hrs⟩ := run_append_out (P := P) (ty := ty) h1 h2 hni h3 base n c m u olds news x.w hlen hf ho hroom h63 hb
  have hc : (olds.toArray ++ news.toArray ++ rest).toList = (olds ++ news) ++ rest.toList := by simp
  obtain ⟨ρ', a1, a2, a3, a4⟩ := alloc_ok hx (hVo.app hVn) hc (w' := x.w.drew.alloc (.cells (olds.toArray ++ news.toArray ++ rest) e)) rfl rfl rfl rfl
  refine v_of hr a2 a3 ?_
  have a4' := a4
  rw [← a1] at a4'
  rw [← a1]
  have hge := grownCap_ge x.w (n + m) c e
  refine .sr _ _ _ _ _ _ (by simp [hnew]) hge (fun k hk => by simp at hk) ⟨_, _, a4', ?_⟩
  simp only [Array.size_append, List.size_toArray, hlo, hln, hrs, Nat.zero_add, ← Nat.add_mul]
  exact Nat.mul_le_mul_right _ (by omega)
theorem aAppend_ok (hE : TysOk P E) (hx : WR x) {t1 t2 ty : TypeId} {s a v : AV} {us ua : Value} {h' : AH} (h : aAppend E x.h t1 t2 s a = .val v h') (hs : x.V s us) (ha : x.V a ua) :
    OpR P x (.val v h') ((do pure (.value (← Builtin.append_ #[t1, t2] ty #[us, ua])) : Sem Next).run P x.w) := by
  unfold aAppend at h
  split at h
  · rename_i e _ _ _ ti2 ht1 ht2
    have h1 := (hE _ _ ht1).slice rfl
    obtain ⟨d2, h2, hk2⟩ := (hE _ _ ht2).und
    split at h
    · cases h
    · rename_i ei hei hni
      have h3 := hE _ _ hei
      have hni' : ∀ k, d2 ≠ .int k := by
        intro k e
        subst e
        cases hq : ti2.k <;> rw [hq] at hk2 <;> simp [kOk] at hk2
        exact hni _ hq
      split at h
      · cases h
      · rename_i sz1 hsz1
        split at h
        · rename_i ns m hns hm
          obtain ⟨news, b1, b2, b3, b4⟩ := elems_ok (P := P) hx hns hm ha
          have b4d := b4 x.w.drew rfl m (Nat.le_refl _)
          have b4w := b4 x.w rfl m (Nat.le_refl _)
          rw [List.take_of_length_le (by omega)] at b4d b4w
          split at h
          · -- nil
            cases hs
            split at h
            · simp only [OR.val.injEq] at h
              obtain ⟨rfl, rfl⟩ := h
              have hn0 : news = [] := List.eq_nil_of_length_eq_zero (by simpa using b2)
              subst hn0
              exact v_of (run_append_in (P := P) (ty := ty) h1 h2 hni' h3 none 0 0 0 ua [] x.w x.w (b3 _) b4w (by omega) (fun _ h => by cases h) (fun _ => rfl)) hx (Ext.refl x) .nils
            · rename_i m'
              split at h
              · rename_i hc
                simp only [OR.val.injEq] at h
                obtain ⟨rfl, rfl⟩ := h
                have := append_new (P := P) (ty := ty) hx h1 h2 hni' h3 none 0 0 (m' + 1) ua (os := []) (olds := []) (b3 _) b4d (by simp [Builtin.firstCells]) (by omega) (by omega) (by rw [Nat.zero_add]; exact hc.1) .nil b1 (by simp) b2
                simpa using this
              · cases h
          · rename_i n cs cap
            split at h
            · simp only [OR.val.injEq] at h
              obtain ⟨rfl, rfl⟩ := h
              have hn0 : news = [] := List.eq_nil_of_length_eq_zero (by simpa using b2)
              subst hn0
              cases hs with
              | sl0 _ p c _ q1 q2 =>
                exact v_of (run_append_in (P := P) (ty := ty) h1 h2 hni' h3 p n c 0 ua [] x.w x.w (b3 _) b4w (by omega) (fun _ _ => rfl) (fun _ => rfl)) hx (Ext.refl x) (.sl0 _ _ _ _ (by omega) q2)
              | sl _ b off c d cs' _ q1 q2 q3 =>
                exact v_of (run_append_in (P := P) (ty := ty) h1 h2 hni' h3 _ n c 0 ua [] x.w x.w (b3 _) b4w (by omega) (fun _ _ => rfl) (fun _ => rfl)) hx (Ext.refl x) (.sl _ _ _ _ _ _ _ (by omega) q2 q3)
            · rename_i m'
              split at h
              · rename_i c
                split at h
                · rename_i hc
                  obtain ⟨c1, c2, c3, c4, c5, c6⟩ := hc
                  simp only [OR.val.injEq] at h
                  obtain ⟨rfl, rfl⟩ := h
                  have hse : elemsOf x.h ei.sz (.sl n cs (some c)) = some cs := by
                    simp only [elemsOf]
                    rw [show takeX (n * ei.sz) cs = some cs by rw [← c4]; exact takeX_all cs, if_pos c4]
                  obtain ⟨olds, o1, o2, o3, o4⟩ := elems_ok (P := P) hx hse rfl hs
                  have o4d := o4 x.w.drew rfl n (Nat.le_refl _)
                  rw [List.take_of_length_le (by omega)] at o4d
                  obtain ⟨p, rfl⟩ : ∃ p, us = .slice p n c := by
                    cases hs with
                    | sl0 _ p c' _ q1 q2 => rw [q2 c rfl]; exact ⟨_, rfl⟩
                    | sl _ b off c' d cs' _ q1 q2 q3 => rw [q2 c rfl]; exact ⟨_, rfl⟩
                  exact append_new (P := P) (ty := ty) hx h1 h2 hni' h3 p n c (m' + 1) ua (b3 _) b4d o4d c1 c3 c2 o1 b1 o2 b2
                · cases h
              · cases h
          · rename_i b off sz n cap
            split at h
            · rename_i hsz
              subst hsz
              split at h
              · simp only [OR.val.injEq] at h
                obtain ⟨rfl, rfl⟩ := h
                have hn0 : news = [] := List.eq_nil_of_length_eq_zero (by simpa using b2)
                subst hn0
                cases hs with
                | sr _ _ _ _ c _ hb q1 q2 q3 =>
                  exact v_of (run_append_in (P := P) (ty := ty) h1 h2 hni' h3 _ n c 0 ua [] x.w x.w (b3 _) b4w (by omega) (fun _ _ => rfl) (fun _ => rfl)) hx (Ext.refl x) (.sr _ _ _ _ _ _ hb (by omega) q2 q3)
              · rename_i m'
                split at h
                · rename_i bs hbs
                  split at h
                  · rename_i old hold
                    split at h
                    · rename_i hc
                      obtain ⟨c1, c2, c3⟩ := hc
                      simp only [OR.val.injEq] at h
                      obtain ⟨rfl, rfl⟩ := h
                      cases hs with
                      | sr _ _ _ _ c _ hb q1 q2 q3 =>
                        obtain ⟨cur, e', vs, w1, w2, r, w3⟩ := hx.cells b bs hbs
                        obtain ⟨g1, g2⟩ := takeX_eq hold
                        have hVo : x.Vs old (vs.take (n * ei.sz)) := by rw [g1, List.drop_zero]; exact w2.take _
                        have hlo : (vs.take (n * ei.sz)).length = n * ei.sz := by rw [← hVo.length, g2]
                        by_cases hroom : n + (m' + 1) ≤ c
                        · -- in place
                          obtain ⟨cur', e'', w1', w4⟩ := q3
                          rw [w1] at w1'
                          cases w1'
                          have hmul : n * ei.sz + (m' + 1) * ei.sz ≤ c * ei.sz := by rw [← Nat.add_mul]; exact Nat.mul_le_mul_right _ hroom
                          have b2 : news.length = (m' + 1) * ei.sz := b2
                          have hst := run_storeCells_at P (x.ρ b) (n * ei.sz) e' news 0 cur x.w w1 (by omega) (b1.one c3)
                          simp only [Nat.add_zero] at hst
                          have hvl : n * ei.sz ≤ vs.length := by rw [List.length_take] at hlo; omega
                          have hnewc : (cur.toList.take (n * ei.sz) ++ news ++ cur.toList.drop (n * ei.sz + news.length)) = (vs.take (n * ei.sz) ++ news) ++ cur.toList.drop (n * ei.sz + news.length) := by
                            rw [w3, List.take_append_of_le_length hvl]
                          have hsz' : (cur.toList.take (n * ei.sz) ++ news ++ cur.toList.drop (n * ei.sz + news.length)).toArray.size = cur.size := by simp; omega
                          obtain ⟨p1, p2⟩ := hx.poke hbs w1 hsz' (hVo.app b1) (r := cur.toList.drop (n * ei.sz + news.length)) (by simpa using hnewc)
                            (w' := x.w.setRow (x.ρ b) (cur.toList.take (n * ei.sz) ++ news ++ cur.toList.drop (n * ei.sz + news.length)).toArray) (by simp [World.setRow]) (setRow_heap _ _ _ _ _ _ w1) (fun k hk => setRow_other _ _ _ _ hk) rfl rfl rfl
                          have hbn := hget_lt hbs
                          obtain ⟨r1, r2⟩ := p1.renum (b := b) (bs := old ++ ns) (hget_hset_same hbn hx.len)
                          have hdead : hset (hset x.h b (.cells (old ++ ns))) b .dead = hset x.h b .dead := by
                            unfold hset
                            rw [show Nat.blt b x.h.n = true by simpa [Nat.blt_eq] using hbn]
                            simp only [show Nat.blt b x.h.n = true by simpa [Nat.blt_eq] using hbn, setNth_eq, List.set_set]
                          simp only [hdead, hset_n] at r1 r2
                          refine v_of (run_append_in (P := P) (ty := ty) h1 h2 hni' h3 _ n c (m' + 1) ua news x.w _ (b3 _) b4w hroom (fun a ha => ?_) (fun h => by cases h)) r1 (p2.trans r2) ?_
                          · cases ha
                            rw [Addr.add_lit, Nat.zero_add]
                            exact hst
                          · have hρ : (⟨x.ρ b, 0, none⟩ : Addr) = ⟨upd x.ρ x.h.n (x.ρ b) x.h.n, 0, none⟩ := by rw [upd_same]
                            rw [hρ]
                            refine .sr _ _ _ _ _ _ (by simp [hnew, hset_n]) hroom (fun k hk => by simp at hk) ?_
                            show Room _ (upd x.ρ x.h.n (x.ρ b) x.h.n) _
                            rw [upd_same]
                            refine ⟨_, e', setRow_heap _ _ _ _ _ _ w1, ?_⟩
                            rw [hsz']
                            exact w4
                        · -- a new block
                          have hod : (Builtin.firstCells ei.sz n (.slice (some ⟨x.ρ b, 0, none⟩) n c)).run P x.w.drew = .ok (vs.take (n * ei.sz)).toArray x.w.drew := by
                            have := run_loadCells_at (P := P) (w := x.w.drew) (b := x.ρ b) (off := 0) (us := vs.take (n * ei.sz)) (fun i y hy => by
                              rw [List.getElem?_take] at hy
                              split at hy
                              · rw [Nat.zero_add, cell_heap (hsame_drew x.w), cell_of_row _ _ _ _ _ _ w1, ← Array.getElem?_toList, w3, List.getElem?_append_left (List.getElem?_eq_some_iff.1 hy).1]
                                exact hy
                              · cases hy)
                            rw [hlo] at this
                            simpa [Builtin.firstCells] using this
                          obtain ⟨k1, k2, _⟩ := hx.kill hbs
                          have hk : (hset x.h b .dead).n = x.h.n := hset_n _ _ _
                          have := append_new (P := P) (ty := ty) k1 h1 h2 hni' h3 (some ⟨x.ρ b, 0, none⟩) n c (m' + 1) ua (b3 _) b4d hod (by omega) c2 c1 (k2.Vs hVo) (k2.Vs b1) hlo b2
                          simp only [hk] at this
                          obtain ⟨u, w', ρ', z1, z2, z3, z4⟩ := this
                          exact ⟨u, w', ρ', z1, z2, k2.trans z3, z4⟩
                    · cases h
                  · cases h
                · rename_i bs hbs
                  split at h
                  · rename_i old c0 hold
                    split at h
                    · rename_i hc
                      obtain ⟨c1, c2, c3, c4⟩ := hc
                      simp only [OR.val.injEq] at h
                      obtain ⟨rfl, rfl⟩ := h
                      cases hs with
                      | sr _ _ _ _ c _ hb q1 q2 q3 =>
                        obtain ⟨_, cur, e', vs, w1, w2, r, w3⟩ := hx.ro b bs hbs
                        obtain ⟨g1, g2⟩ := takeX_eq hold
                        have hVo : x.Vs old ((vs.drop off).take (n * ei.sz)) := by rw [g1]; exact (w2.up _).drop off |>.take _
                        have hlo : ((vs.drop off).take (n * ei.sz)).length = n * ei.sz := by rw [← hVo.length, g2]
                        have hod : (Builtin.firstCells ei.sz n (.slice (some ⟨x.ρ b, off, none⟩) n c)).run P x.w.drew = .ok ((vs.drop off).take (n * ei.sz)).toArray x.w.drew := by
                          have := run_loadCells_at (P := P) (w := x.w.drew) (b := x.ρ b) (off := off) (us := (vs.drop off).take (n * ei.sz)) (fun i y hy => by
                            rw [List.getElem?_take] at hy
                            split at hy
                            · rw [List.getElem?_drop] at hy
                              rw [cell_heap (hsame_drew x.w), cell_of_row _ _ _ _ _ _ w1, ← Array.getElem?_toList, w3, List.getElem?_append_left (List.getElem?_eq_some_iff.1 hy).1]
                              exact hy
                            · cases hy)
                          rw [hlo] at this
                          simpa [Builtin.firstCells] using this
                        have hcc := q2 c0 rfl
                        exact append_new (P := P) (ty := ty) hx h1 h2 hni' h3 (some ⟨x.ρ b, off, none⟩) n c (m' + 1) ua (b3 _) b4d hod (by omega) c3 c2 hVo b1 hlo b2
                    · cases h
                  · cases h
                · cases h
            · cases h
          · cases h
        · cases h
    · cases h
  · cases h
end
end Go.Ev

/-
The abstract evaluator: regions that draw their order, in the model.
-/
import Derived.Test.YtpolhfiikbmplaaGreatDoorEv12
namespace Go.Ev
section
variable {P : Program} {E : Env} {x : X} {call : FuncId → List AV → AH → CRes}
theorem VR.not_bool {w : World} {bad : Nat → Prop} {ρ : Nat → Nat} {n : Nat} {v : AV} {u : Value} (h : VR w bad ρ n v u) (h1 : ∀ b, v ≠ .bool b) (h2 : v ≠ .any) (b : Bool) : u ≠ .bool b := by
  cases h with
  | any => exact absurd rfl h2
  | bool b => exact absurd rfl (h1 b)
  | _ => intro e; cases e
theorem wantedA_ok {ops : Array Oper} {fr : List AV} {tmps : Array Value} {w : World} {bad : Nat → Prop} {ρ : Nat → Nat} {n : Nat} (hV : VRs w bad ρ n fr tmps.toList) {o : Oper} {b : Bool} (h : wantedA ops.toList fr o = some b) : Region.wanted o (yielded ops tmps) = b := by
  unfold wantedA at h
  unfold Region.wanted
  split at h
  · rename_i hg
    simp only [Option.some.injEq] at h
    subst h
    rw [hg]
  · rename_i j want hg
    rw [hg]
    simp only [nth_eq, Array.getElem?_toList] at h
    unfold yielded
    simp only
    split at h
    · rename_i oj hoj
      rw [hoj]
      simp only [Option.bind_some]
      split at h
      · rename_i d hd
        rw [hd]
        simp only [Option.bind_some]
        split at h
        · rename_i b' hb'
          obtain ⟨u, hu, hr⟩ := hV.get hb'
          cases hr
          rw [Array.getElem?_toList] at hu
          rw [hu]
          simp only [Option.some.injEq] at h
          subst h
          simp
        · cases h
        · rename_i hn1 hn2
          simp only [Option.some.injEq] at h
          subst h
          cases ht : tmps[d]? with
          | none => simp
          | some u =>
            have hu : tmps.toList[d]? = some u := by rw [Array.getElem?_toList]; exact ht
            obtain ⟨v, hv, hr⟩ := hV.get' hu
            have := hr.not_bool (fun b e => hn1 b (by rw [hv, e])) (fun e => hn2 (by rw [hv, e]))
            cases u with
            | bool b => exact absurd rfl (this b)
            | _ => simp
      · rename_i hd
        simp only [Option.some.injEq] at h
        subst h
        rw [hd]
        simp
    · rename_i hoj
      simp only [Option.some.injEq] at h
      subst h
      rw [hoj]
      simp
theorem VRs.put {w : World} {bad : Nat → Prop} {ρ : Nat → Nat} {n : Nat} {fr : List AV} {a : Act} (h : VRs w bad ρ n fr a.tmps.toList) (dst : Option Tmp) {v : AV} {u : Value} (hv : VR w bad ρ n v u) : VRs w bad ρ n (putA fr dst v) (a.put dst u).tmps.toList := by
  cases dst with
  | none => exact h
  | some d =>
    simp only [putA, setNth_eq, Act.put, Array.toList_setIfInBounds]
    exact h.set d hv
theorem evA_ok {w : World} {bad : Nat → Prop} {ρ : Nat → Nat} {n : Nat} {fr : List AV} {a : Act} (hg : Gl w bad ρ) (h : VRs w bad ρ n fr a.tmps.toList) (y : Operand) : VR w bad ρ n (evA fr y) (a.eval y) := by
  cases y with
  | tmp t =>
    simp only [evA, Act.eval, nth_eq]
    cases ht : fr[t]? with
    | some v =>
      obtain ⟨u, hu, hr⟩ := h.get ht
      rw [Array.getElem?_toList] at hu
      simpa [hu] using hr
    | none =>
      have hl := h.length
      have : a.tmps[t]? = none := by
        rw [← Array.getElem?_toList, List.getElem?_eq_none_iff]
        rw [List.getElem?_eq_none_iff] at ht
        omega
      simp only [Array.getD_eq_getD_getElem?, this, Option.getD_none]
      exact .tup [] [] .nil
  | const v => exact ofVal_VR v
  | global g =>
    simp only [evA, Act.eval]
    split
    · rename_i cs hcs; exact .ip _ _ _ (hg g cs hcs)
    · exact .any _
  | func f => exact .func (.func f) [] [] [] [] .nil .nil
theorem ip_new (hx : WR x) {acs : List AV} {us : List Value} {c : Array Value} {e : TypeId} (hV : VRs x.w x.bad x.ρ 0 acs us) (hc : c.toList = us) :
    WR ⟨{ x.w with heap := x.w.heap.push (.cells c e) }, x.h, x.ρ, x.out⟩ ∧ Ext x ⟨{ x.w with heap := x.w.heap.push (.cells c e) }, x.h, x.ρ, x.out⟩ ∧
      IM { x.w with heap := x.w.heap.push (.cells c e) } (X.bad ⟨{ x.w with heap := x.w.heap.push (.cells c e) }, x.h, x.ρ, x.out⟩) x.ρ x.w.heap.size 0 acs := by
  obtain ⟨g1, g2⟩ := hx.grow (w' := { x.w with heap := x.w.heap.push (.cells c e) }) (by simp) rfl rfl rfl (fun i hi => by rw [Array.getElem?_push, if_neg (by omega)])
  refine ⟨g1, g2, IM.mk ?_ fun i v hv => ?_⟩
  · rintro (ho | hl)
    · exact absurd (hx.outLt _ ho) (Nat.lt_irrefl _)
    · obtain ⟨b, cs, h1, h2⟩ := hl
      have := hx.rho_lt h1
      simp only at h2
      omega
  · obtain ⟨u, hu, hr⟩ := (hV.tr g2.carry.low).get hv
    refine ⟨u, ?_, hr⟩
    rw [Nat.zero_add, cell_of_row _ _ _ c e (0, 0) (by simp), ← Array.getElem?_toList, hc]
    exact hu
theorem quiet_ok (hE : TysOk P E) (hc : CallSound P call) (ho : OrcSound P E) (hx : WR x) {fr : List AV} {a : Act} (hV : x.Vs fr a.tmps.toList) {o : Oper} {v : AV} (h : quietVal E call (evA fr) x.h o.op = some v)
    {K : Act → World → Prop} {Q : Exit → Act → World → Prop} (hK : ∀ w' u, WR ⟨w', x.h, x.ρ, x.out⟩ → Ext x ⟨w', x.h, x.ρ, x.out⟩ → X.V ⟨w', x.h, x.ρ, x.out⟩ v u → K (a.put o.dst u) w') : o.wp P a x.w K Q := by
  have hev := fun y => evA_ok hx.gl hV y
  have rdr : aopR E (evA fr) x.h o.op = some v → o.wp P a x.w K Q := fun hr => by
    obtain ⟨y, h1, h2⟩ := aopR_ok (P := P) hE hx hev o hr
    unfold Oper.wp
    rw [h1]
    exact hK x.w y hx (Ext.refl x) h2
  unfold quietVal at h
  split at h
  · rename_i e hop
    split at h
    · rename_i i hi
      simp only [Option.some.injEq] at h
      subst h
      obtain ⟨z, hz, hz2, hz3, _⟩ := (hE _ _ hi).run_zeroValue x.w
      obtain ⟨g1, g2, g3⟩ := ip_new hx (zero_Vs hz2) (c := z.cells) (e := e) rfl
      have hrun : (execOp a.eval o).run P x.w = .ok (.value (.pointer (some ⟨x.w.heap.size, 0, none⟩))) { x.w with heap := x.w.heap.push (.cells z.cells e) } := by
        unfold execOp
        rw [hop]
        simp only [Instr.alloc, Sem.run_bind, hz, Result.andThen_ok, newVar, run_newRow, Sem.run_pure]
      unfold Oper.wp
      rw [hrun]
      exact hK _ _ g1 g2 (.ip _ _ _ g3)
    · cases h
  · rename_i e y hop
    split at h
    · cases h
    · rename_i hne
      split at h
      · rename_i hlow
        simp only [Option.some.injEq] at h
        subst h
        have hcs := (hev y).cells fun e => hne e
        obtain ⟨g1, g2, g3⟩ := ip_new hx (lowRefs_ok hcs hlow) (c := (a.eval y).cells) (e := e) rfl
        have hrun : (execOp a.eval o).run P x.w = .ok (.value (.pointer (some ⟨x.w.heap.size, 0, none⟩))) { x.w with heap := x.w.heap.push (.cells (a.eval y).cells e) } := by
          unfold execOp
          rw [hop]
          simp only [Instr.box, Sem.run_bind, newVar, run_newRow, Result.andThen_ok, Sem.run_pure]
        unfold Oper.wp
        rw [hrun]
        exact hK _ _ g1 g2 (.ip _ _ _ g3)
      · cases h
  · rename_i t len parts hop
    rw [hop] at h
    split at h
    · rename_i b off sz n cap h1 hq
      split at h
      · rename_i cs bl hl
        split at h
        · rename_i hlow
          simp only [Option.some.injEq] at h
          subst h
          simp only [aop] at hq
          split at hq
          · rename_i e _ _ _ ht
            split at hq
            · rename_i i hi
              split at hq
              · cases hq
              · rename_i sz1 hsz1
                split at hq
                · rename_i hlen
                  split at hq
                  · rename_i cs' hcs
                    simp only [OR.val.injEq, AV.sr.injEq] at hq
                    obtain ⟨⟨rfl, rfl, rfl, rfl, rfl⟩, rfl⟩ := hq
                    simp only [hnew, List.cons.injEq, ABlk.cells.injEq] at hl
                    obtain ⟨rfl, rfl⟩ := hl
                    have hp : PV x (parts.toList.map fun p => (p.1, evA fr p.2)) (parts.toList.map fun p => (p.1, a.eval p.2)) := PV.map (evA fr) a.eval hev parts.toList
                    obtain ⟨c, r1, r2, r3⟩ := buildSlice_ok (P := P) hE ht rfl hi hp (by omega) (by rw [hsz1]; exact hlen) hcs
                    obtain ⟨g1, g2, g3⟩ := ip_new hx (lowRefs_ok r2 hlow) (c := c) (e := e) rfl
                    have harr : (parts.toList.map fun p => (p.1, a.eval p.2)).toArray = parts.map fun p => (p.1, a.eval p.2) := by
                      apply Array.ext'
                      simp
                    rw [harr] at r1
                    have hrun : (execOp a.eval o).run P x.w = .ok (.value (.slice (some ⟨x.w.heap.size, 0, none⟩) len len)) { x.w with heap := x.w.heap.push (.cells c e) } := by
                      unfold execOp
                      rw [hop]
                      simp only [Sem.run_bind, r1, Result.andThen_ok, Sem.run_pure]
                    unfold Oper.wp
                    rw [hrun]
                    refine hK _ _ g1 g2 ?_
                    cases cs' with
                    | nil => exact .sl0 _ _ _ _ (Nat.le_refl _) (fun k hk => by simpa using hk)
                    | cons d cs'' => exact .sl _ _ _ _ _ _ _ (Nat.le_refl _) (fun k hk => by simpa using hk) g3
                  · cases hq
                · cases hq
            · cases hq
          · cases hq
        · cases h
      · cases h
    · cases h
  · rename_i c hop
    split at h
    · rename_i f hcal
      split at h
      · rename_i g args hq
        split at h
        · rename_i hm hlow
          split at h
          · rename_i v' h1 hp
            simp only [Option.some.injEq] at h
            subst h
            have hl : x.Vs (c.args.toList.map (evA fr)) (c.args.toList.map a.eval) := VRs.map fun y _ => hev y
            obtain ⟨vs, r1, r2⟩ := aCallVal_ok (P := P) hq (hev f) hl
            obtain ⟨q1, q2⟩ := pureCall_ok hc ho hx (lowRefs_ok r2 hlow) hp (by simp)
            have hrun : (execOp a.eval o).run P x.w = .ok (.enter g vs.toArray) x.w := by
              rw [← q1.run vs.toArray x.w, ← r1]
              unfold execOp
              rw [hop]
              have harr : (c.args.toList.map a.eval).toArray = c.args.map a.eval := by apply Array.ext'; simp
              simp only [resolve, hcal, harr]
            unfold Oper.wp
            rw [hrun]
            show Calls P g vs.toArray x.w _
            refine q2.mono fun e w' hh => ?_
            obtain ⟨u, rfl, e2, e3, e4⟩ := hh
            exact hK w' u e2 e3 (e4.up _)
          · cases h
        · cases h
      · cases h
    · exact rdr h
    · exact rdr h
    · exact rdr h
    · cases h
  · exact rdr h
end

/-! ### variables that a region makes: outside the abstract heap until the region is done -/
section
variable {x x0 : X} {s : DS} {a : Act} {pb : Nat → Nat} {ds : List Deferred}
theorem WR.side (hx : WR x) {w' : World} {out' : Nat → Prop} (hb : ∀ i, i < x.w.heap.size → ¬ x.out i → w'.heap[i]? = x.w.heap[i]?)
    (h2 : ∀ k, out' k → x.out k ∨ x.w.heap.size ≤ k) (h3 : ∀ k, out' k → k < w'.heap.size) (hr : ∀ k m, Room x.w k m → Room w' k m) :
    WR ⟨w', x.h, x.ρ, out'⟩ ∧ Carry x.w x.bad x.ρ x.h.n w' (X.bad ⟨w', x.h, x.ρ, out'⟩) x.ρ x.h.n := by
  have hbad : ∀ k, k < x.w.heap.size → ¬ x.bad k → ¬ X.bad ⟨w', x.h, x.ρ, out'⟩ k := by
    rintro k hk hn (ho | hl)
    · rcases h2 k ho with h | h
      · exact hn (.inl h)
      · omega
    · exact hn (.inr hl)
  have hcar : Carry x.w x.bad x.ρ x.h.n w' (X.bad ⟨w', x.h, x.ρ, out'⟩) x.ρ x.h.n := by
    refine ⟨fun b off u hn hc => ?_, fun _ _ => rfl, Nat.le_refl _, hr⟩
    have hlt := cell_lt hc
    refine ⟨?_, hbad b hlt hn⟩
    rw [World.cell?_of_block (w := x.w) (hb b hlt fun ho => hn (.inl ho))]
    exact hc
  refine ⟨⟨hx.len, fun b cs h => ?_, fun b cs h => ?_, hx.inj, fun b cs h => ?_, h3, hx.gl.tr hcar.low⟩, hcar⟩
  · obtain ⟨c, e, us, h1, h4, h5⟩ := hx.cells b cs h
    exact ⟨c, e, us, by rw [hb _ (hx.rho_lt h) (hx.outOk b cs h)]; exact h1, h4.tr hcar, h5⟩
  · obtain ⟨h0, c, e, us, h1, h4, h5⟩ := hx.ro b cs h
    have hlt : x.ρ b < x.w.heap.size := (Array.getElem?_eq_some_iff.1 h1).1
    exact ⟨hbad _ hlt h0, c, e, us, by rw [hb _ hlt fun ho => h0 (.inl ho)]; exact h1, h4.tr hcar.low, h5⟩
  · intro ho
    rcases h2 _ ho with h' | h'
    · exact hx.outOk b cs h h'
    · exact absurd (hx.rho_lt h) (Nat.not_lt.2 h')
structure DI (x0 x : X) (s : DS) (a : Act) (pb : Nat → Nat) (ds : List Deferred) : Prop where
  wr : WR x
  h : x.h = s.h
  out : ∀ k, x.out k ↔ x0.out k ∨ ∃ d cs, s.pf[d]? = some (.agg cs) ∧ pb d = k
  fr : x.Vs s.fr a.tmps.toList
  pend : ∀ d cs, s.pf[d]? = some (.agg cs) → a.tmps.toList[d]? = some (.pointer (some ⟨pb d, 0, none⟩)) ∧ x0.w.heap.size ≤ pb d ∧ ∃ c e, x.w.heap[pb d]? = some (.cells c e (0, 0)) ∧ x.Vs cs c.toList
  inj : ∀ d d' cs cs', s.pf[d]? = some (.agg cs) → s.pf[d']? = some (.agg cs') → pb d = pb d' → d = d'
  ext : Ext x0 ⟨x.w, x.h, x.ρ, x0.out⟩
  dfr : a.defers = ds
  len : s.pf.length ≤ s.fr.length
theorem putA_length (fr : List AV) (dst : Option Tmp) (v : AV) : (putA fr dst v).length = fr.length := by cases dst <;> simp [putA, setNth_eq]
theorem Ext.restrict {x y : X} (h : Ext x y) (o : Nat → Prop) : Ext ⟨x.w, x.h, x.ρ, o⟩ ⟨y.w, y.h, y.ρ, o⟩ :=
  ⟨h.size, h.os, h.tape, h.output, h.blk, h.live, rfl, h.ren, h.le, h.room⟩
theorem freeD_ne {pf : List AV} {dst : Option Tmp} (h : freeD pf dst = true) {d : Nat} {cs : List AV} (hd : pf[d]? = some (.agg cs)) : dst ≠ some d := by
  rintro rfl
  simp only [freeD, nth_eq, hd, isPend] at h
  cases h
theorem put_get_ne {a : Act} {dst : Option Tmp} {u : Value} {d : Nat} (h : dst ≠ some d) : (a.put dst u).tmps.toList[d]? = a.tmps.toList[d]? := by
  cases dst with
  | none => rfl
  | some e =>
    have hne : e ≠ d := fun he => h (by rw [he])
    simp only [Act.put, Array.toList_setIfInBounds, List.getElem?_set_ne hne]
theorem put_dfr (a : Act) (dst : Option Tmp) (v : Value) : (a.put dst v).defers = a.defers := by cases dst <;> rfl
theorem DI.notLive (hd : DI x0 x s a pb ds) {d : Nat} {cs : List AV} (hp : s.pf[d]? = some (.agg cs)) : ¬ x.live (pb d) := by
  rintro ⟨b, cs', h1, h2⟩
  exact hd.wr.outOk b cs' h1 (h2 ▸ (hd.out (pb d)).2 (.inr ⟨d, cs, hp, rfl⟩))
theorem DI.next (hd : DI x0 x s a pb ds) {x' : X} (he : Ext x x') (hw : WR x') {h1 : AH} (hh : x'.h = h1) {dst : Option Tmp} {v : AV} {u : Value} (hv : x'.V v u) (hf : freeD s.pf dst = true) : DI x0 x' ⟨putA s.fr dst v, s.pf, h1⟩ (a.put dst u) pb ds where
  wr := hw
  h := hh
  out := fun k => by rw [he.out]; exact hd.out k
  fr := (he.Vs hd.fr).put dst hv
  pend := fun d cs hp => by
    obtain ⟨h1, h2, c, e, h3, h4⟩ := hd.pend d cs hp
    refine ⟨by rw [put_get_ne (freeD_ne hf hp)]; exact h1, h2, c, e, ?_, he.Vs h4⟩
    rw [he.blk _ (Array.getElem?_eq_some_iff.1 h3).1 (hd.notLive hp)]
    exact h3
  inj := hd.inj
  ext := hd.ext.trans (he.restrict x0.out)
  dfr := by rw [put_dfr]; exact hd.dfr
  len := by simp only [putA_length]; exact hd.len
/-- A new variable. -/
theorem DI.born (hd : DI x0 x s a pb ds) {w' : World} {c : Array Value} {e : TypeId} {cs : List AV} (hV : x.Vs cs c.toList) (hh : w'.heap = x.w.heap.push (.cells c e (0, 0))) (ho : w'.os = x.w.os) (ht : w'.tape = x.w.tape) (hu : w'.output = x.w.output)
    {d : Nat} (hf : freeD s.pf (some d) = true) : ∃ x' pb', x'.w = w' ∧ DI x0 x' ⟨setNth s.fr d .any, setNth s.pf d (.agg cs), s.h⟩ (a.put (some d) (.pointer (some ⟨x.w.heap.size, 0, none⟩))) pb' ds := by
  have hold : ∀ i, i < x.w.heap.size → w'.heap[i]? = x.w.heap[i]? := fun i hi => by rw [hh, Array.getElem?_push, if_neg (by omega)]
  have hsz : x.w.heap.size ≤ w'.heap.size := by rw [hh]; simp
  have hroom : ∀ k m, Room x.w k m → Room w' k m := fun k m hr => by
    obtain ⟨c', e', h1, h2⟩ := hr
    exact ⟨c', e', by rw [hold k (Array.getElem?_eq_some_iff.1 h1).1]; exact h1, h2⟩
  have hbelow : x0.w.heap.size ≤ x.w.heap.size := hd.ext.size
  by_cases hlt : d < s.pf.length
  · obtain ⟨q1, q2⟩ := hd.wr.side (w' := w') (out' := fun k => x.out k ∨ k = x.w.heap.size) (fun i hi _ => hold i hi) (by rintro k (h | h); exact .inl h; exact .inr (by omega)) (by
      rintro k (h | h)
      · exact Nat.lt_of_lt_of_le (hd.wr.outLt k h) hsz
      · rw [hh]; simp; omega) hroom
    refine ⟨⟨w', x.h, x.ρ, fun k => x.out k ∨ k = x.w.heap.size⟩, fun k => if k = d then x.w.heap.size else pb k, rfl, q1, hd.h, fun k => ?_, ?_, fun d' cs' hp => ?_, fun d1 d2 cs1 cs2 h1 h2 he => ?_, ?_, by rw [put_dfr]; exact hd.dfr, by simp only [setNth_eq, List.length_set]; exact hd.len⟩
    · simp only [setNth_eq]
      constructor
      · rintro (h | h)
        · rcases (hd.out k).1 h with h | ⟨d', cs', h1, h2⟩
          · exact .inl h
          · have hne : d ≠ d' := fun e => freeD_ne hf h1 (by rw [e])
            exact .inr ⟨d', cs', by rw [List.getElem?_set_ne hne]; exact h1, by rw [if_neg (Ne.symm hne)]; exact h2⟩
        · exact .inr ⟨d, cs, by rw [List.getElem?_set_self hlt], by rw [if_pos rfl, h]⟩
      · rintro (h | ⟨d', cs', h1, h2⟩)
        · exact .inl ((hd.out k).2 (.inl h))
        · by_cases hdd : d' = d
          · rw [if_pos hdd] at h2; exact .inr h2.symm
          · rw [if_neg hdd] at h2
            rw [List.getElem?_set_ne (Ne.symm hdd)] at h1
            exact .inl ((hd.out k).2 (.inr ⟨d', cs', h1, h2⟩))
    · exact (hd.fr.tr q2).put (some d) (.any _)
    · simp only [setNth_eq] at hp
      by_cases hdd : d' = d
      · subst hdd
        rw [List.getElem?_set_self hlt] at hp
        simp only [Option.some.injEq, AV.agg.injEq] at hp
        subst hp
        have hlt2 : d' < a.tmps.toList.length := by
          have h1 := hd.len
          have h2 := hd.fr.length
          omega
        refine ⟨by simp only [Act.put, Array.toList_setIfInBounds, if_true]; rw [List.getElem?_set_self hlt2], by rw [if_pos rfl]; exact hbelow, c, e, by rw [if_pos rfl]; simp only [hh]; simp, hV.tr q2⟩
      · rw [List.getElem?_set_ne (Ne.symm hdd)] at hp
        obtain ⟨h1, h2, c', e', h3, h4⟩ := hd.pend d' cs' hp
        refine ⟨by rw [put_get_ne (by simpa using Ne.symm hdd)]; simp only [if_neg hdd]; exact h1, by simp only [if_neg hdd]; exact h2, c', e', ?_, h4.tr q2⟩
        simp only [if_neg hdd]
        rw [hold _ (Array.getElem?_eq_some_iff.1 h3).1]
        exact h3
    · simp only [setNth_eq] at h1 h2
      by_cases k1 : d1 = d <;> by_cases k2 : d2 = d
      · rw [k1, k2]
      · rw [if_pos k1, if_neg k2] at he
        rw [List.getElem?_set_ne (Ne.symm k2)] at h2
        obtain ⟨_, _, c', e', h3, _⟩ := hd.pend d2 cs2 h2
        have := (Array.getElem?_eq_some_iff.1 h3).1
        omega
      · rw [if_neg k1, if_pos k2] at he
        rw [List.getElem?_set_ne (Ne.symm k1)] at h1
        obtain ⟨_, _, c', e', h3, _⟩ := hd.pend d1 cs1 h1
        have := (Array.getElem?_eq_some_iff.1 h3).1
        omega
      · rw [if_neg k1, if_neg k2] at he
        rw [List.getElem?_set_ne (Ne.symm k1)] at h1
        rw [List.getElem?_set_ne (Ne.symm k2)] at h2
        exact hd.inj d1 d2 cs1 cs2 h1 h2 he
    · exact hd.ext.trans ⟨hsz, ho, ht, hu, fun i hi _ => hold i hi, fun _ _ h => h, rfl, fun _ _ => rfl, Nat.le_refl _, hroom⟩
  · obtain ⟨g1, g2⟩ := hd.wr.grow hsz ho ht hu hold
    refine ⟨⟨w', x.h, x.ρ, x.out⟩, pb, rfl, ?_⟩
    have hpf : setNth s.pf d (.agg cs) = s.pf := by rw [setNth_eq, List.set_eq_of_length_le (by omega)]
    have := hd.next g2 g1 (h1 := s.h) hd.h (dst := some d) (VR.any _) hf (u := .pointer (some ⟨x.w.heap.size, 0, none⟩))
    rw [hpf]
    exact this
/-- The whole of a new variable is written. -/
theorem DI.fill (hd : DI x0 x s a pb ds) {d : Nat} {zs cs : List AV} (hp : s.pf[d]? = some (.agg zs)) {us : List Value} (hV : x.Vs cs us) (hl : cs.length = zs.length) {c : Array Value} {e : TypeId} (hc : x.w.heap[pb d]? = some (.cells c e (0, 0)))
    {dst : Option Tmp} (hf : freeD s.pf dst = true) :
    ∃ x', x'.w = x.w.setRow (pb d) us.toArray ∧ DI x0 x' ⟨putA s.fr dst (.tup []), setNth s.pf d (.agg cs), s.h⟩ (a.put dst undef) pb ds := by
  obtain ⟨k1, k2, c', e', k3, k4⟩ := hd.pend d zs hp
  rw [hc] at k3
  cases k3
  have hdl : d < s.pf.length := (List.getElem?_eq_some_iff.1 hp).1
  have hsize : us.length = c.size := by
    have h1 := hV.length
    have h2 := k4.length
    have h3 : c.toList.length = c.size := Array.length_toList
    omega
  have hoth : ∀ k, k ≠ pb d → (x.w.setRow (pb d) us.toArray).heap[k]? = x.w.heap[k]? := fun k hk => setRow_other _ _ _ _ hk
  have hat := setRow_heap x.w (pb d) c us.toArray e (0, 0) hc
  have hsz : (x.w.setRow (pb d) us.toArray).heap.size = x.w.heap.size := by simp [World.setRow]
  have hroom : ∀ k m, Room x.w k m → Room (x.w.setRow (pb d) us.toArray) k m := fun k m hr => by
    obtain ⟨c1, e1, h1, h2⟩ := hr
    by_cases hk : k = pb d
    · subst hk
      rw [hc] at h1
      cases h1
      exact ⟨us.toArray, e, hat, by simp; omega⟩
    · exact ⟨c1, e1, by rw [hoth k hk]; exact h1, h2⟩
  have hout : x.out (pb d) := (hd.out _).2 (.inr ⟨d, zs, hp, rfl⟩)
  obtain ⟨q1, q2⟩ := hd.wr.side (w' := x.w.setRow (pb d) us.toArray) (out' := x.out) (fun i _ ho => hoth i fun h => ho (h ▸ hout)) (fun k h => .inl h) (fun k h => by rw [hsz]; exact hd.wr.outLt k h) hroom
  refine ⟨⟨x.w.setRow (pb d) us.toArray, x.h, x.ρ, x.out⟩, rfl, q1, hd.h, fun k => ?_, (hd.fr.tr q2).put dst (.tup [] [] .nil), fun d' cs' hp' => ?_, fun d1 d2 cs1 cs2 h1 h2 he => ?_, ?_, by rw [put_dfr]; exact hd.dfr, by simp only [setNth_eq, List.length_set, putA_length]; exact hd.len⟩
  · rw [hd.out k]
    simp only [setNth_eq]
    constructor
    · rintro (h | ⟨d', cs', h1, h2⟩)
      · exact .inl h
      · by_cases hdd : d = d'
        · subst hdd; exact .inr ⟨d, cs, by rw [List.getElem?_set_self hdl], h2⟩
        · exact .inr ⟨d', cs', by rw [List.getElem?_set_ne hdd]; exact h1, h2⟩
    · rintro (h | ⟨d', cs', h1, h2⟩)
      · exact .inl h
      · by_cases hdd : d = d'
        · subst hdd; exact .inr ⟨d, zs, hp, h2⟩
        · rw [List.getElem?_set_ne hdd] at h1
          exact .inr ⟨d', cs', h1, h2⟩
  · simp only [setNth_eq] at hp'
    by_cases hdd : d = d'
    · subst hdd
      rw [List.getElem?_set_self hdl] at hp'
      simp only [Option.some.injEq, AV.agg.injEq] at hp'
      subst hp'
      exact ⟨by rw [put_get_ne (freeD_ne hf hp)]; exact k1, k2, us.toArray, e, hat, by simpa using hV.tr q2⟩
    · rw [List.getElem?_set_ne hdd] at hp'
      obtain ⟨h1, h2, c', e', h3, h4⟩ := hd.pend d' cs' hp'
      refine ⟨by rw [put_get_ne (freeD_ne hf hp')]; exact h1, h2, c', e', ?_, h4.tr q2⟩
      show (x.w.setRow (pb d) us.toArray).heap[pb d']? = _
      rw [hoth _ fun h => hdd (hd.inj d d' zs cs' hp hp' h.symm)]
      exact h3
  · have back : ∀ (d' : Nat) (cs' : List AV), (setNth s.pf d (.agg cs))[d']? = some (AV.agg cs') → ∃ cs'' : List AV, s.pf[d']? = some (AV.agg cs'') := fun d' cs' h => by
      simp only [setNth_eq] at h
      by_cases hdd : d = d'
      · subst hdd; exact ⟨zs, hp⟩
      · rw [List.getElem?_set_ne hdd] at h; exact ⟨cs', h⟩
    obtain ⟨c1, g1⟩ := back _ _ h1
    obtain ⟨c2, g2⟩ := back _ _ h2
    exact hd.inj d1 d2 c1 c2 g1 g2 he
  · have he := hd.ext
    refine ⟨by rw [hsz]; exact he.size, he.os, he.tape, he.output, fun i hi hl => ?_, he.live, rfl, he.ren, he.le, fun k m hr => hroom k m (he.room k m hr)⟩
    rw [hoth i (by omega)]
    exact he.blk i hi hl
/-- A variable that the region made is laid in the abstract heap. -/
theorem DI.adopt (hx0 : WR x0) (hd : DI x0 x s a pb ds) {d : Nat} {cs : List AV} (hp : s.pf[d]? = some (.agg cs)) :
    ∃ x', x'.w = x.w ∧ DI x0 x' ⟨setNth s.fr d (.ptr s.h.n 0), setNth s.pf d .any, hnew s.h (.cells cs)⟩ a pb ds := by
  obtain ⟨k1, k2, c, e, k3, k4⟩ := hd.pend d cs hp
  have hh := hd.h
  have hdl : d < s.pf.length := (List.getElem?_eq_some_iff.1 hp).1
  have hout : x.out (pb d) := (hd.out _).2 (.inr ⟨d, cs, hp, rfl⟩)
  have hlive : ∀ k, X.live ⟨x.w, hnew x.h (.cells cs), upd x.ρ x.h.n (pb d), fun k => x.out k ∧ k ≠ pb d⟩ k → x.live k ∨ k = pb d := by
    rintro k ⟨b, cs', h1, h2⟩
    have hb := hget_lt h1
    simp only [hnew_n] at hb
    by_cases hbn : b = x.h.n
    · subst hbn
      simp only [upd_same] at h2
      exact .inr h2.symm
    · have hb' : b < x.h.n := by omega
      simp only [hget_hnew_old x.h (.cells cs) hb', upd_old _ hb'] at h1 h2
      exact .inl ⟨b, cs', h1, h2⟩
  have hbad : ∀ k, ¬ x.bad k → ¬ X.bad ⟨x.w, hnew x.h (.cells cs), upd x.ρ x.h.n (pb d), fun k => x.out k ∧ k ≠ pb d⟩ k := by
    rintro k hn (ho | hl)
    · exact hn (.inl ho.1)
    · rcases hlive k hl with h | h
      · exact hn (.inr h)
      · exact hn (.inl (h ▸ hout))
  have hcar : Carry x.w x.bad x.ρ x.h.n x.w (X.bad ⟨x.w, hnew x.h (.cells cs), upd x.ρ x.h.n (pb d), fun k => x.out k ∧ k ≠ pb d⟩) (upd x.ρ x.h.n (pb d)) (x.h.n + 1) :=
    ⟨fun b off u hn hc => ⟨hc, hbad b hn⟩, fun b hb => upd_old _ hb, Nat.le_succ _, fun _ _ h => h⟩
  refine ⟨⟨x.w, hnew x.h (.cells cs), upd x.ρ x.h.n (pb d), fun k => x.out k ∧ k ≠ pb d⟩, rfl, ⟨by simp [hnew, hd.wr.len], fun b cs' h => ?_, fun b cs' h => ?_, fun b b' cs1 cs2 h h' hr => ?_, fun b cs' h => ?_, fun k hk => hd.wr.outLt k hk.1, hd.wr.gl.tr hcar.low⟩,
    by show hnew x.h _ = _; rw [hh], fun k => ?_, ?_, fun d' cs' hp' => ?_, fun d1 d2 cs1 cs2 h1 h2 he => ?_, ?_, hd.dfr, by simp only [setNth_eq, List.length_set]; exact hd.len⟩
  · have hb := hget_lt h
    simp only [hnew_n] at hb
    by_cases hbn : b = x.h.n
    · subst hbn
      simp only [hget_hnew_new, Option.some.injEq, ABlk.cells.injEq] at h
      subst h
      exact ⟨c, e, c.toList, by simp only [upd_same]; exact k3, k4.tr hcar, [], by simp⟩
    · have hb' : b < x.h.n := by omega
      simp only [hget_hnew_old x.h (.cells cs) hb'] at h
      obtain ⟨c', e', us', h1, h2, h3⟩ := hd.wr.cells b cs' h
      exact ⟨c', e', us', by simp only [upd_old _ hb']; exact h1, h2.tr hcar, h3⟩
  · have hb := hget_lt h
    simp only [hnew_n] at hb
    by_cases hbn : b = x.h.n
    · subst hbn
      simp only [hget_hnew_new, Option.some.injEq] at h
      cases h
    · have hb' : b < x.h.n := by omega
      simp only [hget_hnew_old x.h (.cells cs) hb'] at h
      obtain ⟨h0, c', e', us', h1, h2, h3⟩ := hd.wr.ro b cs' h
      refine ⟨?_, c', e', us', by simp only [upd_old _ hb']; exact h1, h2.tr hcar.low, h3⟩
      simp only [upd_old _ hb']
      exact hbad _ h0
  · have hb := hget_lt h
    have hb2 := hget_lt h'
    simp only [hnew_n] at hb hb2
    by_cases hbn : b = x.h.n <;> by_cases hbn2 : b' = x.h.n
    · omega
    · have hb' : b' < x.h.n := by omega
      simp only [hget_hnew_old x.h (.cells cs) hb'] at h'
      subst hbn
      simp only [upd_same, upd_old _ hb'] at hr
      exact absurd (hr ▸ hout) (hd.wr.outOk b' cs2 h')
    · have hb' : b < x.h.n := by omega
      simp only [hget_hnew_old x.h (.cells cs) hb'] at h
      subst hbn2
      simp only [upd_same, upd_old _ hb'] at hr
      exact absurd (hr ▸ hout) (hd.wr.outOk b cs1 h)
    · have hb1 : b < x.h.n := by omega
      have hb2 : b' < x.h.n := by omega
      simp only [hget_hnew_old x.h (.cells cs) hb1, hget_hnew_old x.h (.cells cs) hb2, upd_old _ hb1, upd_old _ hb2] at h h' hr
      exact hd.wr.inj b b' cs1 cs2 h h' hr
  · have hb := hget_lt h
    simp only [hnew_n] at hb
    by_cases hbn : b = x.h.n
    · subst hbn
      simp only [upd_same]
      exact fun ho => ho.2 rfl
    · have hb' : b < x.h.n := by omega
      simp only [hget_hnew_old x.h (.cells cs) hb', upd_old _ hb'] at h ⊢
      exact fun ho => hd.wr.outOk b cs' h ho.1
  · simp only [setNth_eq]
    constructor
    · rintro ⟨h, hne⟩
      rcases (hd.out k).1 h with h | ⟨d', cs', h1, h2⟩
      · exact .inl h
      · have hdd : d ≠ d' := fun e => hne (by rw [← h2, e])
        exact .inr ⟨d', cs', by rw [List.getElem?_set_ne hdd]; exact h1, h2⟩
    · rintro (h | ⟨d', cs', h1, h2⟩)
      · refine ⟨(hd.out k).2 (.inl h), ?_⟩
        have := hx0.outLt k h
        omega
      · by_cases hdd : d = d'
        · subst hdd
          rw [List.getElem?_set_self hdl] at h1
          cases h1
        · rw [List.getElem?_set_ne hdd] at h1
          exact ⟨(hd.out k).2 (.inr ⟨d', cs', h1, h2⟩), fun he => hdd (hd.inj d d' cs cs' hp h1 (by rw [h2, he]))⟩
  · have h1 := (hd.fr.tr hcar).set d (v := .ptr x.h.n 0) (u := .pointer (some ⟨upd x.ρ x.h.n (pb d) x.h.n, 0, none⟩)) (.ptr _ _ (Nat.lt_succ_self _))
    rw [upd_same] at h1
    rw [List.getElem?_eq_some_iff] at k1
    obtain ⟨k1, k1'⟩ := k1
    rw [← k1', List.set_getElem_self] at h1
    simp only [setNth_eq]
    rw [← hh]
    exact h1
  · simp only [setNth_eq] at hp'
    have hdd : d ≠ d' := by
      rintro rfl
      rw [List.getElem?_set_self hdl] at hp'
      cases hp'
    rw [List.getElem?_set_ne hdd] at hp'
    obtain ⟨h1, h2, c', e', h3, h4⟩ := hd.pend d' cs' hp'
    exact ⟨h1, h2, c', e', h3, h4.tr hcar⟩
  · have back : ∀ (d' : Nat) (cs' : List AV), (setNth s.pf d .any)[d']? = some (AV.agg cs') → s.pf[d']? = some (AV.agg cs') := fun d' cs' h => by
      simp only [setNth_eq] at h
      by_cases hdd : d = d'
      · subst hdd
        rw [List.getElem?_set_self hdl] at h
        cases h
      · rw [List.getElem?_set_ne hdd] at h; exact h
    exact hd.inj d1 d2 cs1 cs2 (back _ _ h1) (back _ _ h2) he
  · have he := hd.ext
    have hle : x0.h.n ≤ x.h.n := he.le
    refine ⟨he.size, he.os, he.tape, he.output, he.blk, fun i hi hl => ?_, rfl, fun b hb => ?_, Nat.le_succ_of_le hle, he.room⟩
    · rcases hlive i hl with h | h
      · exact he.live i hi h
      · omega
    · show upd x.ρ x.h.n (pb d) b = _
      rw [upd_old _ (by omega)]
      exact he.ren b hb
theorem DI.thaw (hx0 : WR x0) : ∀ (l : List Oper) (x : X) (s : DS), DI x0 x s a pb ds → ∃ x', x'.w = x.w ∧ DI x0 x' (thawD l s) a pb ds
  | [], x, s, hd => ⟨x, rfl, hd⟩
  | o :: l, x, s, hd => by
    simp only [thawD]
    split
    · rename_i d _ _
      split
      · rename_i cs hcs
        rw [nth_eq] at hcs
        obtain ⟨x1, h1, h2⟩ := hd.adopt hx0 hcs
        obtain ⟨x2, h3, h4⟩ := DI.thaw hx0 l x1 _ h2
        exact ⟨x2, by rw [h3, h1], h4⟩
      · exact DI.thaw hx0 l x s hd
    · exact DI.thaw hx0 l x s hd
theorem DI.done (hd : DI x0 x s a pb ds) (hn : ∀ v ∈ s.pf, isPend v = false) : WR ⟨x.w, s.h, x.ρ, x0.out⟩ ∧ Ext x0 ⟨x.w, s.h, x.ρ, x0.out⟩ ∧ X.Vs ⟨x.w, s.h, x.ρ, x0.out⟩ s.fr a.tmps.toList := by
  have hout : x.out = x0.out := by
    funext k
    apply propext
    rw [hd.out k]
    constructor
    · rintro (h | ⟨d, cs, h1, _⟩)
      · exact h
      · have := hn _ (List.mem_of_getElem? h1)
        cases this
    · exact .inl
  have hh := hd.h
  have h1 := hd.wr
  have h2 := hd.ext
  have h3 := hd.fr
  obtain ⟨w, h, ρ, out⟩ := x
  simp only at hout hh
  subst hout
  subst hh
  exact ⟨h1, h2, h3⟩
end

/-! ### a region that draws -/
section
variable {P : Program} {E : Env} {call : FuncId → List AV → AH → CRes} {x x0 : X} {s : DS} {a : Act} {pb : Nat → Nat} {ds : List Deferred}
theorem loud_ok (hE : TysOk P E) (hc : CallSound P call) (ho : OrcSound P E) (hx : WR x) {fr : List AV} (hV : x.Vs fr a.tmps.toList) {o : Oper} {v : AV} {p : Option (Nat × AV)} {h1 : AH} (h : loudD E call (evA fr) x.h o.op = some (v, p, h1))
    {K : Act → World → Prop} {Q : Exit → Act → World → Prop} (hK : ∀ w' ρ' u, WR ⟨w', h1, ρ', x.out⟩ → Ext x ⟨w', h1, ρ', x.out⟩ → X.V ⟨w', h1, ρ', x.out⟩ v u → K (a.put o.dst u) w') : o.wp P a x.w K Q := by
  have hop := aop_ok (P := P) hE hx (fun y => evA_ok hx.gl hV y) o
  unfold loudD at h
  unfold Oper.wp
  split at h
  · rename_i v' h' heq
    simp only [Option.some.injEq, Prod.mk.injEq] at h
    obtain ⟨rfl, rfl, rfl⟩ := h
    rw [heq] at hop
    obtain ⟨u, w', ρ', e1, e2, e3, e4⟩ := hop
    rw [e1]
    exact hK w' ρ' u e2 e3 e4
  · rename_i h' heq
    simp only [Option.some.injEq, Prod.mk.injEq] at h
    obtain ⟨rfl, rfl, rfl⟩ := h
    rw [heq] at hop
    obtain ⟨w', ρ', e1, e2, e3⟩ := hop
    rw [e1]
    exact hK w' ρ' undef e2 e3 (.tup [] [] .nil)
  · rename_i f args heq
    rw [heq] at hop
    obtain ⟨us, e1, e2⟩ := hop
    split at h
    · rename_i v' h' hcr
      simp only [Option.some.injEq, Prod.mk.injEq] at h
      obtain ⟨rfl, rfl, rfl⟩ := h
      obtain ⟨q1, q2⟩ := callA_ok hc ho f args x us _ hx e2 hcr (by simp)
      rw [e1, q1.run]
      refine q2.mono fun e w' hp => ?_
      obtain ⟨u, ρ', rfl, p2, p3, p4⟩ := hp
      exact hK w' ρ' u p2 p3 p4
    · cases h
  · cases h
theorem DI.step (hE : TysOk P E) (hc : CallSound P call) (ho : OrcSound P E) (hd : DI x0 x s a pb ds) {ops : Array Oper} {i : Nat} {o : Oper} {s1 : DS} (hi : ops[i]? = some o) (h : stepD E call ops.toList o s = some s1)
    {K : Act → World → Prop} {Q : Exit → Act → World → Prop} (hK : ∀ x' a' pb', DI x0 x' s1 a' pb' ds → K a' x'.w) : wpOp P ops Q i K a x.w := by
  obtain ⟨hf, v, p, h1, hcore, rfl⟩ := stepD_some h
  have hh := hd.h
  unfold wpOp
  rw [hi]
  simp only
  unfold coreD at hcore
  split at hcore
  · cases hcore
  · rename_i hw
    simp only [Option.some.injEq, Prod.mk.injEq] at hcore
    obtain ⟨rfl, rfl, rfl⟩ := hcore
    rw [wantedA_ok hd.fr hw]
    simp only [Bool.false_eq_true, if_false]
    exact hK _ _ _ (hd.next (Ext.refl x) hd.wr hh (.tup [] [] .nil) hf)
  · rename_i hw
    rw [wantedA_ok hd.fr hw]
    simp only [if_true]
    refine .inl ?_
    have loud : ∀ {v : AV} {p : Option (Nat × AV)} {h1 : AH}, loudD E call (evA s.fr) s.h o.op = some (v, p, h1) → (∀ x' a' pb', DI x0 x' ⟨putA s.fr o.dst v, putP s.pf p, h1⟩ a' pb' ds → K a' x'.w) → o.wp P a x.w K Q := fun hl hK => by
      have hp := loudD_p hl
      subst hp
      rw [← hh] at hl
      exact loud_ok hE hc ho hd.wr hd.fr hl fun w' ρ' u e1 e2 e3 => hK ⟨w', _, ρ', x.out⟩ _ _ (hd.next e2 e1 rfl e3 hf)
    have quiet : ∀ {v : AV}, quietVal E call (evA s.fr) s.h o.op = some v → (∀ x' a' pb', DI x0 x' ⟨putA s.fr o.dst v, s.pf, s.h⟩ a' pb' ds → K a' x'.w) → o.wp P a x.w K Q := fun hl hK => by
      rw [← hh] at hl
      exact quiet_ok hE hc ho hd.wr hd.fr hl fun w' u e1 e2 e3 => hK ⟨w', x.h, x.ρ, x.out⟩ _ _ (hd.next e2 e1 hh e3 hf)
    generalize hop : o.op = op at hcore loud quiet
    cases op with
    | alloc e =>
      simp only [doneD] at hcore
      split at hcore
      · rename_i d i' hdst hty
        simp only [Option.some.injEq, Prod.mk.injEq] at hcore
        obtain ⟨rfl, rfl, rfl⟩ := hcore
        obtain ⟨z, hz, hz2, hz3, _⟩ := (hE _ _ hty).run_zeroValue x.w
        have hrun : (execOp a.eval o).run P x.w = .ok (.value (.pointer (some ⟨x.w.heap.size, 0, none⟩))) { x.w with heap := x.w.heap.push (.cells z.cells e) } := by
          unfold execOp
          rw [hop]
          simp only [Instr.alloc, Sem.run_bind, hz, Result.andThen_ok, newVar, run_newRow, Sem.run_pure]
        unfold Oper.wp
        rw [hrun]
        show K (a.put o.dst (.pointer (some ⟨x.w.heap.size, 0, none⟩))) { x.w with heap := x.w.heap.push (.cells z.cells e) }
        rw [hdst] at hf hK ⊢
        obtain ⟨x', pb', e1, e2⟩ := hd.born (w' := { x.w with heap := x.w.heap.push (.cells z.cells e) }) (zero_Vs hz2) rfl rfl rfl rfl hf
        have := hK x' _ pb' e2
        rw [e1] at this
        exact this
      · cases hcore
    | store t y z =>
      simp only [doneD] at hcore
      split at hcore
      · rename_i d zs hp
        split at hcore
        · rename_i i' hty
          split at hcore
          · rename_i hcond
            obtain ⟨c1, c2, c3⟩ := hcond
            simp only [Option.some.injEq, Prod.mk.injEq] at hcore
            obtain ⟨rfl, rfl, rfl⟩ := hcore
            cases y with
            | tmp t' =>
              simp only [pendOf] at hp
              split at hp
              · rename_i zs' hzs
                simp only [Option.some.injEq, Prod.mk.injEq] at hp
                obtain ⟨rfl, rfl⟩ := hp
                rw [nth_eq] at hzs
                obtain ⟨k1, k2, c, e, k3, k4⟩ := hd.pend _ _ hzs
                have hz := evA_ok hd.wr.gl hd.fr z
                have hne : evA s.fr z ≠ .any := by
                  intro he
                  rw [he] at c3
                  cases c3
                have hcs := hz.cells hne
                have hlen := hcs.length
                have hl4 := k4.length
                have hl5 : c.toList.length = c.size := Array.length_toList
                obtain ⟨x', e1, e2⟩ := hd.fill hzs hcs (by omega) k3 hf
                have hst := run_storeCells_at P (pb t') 0 e (a.eval z).cells.toList 0 c x.w k3 (by omega) (hcs.one c3)
                have hcl : (c.toList.take (0 + 0) ++ (a.eval z).cells.toList ++ c.toList.drop (0 + 0 + (a.eval z).cells.toList.length)).toArray = (a.eval z).cells.toList.toArray := by
                  rw [List.drop_eq_nil_of_le (by omega)]
                  simp
                rw [hcl] at hst
                have hy : a.eval (.tmp t') = .pointer (some ⟨pb t', 0, none⟩) := by
                  rw [Array.getElem?_toList] at k1
                  simp only [Act.eval, Array.getD_eq_getD_getElem?, k1, Option.getD_some]
                have hrun : (execOp a.eval o).run P x.w = .ok .skip (x.w.setRow (pb t') (a.eval z).cells.toList.toArray) := by
                  have hsz : (a.eval z).cells.size = i'.sz := by rw [← Array.length_toList, ← hlen, c1]
                  unfold execOp
                  rw [hop]
                  simp only [Instr.storeAt, hy, Sem.run_bind, Instr.sureAddr, Sem.run_pure, Result.andThen_ok, storeVar, (hE _ _ hty).run_sizeOf, hsz, ne_eq, not_true_eq_false, if_false, hst]
                unfold Oper.wp
                rw [hrun]
                have := hK x' _ pb e2
                rw [e1] at this
                exact this
              · cases hp
            | _ => simp [pendOf] at hp
          · cases hcore
        · cases hcore
      · exact loud hcore hK
    | _ =>
      simp only [doneD] at hcore
      split at hcore
      · exact loud hcore hK
      · split at hcore
        · rename_i hq
          simp only [Option.some.injEq, Prod.mk.injEq] at hcore
          obtain ⟨rfl, rfl, rfl⟩ := hcore
          exact quiet hq hK
        · cases hcore
theorem any_ok (hE : TysOk P E) (hc : CallSound P call) (ho : OrcSound P E) {ops : Array Oper} {md : Region.Mode} {fin : DS} {Q : Exit → Act → World → Prop} (hQ : ∀ x' a' pb', DI x0 x' fin a' pb' ds → Q .normal a' x'.w) : ∀ (fuel : Nat) (listed : Array Bool) (s : DS) (x : X) (a : Act) (pb : Nat → Nat),
    wpAnyD E call md ops fin fuel listed s → DI x0 x s a pb ds → wpAny P md ops Q fuel listed a x.w
  | 0, listed, s, x, a, pb, h, hd => by
    obtain ⟨h1, rfl⟩ := h
    exact ⟨h1, hQ _ _ _ hd⟩
  | fuel + 1, listed, s, x, a, pb, h, hd => by
    refine ⟨fun h0 => ?_, fun i hi => ?_⟩
    · have := h.1 h0
      subst this
      exact hQ _ _ _ hd
    · obtain ⟨o, s1, h1, h2, h3⟩ := h.2 i hi
      exact hd.step hE hc ho h1 h2 fun x' a' pb' hd' => any_ok hE hc ho hQ fuel _ s1 x' a' pb' h3 hd'
theorem lexD_nil {all : List Oper} : ∀ (l : List Oper) (s t : DS), lexD E call all l s = some t → s.pf = [] → t.pf = []
  | [], s, t, h, hs => by
    simp only [lexD, Option.some.injEq] at h
    rw [← h]
    exact hs
  | o :: l, s, t, h, hs => by
    simp only [lexD] at h
    split at h
    · rename_i s1 hs1
      refine lexD_nil l s1 t h ?_
      unfold stepD at hs1
      split at hs1
      · cases hs1
      · split at hs1
        · rename_i v p h1 _
          simp only [Option.some.injEq] at hs1
          subst hs1
          simp only [hs]
          cases p with
          | none => rfl
          | some q => rfl
        · cases hs1
    · cases h
theorem draw_ok (hE : TysOk P E) (hc : CallSound P call) (ho : OrcSound P E) (hm : P.follows .mixedOrders = true) (hx : WR x) {id : Nat} {ops : Array Oper} (hB : drawB E .any ops = true) {fr fin : List AV} {h1 : AH} (hV : x.Vs fr a.tmps.toList)
    (h : drawA E call ops.toList fr x.h = some (fin, h1)) {Q : Exit → Act → World → Prop}
    (hQ : ∀ w' ρ' a', WR ⟨w', h1, ρ', x.out⟩ → Ext x ⟨w', h1, ρ', x.out⟩ → X.Vs ⟨w', h1, ρ', x.out⟩ fin a'.tmps.toList → a'.defers = a.defers → Q .normal a' w') : (Code.region id ops true).wp P Q a x.w := by
  obtain ⟨s1, s2⟩ := hx.same (w' := { x.w with drawn := x.w.drawn + 1 }) rfl rfl rfl rfl
  have start : ∀ pf : List AV, (∀ v ∈ pf, isPend v = false) → pf.length ≤ fr.length → DI x ⟨{ x.w with drawn := x.w.drawn + 1 }, x.h, x.ρ, x.out⟩ ⟨fr, pf, x.h⟩ a (fun k => k) a.defers := fun pf hp hl => by
    have no : ∀ (d : Nat) (cs : List AV), ¬ pf[d]? = some (AV.agg cs) := fun d cs h => by
      have := hp _ (List.mem_of_getElem? h)
      cases this
    exact ⟨s1, rfl, fun k => ⟨.inl, fun h => h.elim (fun h => h) fun ⟨d, cs, h1, _⟩ => absurd h1 (no d cs)⟩, s2.Vs hV, fun d cs h => absurd h (no d cs), fun d d' cs cs' h => absurd h (no d cs), s2, rfl, hl⟩
  unfold drawA at h
  split at h
  · split at h
    · rename_i t1 ht1
      split at h
      rename_i fr2 pf2 h2 ht2
      split at h
      · rename_i hall
        simp only [Option.some.injEq, Prod.mk.injEq] at h
        obtain ⟨rfl, rfl⟩ := h
        have hd0 := start (fr.map fun _ => .any) (by intro v hv; obtain ⟨_, _, rfl⟩ := List.mem_map.1 hv; rfl) (by simp)
        refine wp_region_any hm (any_ok hE hc ho (fun x' a' pb' hd' => ?_) ops.size _ _ ⟨{ x.w with drawn := x.w.drawn + 1 }, x.h, x.ρ, x.out⟩ a _ (drawB_spec hB ht1) hd0)
        obtain ⟨x2, q1, q2⟩ := hd'.thaw hx ops.toList x' t1 
        rw [ht2] at q2
        obtain ⟨e1, e2, e3⟩ := q2.done fun v hv => by simpa using allB_iff.1 hall v hv
        rw [← q1]
        exact hQ _ _ _ e1 e2 e3 q2.dfr
      · cases h
    · cases h
  · split at h
    · rename_i t1 ht1
      simp only [Option.some.injEq, Prod.mk.injEq] at h
      obtain ⟨rfl, rfl⟩ := h
      have hd0 := start [] (by simp) (by simp)
      refine wp_region_any hm (any_ok hE hc ho (fun x' a' pb' hd' => ?_) ops.size _ _ ⟨{ x.w with drawn := x.w.drawn + 1 }, x.h, x.ρ, x.out⟩ a _ (drawB_spec hB ht1) hd0)
      obtain ⟨e1, e2, e3⟩ := hd'.done (by rw [lexD_nil _ _ _ ht1 rfl]; simp)
      exact hQ _ _ _ e1 e2 e3 hd'.dfr
    · cases h
theorem VRs.any_at {w : World} {bad : Nat → Prop} {ρ : Nat → Nat} {n : Nat} {fr : List AV} {us : List Value} (h : VRs w bad ρ n fr us) (dst : Option Tmp) : VRs w bad ρ n (putA fr dst .any) us := by
  refine VRs.mk (by rw [putA_length]; exact h.length) fun i v u hv hu => ?_
  cases dst with
  | none =>
    obtain ⟨u', h1, h2⟩ := h.get hv
    rw [hu] at h1
    cases h1
    exact h2
  | some d =>
    simp only [putA, setNth_eq] at hv
    by_cases hd : d = i
    · subst hd
      rw [List.getElem?_set] at hv
      simp only [if_true] at hv
      split at hv
      · cases hv; exact .any _
      · cases hv
    · rw [List.getElem?_set_ne hd] at hv
      obtain ⟨u', h1, h2⟩ := h.get hv
      rw [hu] at h1
      cases h1
      exact h2
theorem VRs.hv {w : World} {bad : Nat → Prop} {ρ : Nat → Nat} {n : Nat} {us : List Value} : ∀ (l : List Oper) (fr : List AV), VRs w bad ρ n fr us → VRs w bad ρ n (hvA l fr) us
  | [], _, h => h
  | o :: l, fr, h => by
    simp only [hvA]
    exact VRs.hv l _ (h.any_at o.dst)
theorem pan_ok (hE : TysOk P E) (hc : CallSound P call) (ho : OrcSound P E) (hx : WR x) {fr : List AV} (hV : x.Vs fr a.tmps.toList) {ops : Array Oper} {i : Nat} {o : Oper} (hi : ops[i]? = some o) {v : AV} {h1 : AH} (h : panD E call ops.toList o fr x.h = some (v, h1))
    {K : Act → World → Prop} {Q : Exit → Act → World → Prop} (hQ : ∀ w' ρ' u, WR ⟨w', h1, ρ', x.out⟩ → Ext x ⟨w', h1, ρ', x.out⟩ → X.V ⟨w', h1, ρ', x.out⟩ v u → Q (.panic [{ v := u, recovered := false }]) a w') : wpOp P ops Q i K a x.w := by
  unfold wpOp
  rw [hi]
  simp only
  have hop := aop_ok (P := P) hE hx (fun y => evA_ok hx.gl hV y) o
  unfold panD at h
  split at h
  · rename_i hw
    rw [wantedA_ok hV hw]
    simp only [if_true]
    refine .inl ?_
    unfold Oper.wp
    split at h
    · rename_i y hopc
      split at h
      · rename_i t v' hy
        simp only [Option.some.injEq, Prod.mk.injEq] at h
        obtain ⟨rfl, rfl⟩ := h
        rw [show aop E (evA fr) x.h o.op = .pan (.ifc t v') x.h by rw [hopc]; simp only [aop, hy]] at hop
        obtain ⟨u, e1, e2, e3⟩ := hop
        rw [e2]
        exact hQ _ x.ρ u hx (Ext.refl x) e3
      · cases h
    · rename_i c hopc
      split at h
      · rename_i f hcal
        split at h
        · rename_i g args hq
          split at h
          · rename_i v' h' hcr
            simp only [Option.some.injEq, Prod.mk.injEq] at h
            obtain ⟨rfl, rfl⟩ := h
            rw [show aop E (evA fr) x.h o.op = .call g args by rw [hopc]; simp only [aop, hcal, hq]] at hop
            obtain ⟨us, e1, e2⟩ := hop
            obtain ⟨q1, q2⟩ := callA_ok hc ho g args x us _ hx e2 hcr (by simp)
            rw [e1, q1.run]
            refine q2.mono fun e w' hp => ?_
            obtain ⟨u, ρ', rfl, p2, p3, p4⟩ := hp
            exact hQ w' ρ' u p2 p3 p4
          · cases h
        · cases h
      · cases h
    · cases h
  · cases h
theorem anyP_ok (hE : TysOk P E) (hc : CallSound P call) (ho : OrcSound P E) {ops : Array Oper} {md : Region.Mode} {leaf : Nat} {o : Oper} (hl : ops[leaf]? = some o) {v : AV} {h1 : AH} {F : List AV} {Q : Exit → Act → World → Prop}
    (hQ : ∀ w' ρ' a' u, WR ⟨w', h1, ρ', x0.out⟩ → Ext x0 ⟨w', h1, ρ', x0.out⟩ → X.Vs ⟨w', h1, ρ', x0.out⟩ F a'.tmps.toList → X.V ⟨w', h1, ρ', x0.out⟩ v u → a'.defers = ds → Q (.panic [{ v := u, recovered := false }]) a' w') :
    ∀ (fuel : Nat) (listed : Array Bool) (s : DS) (x : X) (a : Act) (pb : Nat → Nat), wpAnyP E call md ops leaf (LfD E call ops o v h1 F) fuel listed s → DI x0 x s a pb ds → wpAny P md ops Q fuel listed a x.w
  | 0, listed, s, x, a, pb, h, hd => h.elim
  | fuel + 1, listed, s, x, a, pb, h, hd => by
    refine ⟨fun h0 => absurd h0 h.1, fun i hi => ?_⟩
    by_cases hil : i = leaf
    · subst hil
      obtain ⟨g1, g2⟩ := (h.2 i hi).1 rfl
      have hh := hd.h
      rw [← hh] at g1
      refine pan_ok hE hc ho hd.wr hd.fr hl g1 fun w' ρ' u e1 e2 e3 => ?_
      have hsub : ∀ k, x0.out k → x.out k := fun k hk => (hd.out k).2 (.inl hk)
      obtain ⟨q1, q2⟩ := e1.side (w' := w') (out' := x0.out) (fun _ _ _ => rfl) (fun k hk => .inl (hsub k hk)) (fun k hk => e1.outLt k (hsub k hk)) (fun _ _ h => h)
      refine hQ w' ρ' a u q1 (hd.ext.trans (e2.restrict x0.out)) ?_ (e3.tr q2) hd.dfr
      rw [← g2]
      exact VRs.hv _ _ ((e2.Vs hd.fr).tr q2)
    · obtain ⟨o', s1, h1', h2, h3⟩ := (h.2 i hi).2 hil
      exact hd.step hE hc ho h1' h2 fun x' a' pb' hd' => anyP_ok hE hc ho hl hQ fuel _ s1 x' a' pb' h3 hd'
theorem panicD_ok (hE : TysOk P E) (hc : CallSound P call) (ho : OrcSound P E) (hm : P.follows .mixedOrders = true) (hx : WR x) {id : Nat} {ops : Array Oper} {fr F : List AV} {v : AV} {h1 : AH} (hV : x.Vs fr a.tmps.toList)
    (h : panicD E call ops fr x.h = some (v, F, h1)) {Q : Exit → Act → World → Prop}
    (hQ : ∀ w' ρ' a' u, WR ⟨w', h1, ρ', x.out⟩ → Ext x ⟨w', h1, ρ', x.out⟩ → X.Vs ⟨w', h1, ρ', x.out⟩ F a'.tmps.toList → X.V ⟨w', h1, ρ', x.out⟩ v u → a'.defers = a.defers → Q (.panic [{ v := u, recovered := false }]) a' w') : (Code.region id ops true).wp P Q a x.w := by
  obtain ⟨leaf, o, n, hn, hl, hw⟩ := panicD_spec h
  obtain ⟨s1, s2⟩ := hx.same (w' := { x.w with drawn := x.w.drawn + 1 }) rfl rfl rfl rfl
  have no : ∀ (d : Nat) (cs : List AV), ¬ (fr.map fun _ => AV.any)[d]? = some (AV.agg cs) := fun d cs h => by
    obtain ⟨_, _, h⟩ := List.mem_map.1 (List.mem_of_getElem? h)
    cases h
  have hd0 : DI x ⟨{ x.w with drawn := x.w.drawn + 1 }, x.h, x.ρ, x.out⟩ ⟨fr, fr.map fun _ => .any, x.h⟩ a (fun k => k) a.defers :=
    ⟨s1, rfl, fun k => ⟨.inl, fun h => h.elim (fun h => h) fun ⟨d, cs, h1, _⟩ => absurd h1 (no d cs)⟩, s2.Vs hV, fun d cs h => absurd h (no d cs), fun d d' cs cs' h => absurd h (no d cs), s2, rfl, by simp⟩
  exact wp_region_any hm (anyP_ok (Q := Q) hE hc ho hl hQ ops.size (Array.replicate ops.size false) _ ⟨{ x.w with drawn := x.w.drawn + 1 }, x.h, x.ρ, x.out⟩ a _ (wpAnyP_le hn hw) hd0)
end
end Go.Ev

/-
The abstract evaluator: the operations that write, and calls.
-/
import Derived.Test.YtpolhfiikbmplaaGreatDoorEv7
namespace Go.Ev
/-- What an operation comes to. -/
def OpR (P : Program) (x : X) (r : OR) (res : Result Next) : Prop := match r with
  | .val v h' => ∃ u w' ρ', res = .ok (.value u) w' ∧ WR ⟨w', h', ρ', x.out⟩ ∧ Ext x ⟨w', h', ρ', x.out⟩ ∧ X.V ⟨w', h', ρ', x.out⟩ v u
  | .skip h' => ∃ w' ρ', res = .ok .skip w' ∧ WR ⟨w', h', ρ', x.out⟩ ∧ Ext x ⟨w', h', ρ', x.out⟩
  | .pan v h' => ∃ u, h' = x.h ∧ res = .halt (.panic u) x.w ∧ x.V v u
  | .call f args => ∃ us, res = (callFunc f us.toArray).run P x.w ∧ x.Vs args us
  | .defer f args caps => ∃ as cs, res = .ok (.defer ⟨.fn (.func f) cs.toArray, as.toArray⟩) x.w ∧ x.Vs args as ∧ x.Vs caps cs
  | .recov => res = .ok .recover x.w
  | .fail => True
section
variable {P : Program} {E : Env} {x : X}
theorem run_newRow (e : TypeId) (cs : Array Value) (w : World) : (newRow e cs).run P w = .ok ⟨w.heap.size, 0, none⟩ { w with heap := w.heap.push (.cells cs e) } := rfl
theorem OpR.of_read {v : AV} {res : Result Next} (hx : WR x) (h : ∃ y, res = .ok (.value y) x.w ∧ x.V v y) : OpR P x (.val v x.h) res := by
  obtain ⟨y, h1, h2⟩ := h
  exact ⟨y, x.w, x.ρ, h1, hx, Ext.refl x, h2⟩
theorem rep_get {α : Type} (n : Nat) (l : List α) (i : Nat) (h : i < n * l.length) : (rep n l)[i]? = l[i % l.length]? := by
  induction n generalizing i with
  | zero => simp at h
  | succ n ih =>
    simp only [rep]
    rcases Nat.lt_or_ge i l.length with hi | hi
    · rw [List.getElem?_append_left hi, Nat.mod_eq_of_lt hi]
    · rw [List.getElem?_append_right hi, ih (i - l.length) (by rw [Nat.succ_mul] at h; omega)]
      rw [Nat.mod_eq_sub_mod hi]
theorem zeros_eq (z : Array Value) (n : Nat) (hz : 0 < z.size) : ((Array.range (n * z.size)).map fun i => z[i % z.size]!).toList = rep n z.toList := by
  apply List.ext_getElem?
  intro i
  rcases Nat.lt_or_ge i (n * z.size) with hi | hi
  · rw [rep_get n z.toList i (by simpa using hi)]
    have hm : i % z.size < z.size := Nat.mod_lt _ hz
    simp only [Array.toList_map, Array.toList_range, List.getElem?_map, List.getElem?_range hi, Option.map_some, Array.length_toList, Array.getElem?_toList]
    rw [Array.getElem?_eq_getElem hm, getElem!_pos z _ hm]
  · rw [List.getElem?_eq_none (by simpa using hi), List.getElem?_eq_none (by rw [rep_length]; simpa using hi)]
theorem u_of {s : Sem Unit} {w' : World} {h' : AH} {ρ' : Nat → Nat} (h : s.run P x.w = .ok () w') (hw : WR ⟨w', h', ρ', x.out⟩) (he : Ext x ⟨w', h', ρ', x.out⟩) : OpR P x (.skip h') ((do s; pure .skip : Sem Next).run P x.w) :=
  ⟨w', ρ', by simp [h], hw, he⟩
theorem v_of {s : Sem Value} {u : Value} {v : AV} {w' : World} {h' : AH} {ρ' : Nat → Nat} (h : s.run P x.w = .ok u w') (hw : WR ⟨w', h', ρ', x.out⟩) (he : Ext x ⟨w', h', ρ', x.out⟩) (hv : X.V ⟨w', h', ρ', x.out⟩ v u) :
    OpR P x (.val v h') ((do pure (.value (← s)) : Sem Next).run P x.w) :=
  ⟨u, w', ρ', by simp [h], hw, he, hv⟩
/-- A new block and its address. -/
theorem alloc_ok (hx : WR x) {acs : List AV} {us r : List Value} {c : Array Value} {e : TypeId} (hV : x.Vs acs us) (hc : c.toList = us ++ r) {w' : World} (hh : w'.heap = x.w.heap.push (.cells c e (0, 0)))
    (ho : w'.os = x.w.os) (ht : w'.tape = x.w.tape) (hu : w'.output = x.w.output) :
    ∃ ρ', ρ' x.h.n = x.w.heap.size ∧ WR ⟨w', hnew x.h (.cells acs), ρ', x.out⟩ ∧ Ext x ⟨w', hnew x.h (.cells acs), ρ', x.out⟩ ∧ w'.heap[x.w.heap.size]? = some (.cells c e (0, 0)) := by
  obtain ⟨h1, h2⟩ := hx.alloc hV hc hh ho ht hu
  exact ⟨_, upd_same _ _ _, h1, h2, by rw [hh]; simp⟩
theorem buildSlice_ok (hE : TysOk P E) {t e : TypeId} {ti i : TI} (ht : E.ty t = some ti) (hk : ti.k = .slice e) (he : E.ty e = some i) {len : Nat} {parts : List (Nat × AV)} {parts' : List (Nat × Value)} (hp : PV x parts parts') {cs : List AV}
    (hsz : 0 < i.sz) (hl : len * i.sz ≤ 16777216) (hf : fillA (fun j => some (j * i.sz, i.sz)) (rep len i.zero) parts = some cs) :
    ∃ c : Array Value, (Instr.buildSlice t len parts'.toArray).run P x.w = .ok (.slice (some ⟨x.w.heap.size, 0, none⟩) len len) { x.w with heap := x.w.heap.push (.cells c e) } ∧ x.Vs cs c.toList ∧ cs.length = len * i.sz := by
  have ht1 := (hE _ _ ht).slice hk
  obtain ⟨z, hz, hz2, hz3, _⟩ := (hE _ _ he).run_zeroValue x.w
  have hzs : 0 < z.cells.size := by omega
  have hzV : x.Vs (rep len i.zero) (rep len z.cells.toList) := (zero_Vs hz2).rep len
  obtain ⟨us', h1, h2⟩ := fillA_ok (x := x) (place' := fun j => some (j * i.sz, i.sz)) (fun _ _ h => h) hp hzV hf
  have hfl : ∀ {parts : List (Nat × AV)} {cells r : List AV}, fillA (fun j => some (j * i.sz, i.sz)) cells parts = some r → r.length = cells.length := by
    intro parts
    induction parts with
    | nil => intro cells r h; simp [fillA] at h; rw [h]
    | cons p parts ih =>
      intro cells r h
      obtain ⟨j, a⟩ := p
      simp only [fillA] at h
      split at h
      · cases h
      · split at h
        · split at h
          · rename_i cs' hcs
            obtain ⟨q1, q2⟩ := putAt_eq hcs
            rw [ih h, q1]
            simp
            omega
          · cases h
        · cases h
  refine ⟨us'.toArray, ?_, by simpa using h2, by rw [hfl hf, rep_length, hz2]; simp [hz3]⟩
  have hnz : (len * i.sz = 0) = False ∨ len = 0 := by
    rcases Nat.eq_zero_or_pos len with h0 | h0
    · exact .inr h0
    · left
      have : len * i.sz ≠ 0 := by
        intro e
        rcases Nat.mul_eq_zero.1 e with e | e <;> omega
      simp [this]
  have hcells : (Instr.fill (fun j => some (j * i.sz, i.sz)) ((Array.range (len * z.cells.size)).map fun k => z.cells[k % z.cells.size]!) parts') = some us'.toArray := by
    rw [← h1]
    congr 1
    apply Array.ext'
    rw [zeros_eq z.cells len hzs]
  rw [hz3] at hcells
  have hlim : ¬ (len * i.sz > 2 ^ 24) := by omega
  simp only [Instr.buildSlice, Sem.run_bind, run_underlying ht1, Result.andThen_ok, (hE _ _ he).run_sizeOf, if_neg hlim]
  rcases hnz with hnz | h0
  · simp only [hnz, if_false, Sem.run_bind, hz, Result.andThen_ok, Sem.run_pure]
    simp only [hz3] at hcells ⊢
    rw [hcells]
    simp only [Sem.run_bind, run_newRow, Result.andThen_ok, Sem.run_pure]
  · subst h0
    have e1 : ∀ g : Nat → Value, (Array.range 0).map g = #[] := fun g => by simp
    simp only [Nat.zero_mul, if_true, Sem.run_bind, Sem.run_pure, Result.andThen_ok, e1] at hcells ⊢
    rw [hcells]
    simp only [Sem.run_bind, run_newRow, Result.andThen_ok, Sem.run_pure]
/-- Cells written through an address. -/
theorem writeA_ok (hx : WR x) {a : AV} {cs : List AV} {u : Value} {us : List Value} {h' : AH} (h : writeA x.h a cs = some h') (hu : x.V a u) (hV : x.Vs cs us) :
    ∃ b off w', u = .pointer (some ⟨b, off, none⟩) ∧ (storeCells ⟨b, off, none⟩ us).run P x.w = .ok () w' ∧ WR ⟨w', h', x.ρ, x.out⟩ ∧ Ext x ⟨w', h', x.ρ, x.out⟩ := by
  unfold writeA at h
  split at h
  · rename_i b off hone
    split at h
    · rename_i bs hb
      split at h
      · rename_i ds hd
        simp only [Option.some.injEq] at h
        subst h
        cases hu
        obtain ⟨c, e, vs, h1, h2, r, h3⟩ := hx.cells b bs hb
        obtain ⟨h4, h5⟩ := putAt_eq hd
        have hlen : cs.length = us.length := hV.length
        have hlb : bs.length = vs.length := h2.length
        have hcl : c.size = vs.length + r.length := by rw [← Array.length_toList, h3, List.length_append]
        have hst := run_storeCells_at P (x.ρ b) off e us 0 c x.w h1 (by omega) (hV.one hone)
        simp only [Nat.add_zero] at hst
        have hVd : x.Vs ds (vs.take off ++ us ++ vs.drop (off + us.length)) := by
          rw [h4, hlen]
          exact ((h2.take off).app hV).app (h2.drop _)
        have hnew : (c.toList.take off ++ us ++ c.toList.drop (off + us.length)) = (vs.take off ++ us ++ vs.drop (off + us.length)) ++ r := by
          rw [h3, List.take_append_of_le_length (by omega), List.drop_append_of_le_length (by omega)]
          simp only [List.append_assoc]
        obtain ⟨q1, q2⟩ := hx.poke hb h1 (c' := (c.toList.take off ++ us ++ c.toList.drop (off + us.length)).toArray) (by simp; omega) hVd (r := r) (by simpa using hnew)
          (w' := x.w.setRow (x.ρ b) (c.toList.take off ++ us ++ c.toList.drop (off + us.length)).toArray) (by simp [World.setRow]) (setRow_heap _ _ _ _ _ _ h1) (fun k hk => setRow_other _ _ _ _ hk) rfl rfl rfl
        exact ⟨_, off, _, rfl, hst, q1, q2⟩
      · cases h
    · cases h
  · cases h

theorem wrap_i64_id {n : Int} (h0 : 0 ≤ n) (h1 : n ≤ 9223372036854775807) : IntKind.i64.wrap n = n := by
  unfold IntKind.wrap
  simp only [IntKind.bits, IntKind.signed]
  have : n % (2 ^ 64 : Int) = n := Int.emod_eq_of_lt h0 (by omega)
  simp only [this]
  rw [if_neg (by simp; omega)]
theorem aMake_ok (hE : TysOk P E) (hx : WR x) {t : TypeId} {l c : AV} {ul uc : Value} {v : AV} {h' : AH} (h : aMake E x.h t l c = .val v h') (hl : x.V l ul) (hc : x.V c uc) :
    OpR P x (.val v h') ((do pure (.value (← Instr.makeSlice t ul uc)) : Sem Next).run P x.w) := by
  unfold aMake at h
  split at h
  · rename_i e _ _ _ _ li _ ci ht
    split at h
    · rename_i i hi
      split at h
      · rename_i hcond
        obtain ⟨c1, c2, c3, c4, c5⟩ := hcond
        simp only [OR.val.injEq] at h
        obtain ⟨rfl, rfl⟩ := h
        cases hl
        cases hc
        have ht1 := (hE _ _ ht).slice rfl
        obtain ⟨z, hz, hz2, hz3, _⟩ := (hE _ _ hi).run_zeroValue x.w
        obtain ⟨f, hf, _, hfb⟩ := (hE _ _ hi).run_typeInfo x.w
        have wl := wrap_i64_id c1 (by omega)
        have wc := wrap_i64_id (show 0 ≤ ci by omega) c3
        have hzs : 0 < z.cells.size := by omega
        have hcells : ((Array.range (ci.toNat * i.sz)).map fun k => z.cells[k % z.cells.size]!).toList = rep ci.toNat z.cells.toList := by
          rw [← hz3]; exact zeros_eq _ _ hzs
        have hV : x.Vs (rep ci.toNat i.zero) (rep ci.toNat z.cells.toList) := (zero_Vs hz2).rep _
        obtain ⟨ρ', a1, a2, a3, a4⟩ := alloc_ok hx hV (r := []) (e := e) (by rw [hcells]; simp) (w' := { x.w with heap := x.w.heap.push (.cells ((Array.range (ci.toNat * i.sz)).map fun k => z.cells[k % z.cells.size]!) e) }) rfl rfl rfl rfl
        have hrun : (Instr.makeSlice t (.int .i64 li) (.int .i64 ci)).run P x.w = .ok (.slice (some ⟨x.w.heap.size, 0, none⟩) li.toNat ci.toNat) { x.w with heap := x.w.heap.push (.cells ((Array.range (ci.toNat * i.sz)).map fun k => z.cells[k % z.cells.size]!) e) } := by
          have t1 : ¬ ((f.bytes : Int) * ci > 2 ^ 48) := by rw [hfb]; omega
          have t2 : ¬ (ci < 0) := by omega
          have t3 : ¬ (li < 0) := by omega
          have t4 : ¬ (li > ci) := by omega
          simp only [Instr.makeSlice, Sem.run_bind, run_underlying ht1, Result.andThen_ok, asInt, asIntOf, Sem.run_pure, hf, wl, wc, t1, t2, t3, t4, decide_false, Bool.or_self, Bool.false_eq_true, if_false]
          rw [show (askRoom (ci.toNat * f.bytes)).run P x.w = .ok () x.w by unfold askRoom; split <;> rfl]
          simp only [Result.andThen_ok, (hE _ _ hi).run_sizeOf]
          by_cases h0 : ci.toNat * i.sz = 0
          · simp only [h0, if_true]
            have e1 : ∀ g : Nat → Value, (Array.range 0).map g = #[] := fun g => by simp
            simp only [e1, Sem.run_bind, Sem.run_pure, run_newRow, Result.andThen_ok]
          · simp only [h0, if_false, Sem.run_bind, hz, Result.andThen_ok, Sem.run_pure, run_newRow]
        refine v_of hrun a2 a3 ?_
        have a4' := a4
        rw [← a1] at a4'
        rw [← a1]
        refine .sr _ _ _ _ _ _ (by simp [hnew]) (by omega) (fun k hk => by simpa using hk) ⟨_, _, a4', ?_⟩
        simp
      · cases h
    · cases h
  · cases h

/-! ### append -/
/-- append within the capacity. -/
theorem run_append_in {t1 t2 ty e : TypeId} {d2 : TypeDesc} {ei : TI} (h1 : P.underlying t1 = some (.slice e)) (h2 : P.underlying t2 = some d2) (hni : ∀ k, d2 ≠ .int k) (h3 : TyOk P e ei) (base : Option Addr) (n c m : Nat) (u : Value) (news : List Value) (w w' : World)
    (hlen : (Builtin.lenOf u).run P w = .ok m w) (hf : (Builtin.firstCells ei.sz m u).run P w = .ok news.toArray w) (hroom : n + m ≤ c)
    (hst : ∀ a, base = some a → (storeCells (a.add (n * ei.sz)) news).run P w = .ok () w') (hno : base = none → w' = w) :
    (Builtin.append_ #[t1, t2] ty #[.slice base n c, u]).run P w = .ok (.slice base (n + m) c) w' := by
  unfold Builtin.append_
  simp only [List.getElem?_toArray, List.getElem?_cons_zero, List.getElem?_cons_succ, Sem.run_bind, run_underlying h1, run_underlying h2, Result.andThen_ok, h3.run_sizeOf, Sem.run_pure, Bool.false_eq_true, if_false, hlen, Bool.not_false, if_true, hroom, hf]
  cases base with
  | none => rw [hno rfl]; rfl
  | some a => simp only [Sem.run_bind, hst a rfl, Result.andThen_ok, Sem.run_pure]
/-- append beyond the capacity. -/
theorem run_append_out {t1 t2 ty e : TypeId} {d2 : TypeDesc} {ei : TI} (h1 : P.underlying t1 = some (.slice e)) (h2 : P.underlying t2 = some d2) (hni : ∀ k, d2 ≠ .int k) (h3 : TyOk P e ei) (base : Option Addr) (n c m : Nat) (u : Value) (olds news : List Value) (w : World)
    (hlen : (Builtin.lenOf u).run P w = .ok m w) (hf : (Builtin.firstCells ei.sz m u).run P w.drew = .ok news.toArray w.drew) (ho : (Builtin.firstCells ei.sz n (.slice base n c)).run P w.drew = .ok olds.toArray w.drew)
    (hroom : c < n + m) (h63 : n + m ≤ 9223372036854775807) (hb : (n + m) * ei.bytes ≤ 140737488355328) :
    ∃ rest, (Builtin.append_ #[t1, t2] ty #[.slice base n c, u]).run P w = .ok (.slice (some ⟨w.heap.size, 0, none⟩) (n + m) (grownCap w (n + m) c e)) (w.drew.alloc (.cells (olds.toArray ++ news.toArray ++ rest) e)) ∧
      rest.size = (grownCap w (n + m) c e - (n + m)) * ei.sz := by
  obtain ⟨f, hfi, _, hfb⟩ := h3.run_typeInfo w
  obtain ⟨f', hfi', _, hfb'⟩ := h3.run_typeInfo w.drew
  obtain ⟨z, hz1, hz2, hz3, _⟩ := h3.run_zeroValue w.drew
  have hfit := growslice_fits (bytes := ei.bytes) hroom hb
  have t1 : ¬ (n + m ≤ c) := by omega
  have t2 : ¬ (Builtin.nextslicecap (n + m) c * f.bytes > 2 ^ 48) := by rw [hfb]; omega
  have t3 : ¬ (((n + m : Nat) : Int) > IntKind.i64.max) := by rw [IntKind.max_i64]; omega
  refine ⟨Builtin.zeroCells z.cells (grownCap w (n + m) c e - (n + m)), ?_, by rw [size_zeroCells, hz3]⟩
  unfold Builtin.append_
  simp only [List.getElem?_toArray, List.getElem?_cons_zero, List.getElem?_cons_succ, Sem.run_bind, run_underlying h1, run_underlying h2, Result.andThen_ok, h3.run_sizeOf, Sem.run_pure, Bool.false_eq_true, if_false, hlen, Bool.not_false, if_true, t1, t2, t3, false_and, hfi]
  rw [show (choose (.appendCap (n + m) c e)).run P w = .ok (grownCap w (n + m) c e) w.drew by rfl]
  simp only [Result.andThen_ok, hfi']
  rw [show (askRoom (grownCap w (n + m) c e * f'.bytes)).run P w.drew = .ok () w.drew by unfold askRoom; split <;> rfl]
  simp only [Result.andThen_ok, ho, hf, hz1, run_newRow]
  rfl
end
end Go.Ev

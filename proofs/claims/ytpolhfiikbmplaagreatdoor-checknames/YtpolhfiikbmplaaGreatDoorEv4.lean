/-
The abstract evaluator: what a slice holds; conversions; slices; indexes; assertions; literals; the lemma on all operations that only read.
-/
import Derived.Test.YtpolhfiikbmplaaGreatDoorEv3
namespace Go.Ev
section
variable {P : Program} {E : Env} {x : X}

/-! ### what a slice or a string holds -/
theorem bytesVals (s : List UInt8) {w : World} {bad : Nat → Prop} {ρ : Nat → Nat} {n : Nat} : VRs w bad ρ n (s.map fun b => AV.int .u8 b.toNat) (s.map fun b => Value.int .u8 b.toNat) := VRs.map fun _ _ => .int _ _
theorem cell_heap {w w' : World} (h : w'.heap = w.heap) {a : Addr} : w'.cell? a = w.cell? a := by simp [World.cell?, h]
/-- What 'firstCells' finds, at the full length. -/
theorem elems_ok (hx : WR x) {sz m : Nat} {a : AV} {u : Value} {cs : List AV} (h : elemsOf x.h sz a = some cs) (hm : lenA a = some m) (hu : x.V a u) :
    ∃ us, x.Vs cs us ∧ us.length = m * sz ∧ (∀ w', (Builtin.lenOf u).run P w' = .ok m w') ∧
      ∀ w' : World, w'.heap = x.w.heap → ∀ k, k ≤ m → (Builtin.firstCells sz k u).run P w' = .ok (us.take (k * sz)).toArray w' := by
  unfold elemsOf at h
  split at h
  · simp at h; subst h; simp [lenA] at hm; subst hm; cases hu
    exact ⟨[], .nil, by simp, fun _ => rfl, fun w' hw k hk => by simp [Builtin.firstCells]⟩
  · rename_i n' cs' cap
    simp only [lenA, Option.some.injEq] at hm
    subst hm
    split at h
    · rename_i ds hd
      split at h
      · rename_i hl
        simp only [Option.some.injEq] at h
        subst h
        cases hu with
        | sl0 _ a c _ h1 h2 =>
          refine ⟨[], .nil, by simpa using hl, fun _ => rfl, fun w' hw k hk => ?_⟩
          have hz : n' * sz = 0 := by simpa using hl.symm
          have hkz : k * sz = 0 := by
            have := Nat.mul_le_mul_right sz hk
            omega
          cases a with
          | none => simp [Builtin.firstCells]
          | some a => simp [Builtin.firstCells, hkz, loadCells, loadCellsFrom]
        | sl _ b off c d cs _ h1 h2 him =>
          obtain ⟨us, h3, h4⟩ := him.vals
          refine ⟨us, h3.up _, by rw [← h3.length]; exact hl, fun _ => rfl, fun w' hw k hk => ?_⟩
          have hkz : k * sz ≤ us.length := by rw [← h3.length, hl]; exact Nat.mul_le_mul_right sz hk
          have := run_loadCells_at (P := P) (w := w') (b := b) (off := off) (us := us.take (k * sz)) (fun i y hy => by
            rw [cell_heap hw]
            rw [List.getElem?_take] at hy
            split at hy
            · exact h4 i y hy
            · cases hy)
          rw [List.length_take, Nat.min_eq_left hkz] at this
          simpa [Builtin.firstCells] using this
      · cases h
    · cases h
  · rename_i b off sz' n' cap
    simp only [lenA, Option.some.injEq] at hm
    subst hm
    split at h
    · rename_i hsz
      subst hsz
      split at h
      · rename_i bs hb
        obtain ⟨c, e, us, h1, h2, r, h3⟩ := hcells_ok hx hb
        obtain ⟨h4, h5⟩ := takeX_eq h
        cases hu with
        | sr _ _ _ _ c' _ h6 h7 h8 h9 =>
          have hVs : x.Vs cs ((us.drop off).take (n' * sz')) := by rw [h4]; exact (h2.drop off).take _
          have hlen : ((us.drop off).take (n' * sz')).length = n' * sz' := by rw [← hVs.length, h5]
          refine ⟨(us.drop off).take (n' * sz'), hVs, hlen, fun _ => rfl, fun w' hw k hk => ?_⟩
          have hkz : k * sz' ≤ n' * sz' := Nat.mul_le_mul_right sz' hk
          have := run_loadCells_at (P := P) (w := w') (b := x.ρ b) (off := off) (us := ((us.drop off).take (n' * sz')).take (k * sz')) (fun i y hy => by
            rw [cell_heap hw]
            rw [List.getElem?_take] at hy
            split at hy
            · rw [List.getElem?_take] at hy
              split at hy
              · rw [List.getElem?_drop] at hy
                rw [cell_of_row _ _ _ _ _ _ h1, ← Array.getElem?_toList, h3, List.getElem?_append_left (List.getElem?_eq_some_iff.1 hy).1]
                exact hy
              · cases hy
            · cases hy)
          rw [List.length_take, Nat.min_eq_left (by rw [hlen]; exact hkz)] at this
          simpa [Builtin.firstCells] using this
      · cases h
    · cases h
  · rename_i s
    simp only [lenA, Option.some.injEq] at hm
    subst hm
    split at h
    · rename_i hsz
      subst hsz
      simp only [Option.some.injEq] at h
      subst h
      generalize hs1 : AV.str _ = z1 at hu
      cases hu <;> cases hs1
      rename_i t
      refine ⟨t.data.toList.map fun b => Value.int .u8 b.toNat, bytesVals _, by simp, fun _ => by simp [Builtin.lenOf], fun w' hw k hk => ?_⟩
      simp only [Builtin.firstCells, Sem.run_pure]
      congr 1
      apply Array.ext'
      simp only [Array.toList_map, Nat.mul_one, ← List.map_take]
      congr 1
      simp [ByteArray.data_extract]
    · cases h
  · cases h
theorem lenA_ok {a : AV} {m : Nat} {u : Value} (h : lenA a = some m) (hu : x.V a u) : (∃ p c, u = .slice p m c) ∨ (∃ s : ByteArray, u = .string s ∧ s.size = m) := by
  unfold lenA at h
  split at h
  · simp at h; subst h; cases hu; exact .inl ⟨_, _, rfl⟩
  · simp at h; subst h; cases hu <;> exact .inl ⟨_, _, rfl⟩
  · simp at h; subst h; cases hu; exact .inl ⟨_, _, rfl⟩
  · simp only [Option.some.injEq] at h
    generalize hs1 : AV.str _ = z1 at hu
    cases hu <;> cases hs1
    exact .inr ⟨_, rfl, by rw [← h, Array.length_toList]; rfl⟩
  · cases h

/-! ### conversions -/
def pushAll (s : ByteArray) : List UInt8 → ByteArray
  | [] => s
  | b :: l => pushAll (s.push b) l
theorem pushAll_data (s : ByteArray) (l : List UInt8) : (pushAll s l).data.toList = s.data.toList ++ l := by
  induction l generalizing s with
  | nil => simp [pushAll]
  | cons b l ih => simp [pushAll, ih]
theorem bytesLoop {w w' : World} {bad : Nat → Prop} {ρ : Nat → Nat} {n : Nat} {cs : List AV} {us : List Value} (hu : VRs w bad ρ n cs us) {l : List UInt8} (h : bytesOfCells cs = some l)
    (f : Value → ByteArray → Sem (ForInStep ByteArray)) (hf : ∀ (i : Int) s, f (.int .u8 i) s = pure (.yield (s.push (UInt8.ofNat i.toNat)))) (s : ByteArray) :
    (forIn us s f).run P w' = .ok (pushAll s l) w' := by
  induction us generalizing cs l s with
  | nil =>
    cases hu
    simp [bytesOfCells] at h
    subst h
    rfl
  | cons u us ih =>
    cases hu with
    | cons h1 h2 =>
      unfold bytesOfCells at h
      split at h
      · rename_i hh; cases hh
      · rename_i i cs' hh
        cases hh
        split at h
        · rename_i r hr
          simp at h
          subst h
          cases h1
          rw [List.forIn_cons, Sem.run_bind, hf]
          simp only [Sem.run_pure, Result.andThen_ok]
          exact ih h2 hr _
        · cases h
      · cases h
theorem aConv_ok (hE : TysOk P E) (hx : WR x) {src dst : TypeId} {a v : AV} {u : Value} (h : aConv E x.h src dst a = some v) (hu : x.V a u) : ∃ y, (convert src dst u).run P x.w = .ok y x.w ∧ x.V v y := by
  unfold aConv at h
  split at h
  · rename_i hs hd
    obtain ⟨ds, hs1, _⟩ := (hE _ _ hs).und
    have hd1 := (hE _ _ hd).int rfl
    cases hu
    simp at h
    subst h
    exact ⟨.int _ _, by simp only [convert, Sem.run_bind, run_underlying hs1, run_underlying hd1, Result.andThen_ok]; rfl, .int _ _⟩
  · rename_i hs hd
    obtain ⟨ds, hs1, _⟩ := (hE _ _ hs).und
    have hd1 := (hE _ _ hd).str rfl
    generalize hz1 : AV.str _ = z1 at hu
    cases hu <;> cases hz1
    simp at h
    subst h
    refine ⟨.string _, ?_, .str _⟩
    simp only [convert, Sem.run_bind, run_underlying hs1, run_underlying hd1, Result.andThen_ok]
    cases ds <;> rfl
  · rename_i a' _ _ _ e _ _ _ _ _ _ hs hd hns
    have hs1 := (hE _ _ hs).slice rfl
    have hd1 := (hE _ _ hd).str rfl
    split at h
    · rename_i he
      have he1 := (hE _ _ he).int rfl
      split at h
      · rename_i cs hcs
        split at h
        · rename_i l hl
          simp only [Option.some.injEq] at h
          subst h
          have hlen : ∃ m, lenA a' = some m := by
            unfold elemsOf at hcs
            split at hcs <;> first | exact ⟨_, rfl⟩ | cases hcs
          obtain ⟨m, hm⟩ := hlen
          obtain ⟨us, h1, h2, _, h4⟩ := elems_ok (P := P) hx hcs hm hu
          have h4 := h4 x.w rfl m (Nat.le_refl _)
          rw [List.take_of_length_le (by omega)] at h4
          rcases lenA_ok hm hu with ⟨p, c, rfl⟩ | ⟨s, rfl, _⟩
          · refine ⟨.string (pushAll .empty l), ?_, ?_⟩
            · simp only [convert, Sem.run_bind, run_underlying hs1, run_underlying hd1, Result.andThen_ok, run_underlying he1]
              cases p with
              | none =>
                have : us = [] := by
                  simp [Builtin.firstCells] at h4
                  simpa using h4.symm
                subst this
                cases h1
                simp [bytesOfCells] at hl
                subst hl
                rfl
              | some p =>
                simp only [Builtin.firstCells, Nat.mul_one] at h4
                simp only [Conv.bytesToString, Sem.run_bind, h4, Result.andThen_ok]
                rw [← Array.forIn_toList]
                have := bytesLoop (P := P) (w' := x.w) h1 hl (fun c (r : ByteArray) => match c with
                  | .int .u8 n => pure (.yield (r.push (UInt8.ofNat n.toNat)))
                  | _ => do
                    (stuck "bytesToString: byte expected" : Sem PUnit)
                    pure (.yield r)) (fun _ _ => rfl) .empty
                exact Eq.trans (congrArg (fun r => Result.andThen r fun a w' => Sem.run P (pure (Value.string a)) w') this) rfl
            · have := VR.str (w := x.w) (bad := x.bad) (ρ := x.ρ) (n := x.h.n) (pushAll .empty l)
              rw [pushAll_data] at this
              exact this
          · exfalso
            cases hu <;> first | exact hns _ rfl | (simp [lenA] at hm)
        · cases h
      · cases h
    · cases h
  · cases h
end
end Go.Ev

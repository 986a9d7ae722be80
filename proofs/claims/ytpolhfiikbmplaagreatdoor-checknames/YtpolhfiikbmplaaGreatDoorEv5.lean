/-
The abstract evaluator: slices, indexes, assertions, literals.
-/
import Derived.Test.YtpolhfiikbmplaaGreatDoorEv4
namespace Go.Ev
section
variable {P : Program} {E : Env} {x : X}

/-! ### slice expressions -/
def OV (x : X) : Option AV → Option Value → Prop
  | none, none => True
  | some a, some u => x.V a u
  | _, _ => False
theorem OV.map {x : X} {α : Type} (f : α → AV) (g : α → Value) (h : ∀ y, x.V (f y) (g y)) (o : Option α) : OV x (o.map f) (o.map g) := by cases o <;> simp [OV, h]
theorem bndA_ok {y y' m : Nat} {a : AV} {u : Value} (h : bndA y' a = some m) (hy : y' ≤ y) (hu : x.V a u) (code : BoundsCode) : (Instr.sliceBound u y code).run P x.w = .ok m x.w ∧ m ≤ y' := by
  unfold bndA at h
  split at h
  · split at h
    · rename_i i hi
      simp only [Option.some.injEq] at h
      subst h
      cases hu
      have : 0 ≤ i ∧ i ≤ (y : Int) := ⟨hi.1, by omega⟩
      refine ⟨?_, by omega⟩
      simp only [Instr.sliceBound, asIntOf, Sem.run_bind, Sem.run_pure, Result.andThen_ok]
      rw [if_pos this]
      rfl
    · cases h
  · cases h
theorem bndO_ok {y y' m d : Nat} {a : Option AV} {u : Option Value} (h : bndO y' d a = some m) (hy : y' ≤ y) (hu : OV x a u) (code : BoundsCode) :
    (match u with | some v => Instr.sliceBound v y code | none => pure d).run P x.w = .ok m x.w ∧ (m ≤ y' ∨ (a = none ∧ m = d)) := by
  cases a with
  | none => cases u with
    | none => simp [bndO] at h; subst h; exact ⟨rfl, .inr ⟨rfl, rfl⟩⟩
    | some => simp [OV] at hu
  | some a => cases u with
    | none => simp [OV] at hu
    | some u =>
      obtain ⟨h1, h2⟩ := bndA_ok (P := P) (by simpa [bndO] using h) hy (by simpa [OV] using hu) code
      exact ⟨h1, .inl h2⟩
theorem bnds_ok {n c : Nat} {cap : Option Nat} {lo hi mx : Option AV} {lo' hi' mx' : Option Value} {l h : Nat} {m : Option Nat} (hb : bnds n cap lo hi mx = some (l, h, m)) (hn : n ≤ c) (hc : CapOk cap c)
    (hlo : OV x lo lo') (hhi : OV x hi hi') (hmx : OV x mx mx') (isSlice : Bool) :
    ∃ mc, (Instr.sliceBounds isSlice n c lo' hi' mx').run P x.w = .ok (l, h, mc) x.w ∧ l ≤ h ∧ h ≤ mc ∧ CapOk m mc ∧ mc ≤ c := by
  have hcap : cap.getD n ≤ c := by
    cases cap with
    | none => exact hn
    | some k => rw [hc k rfl]; exact Nat.le_refl _
  unfold bnds at hb
  split at hb
  · rename_i mv
    cases mx' with
    | none => simp [OV] at hmx
    | some mu =>
      split at hb
      · rename_i m1 hv hm1
        cases hi' with
        | none => simp [OV] at hhi
        | some hu =>
          split at hb
          · rename_i h1 hh1
            split at hb
            · rename_i l1 hl1
              simp only [Option.some.injEq, Prod.mk.injEq] at hb
              obtain ⟨rfl, rfl, rfl⟩ := hb
              obtain ⟨a1, a2⟩ := bndA_ok (P := P) hm1 hcap (by simpa [OV] using hmx) (if isSlice then .slice3Acap else .slice3Alen)
              obtain ⟨b1, b2⟩ := bndA_ok (P := P) hh1 (Nat.le_refl _) (by simpa [OV] using hhi) .slice3B
              obtain ⟨c1, c2⟩ := bndO_ok (P := P) hl1 (Nat.le_refl _) hlo .slice3C
              refine ⟨m1, ?_, by omega, b2, fun k hk => by simpa using hk, by omega⟩
              cases lo' with
              | none =>
                simp at c1
                simp [Instr.sliceBounds, a1, b1, c1]
              | some lu => simp at c1; simp [Instr.sliceBounds, a1, b1, c1]
            · cases hb
          · cases hb
      · cases hb
  · cases mx' with
    | some mu => simp [OV] at hmx
    | none =>
      split at hb
      · rename_i h1 hh1
        split at hb
        · rename_i l1 hl1
          simp only [Option.some.injEq, Prod.mk.injEq] at hb
          obtain ⟨rfl, rfl, rfl⟩ := hb
          obtain ⟨b1, b2⟩ := bndO_ok (P := P) hh1 hcap hhi (if isSlice then .sliceAcap else .sliceAlen)
          obtain ⟨c1, c2⟩ := bndO_ok (P := P) hl1 (Nat.le_refl _) hlo .sliceB
          refine ⟨c, ?_, by omega, by omega, hc, Nat.le_refl _⟩
          cases lo' <;> cases hi' <;> simp at b1 c1 <;> simp [Instr.sliceBounds, b1, c1]
        · cases hb
      · cases hb
theorem aSlice_ok (hE : TysOk P E) {t : TypeId} {a v : AV} {u : Value} {lo hi mx : Option AV} {lo' hi' mx' : Option Value} (h : aSlice E t a lo hi mx = some v) (hu : x.V a u)
    (hlo : OV x lo lo') (hhi : OV x hi hi') (hmx : OV x mx mx') : ∃ y, (Instr.sliceAt t u lo' hi' mx').run P x.w = .ok y x.w ∧ x.V v y := by
  unfold aSlice at h
  split at h
  · rename_i s
    split at h
    · rename_i ht
      have ht1 := (hE _ _ ht).str rfl
      cases mx' with
      | some => simp [OV] at hmx
      | none =>
        split at h
        · rename_i h1 hh1
          split at h
          · rename_i l1 hl1
            simp only [Option.some.injEq] at h
            subst h
            generalize hz1 : AV.str _ = z1 at hu
            cases hu <;> cases hz1
            rename_i s
            have hsz : s.data.toList.length = s.size := by rw [Array.length_toList]; rfl
            rw [hsz] at hh1
            obtain ⟨b1, b2⟩ := bndO_ok (P := P) hh1 (Nat.le_refl _) hhi .sliceAlen
            obtain ⟨c1, c2⟩ := bndO_ok (P := P) hl1 (Nat.le_refl _) hlo .sliceB
            refine ⟨.string (s.extract l1 h1), ?_, ?_⟩
            · cases lo' <;> cases hi' <;> simp at b1 c1 <;> simp [Instr.sliceAt, Instr.slice, run_underlying ht1, Instr.sliceBounds, b1, c1]
            · have := VR.str (w := x.w) (bad := x.bad) (ρ := x.ρ) (n := x.h.n) (s.extract l1 h1)
              rw [ByteArray.data_extract, Array.toList_extract, List.extract_eq_take_drop, ← List.drop_take] at this
              exact this
          · cases h
        · cases h
    · cases h
  · cases hu
    split at h
    · rename_i ht
      have ht1 := (hE _ _ ht).slice rfl
      split at h
      · rename_i i hi
        split at h
        · rename_i p hp
          obtain ⟨l, hh, m⟩ := p
          simp only [Option.some.injEq] at h
          subst h
          obtain ⟨mc, h1, h2, h3, h4, h5⟩ := bnds_ok (P := P) hp (Nat.le_refl 0) (fun k hk => by simpa using hk) hlo hhi hmx true
          refine ⟨.slice none 0 0, ?_, .nils⟩
          have e1 : hh = 0 := by omega
          have e2 : mc = 0 := by omega
          have e3 : l = 0 := by omega
          subst e1
          subst e2
          subst e3
          simp [Instr.sliceAt, run_underlying ht1, Instr.slice, h1, (hE _ _ hi).run_sizeOf]
        · cases h
      · cases h
    · cases h
  · rename_i n cs cap
    split at h
    · rename_i ht
      have ht1 := (hE _ _ ht).slice rfl
      split at h
      · rename_i i hi
        split at h
        · rename_i hl
          split at h
          · rename_i l hh m hp
            split at h
            · rename_i hhn
              simp only [Option.some.injEq] at h
              subst h
              cases hu with
              | sl0 _ a c _ h1 h2 =>
                obtain ⟨mc, h3, h4, h5, h6, h7⟩ := bnds_ok (P := P) hp h1 h2 hlo hhi hmx true
                refine ⟨.slice (if mc = l then a else a.map (·.add (l * i.sz))) (hh - l) (mc - l), ?_, ?_⟩
                · simp [Instr.sliceAt, run_underlying ht1, Instr.slice, h3, (hE _ _ hi).run_sizeOf]
                · simp only [List.take_nil, List.drop_nil]
                  exact .sl0 _ _ _ _ (by omega) (fun k hk => by
                    cases m with
                    | none => simp at hk
                    | some m => simp at hk; rw [h6 m rfl]; exact hk)
              | sl _ b off c d cs' _ h1 h2 him =>
                obtain ⟨mc, h3, h4, h5, h6, h7⟩ := bnds_ok (P := P) hp h1 h2 hlo hhi hmx true
                have hcap : CapOk (m.map (· - l)) (mc - l) := fun k hk => by
                  cases m with
                  | none => simp at hk
                  | some m => simp at hk; rw [h6 m rfl]; exact hk
                refine ⟨.slice (if mc = l then some ⟨b, off, none⟩ else some (Addr.add ⟨b, off, none⟩ (l * i.sz))) (hh - l) (mc - l), ?_, ?_⟩
                · simp [Instr.sliceAt, run_underlying ht1, Instr.slice, h3, (hE _ _ hi).run_sizeOf]
                · cases hq : ((d :: cs').take (hh * i.sz)).drop (l * i.sz) with
                  | nil => exact .sl0 _ _ _ _ (by omega) hcap
                  | cons d2 cs2 =>
                    have hne : mc ≠ l := by
                      intro e
                      have : hh = l := by omega
                      subst this
                      have := congrArg List.length hq
                      simp at this
                    rw [if_neg hne, Addr.add_lit]
                    refine .sl _ _ _ _ _ _ _ (by omega) hcap ?_
                    rw [← hq]
                    exact (him.take _).drop _
            · cases h
          · cases h
        · cases h
      · cases h
    · cases h
  · rename_i b off sz n cap
    split at h
    · rename_i ht
      have ht1 := (hE _ _ ht).slice rfl
      split at h
      · rename_i i hi
        split at h
        · rename_i hsz
          subst hsz
          split at h
          · rename_i l hh m hp
            cases hu with
            | sr _ _ _ _ c _ hb h1 h2 h8 =>
              obtain ⟨mc, h3, h4, h5, h6, h7⟩ := bnds_ok (P := P) hp h1 h2 hlo hhi hmx true
              have hcap : CapOk (m.map (· - l)) (mc - l) := fun k hk => by
                cases m with
                | none => simp at hk
                | some m => simp at hk; rw [h6 m rfl]; exact hk
              have hrun : (Instr.sliceAt t (.slice (some ⟨x.ρ b, off, none⟩) n c) lo' hi' mx').run P x.w = .ok (.slice (if mc = l then some ⟨x.ρ b, off, none⟩ else some (Addr.add ⟨x.ρ b, off, none⟩ (l * i.sz))) (hh - l) (mc - l)) x.w := by
                simp [Instr.sliceAt, run_underlying ht1, Instr.slice, h3, (hE _ _ hi).run_sizeOf]
              split at h
              · rename_i hor
                simp only [Option.some.injEq] at h
                subst h
                have hp : (if mc = l then some ⟨x.ρ b, off, none⟩ else some (Addr.add ⟨x.ρ b, off, none⟩ (l * i.sz))) = some (⟨x.ρ b, off + l * i.sz, none⟩ : Addr) := by
                  split
                  · have : l = 0 := by omega
                    simp [this]
                  · rw [Addr.add_lit]
                rw [hp] at hrun
                refine ⟨_, hrun, .sr _ _ _ _ _ _ hb (by omega) hcap ?_⟩
                obtain ⟨c1, e1, h9, h10⟩ := h8
                refine ⟨c1, e1, h9, Nat.le_trans ?_ h10⟩
                have hle : l * i.sz + (mc - l) * i.sz ≤ c * i.sz := by
                  rw [← Nat.add_mul]
                  exact Nat.mul_le_mul_right _ (by omega)
                omega
              · simp only [Option.some.injEq] at h
                subst h
                refine ⟨_, hrun, ?_⟩
                have : hh - l = 0 := by omega
                rw [this]
                exact .sl0 _ _ _ _ (Nat.zero_le _) hcap
          · cases h
        · cases h
      · cases h
    · cases h
  · cases h

/-! ### indexes -/
theorem aIndexAddr_ok (hE : TysOk P E) {t : TypeId} {a ix v : AV} {u ui : Value} (h : aIndexAddr E t a ix = some v) (hu : x.V a u) (hi : x.V ix ui) : ∃ y, (Instr.indexAt t u ui).run P x.w = .ok y x.w ∧ x.V v y := by
  unfold aIndexAddr at h
  split at h
  · rename_i k i
    cases hi
    split at h
    · rename_i e _ _ _ ht
      have ht1 := (hE _ _ ht).slice rfl
      split at h
      · rename_i ei he
        split at h
        · rename_i n cs cap
          split at h
          · rename_i hr
            split at h
            · rename_i hl
              split at h
              · cases h
              · simp only [Option.some.injEq] at h
                subst h
                cases hu with
                | sl0 _ a c _ h1 h2 => rename_i hne; exact absurd rfl hne
                | sl _ b off c d cs' _ h1 h2 him =>
                  refine ⟨.pointer (some (Addr.add ⟨b, off, none⟩ (i.toNat * ei.sz))), ?_, ?_⟩
                  · simp [Instr.indexAt, asIntOf, run_underlying ht1, (hE _ _ he).run_sizeOf, hr]
                  · rw [Addr.add_lit]
                    exact .ip _ _ _ (him.drop _)
            · cases h
          · cases h
        · rename_i b off sz n cap
          split at h
          · rename_i hr
            split at h
            · rename_i hsz
              subst hsz
              simp only [Option.some.injEq] at h
              subst h
              cases hu with
              | sr _ _ _ _ c _ hb h1 h2 h8 =>
                refine ⟨.pointer (some (Addr.add ⟨x.ρ b, off, none⟩ (i.toNat * ei.sz))), ?_, ?_⟩
                · simp [Instr.indexAt, asIntOf, run_underlying ht1, (hE _ _ he).run_sizeOf, hr]
                · rw [Addr.add_lit]
                  exact .ptr _ _ hb
            · cases h
          · cases h
        · cases h
      · cases h
    · rename_i n e _ _ _ ht
      have ht1 := (hE _ _ ht).arr rfl
      split at h
      · rename_i ei he
        split at h
        · rename_i hr
          split at h
          · simp only [Option.some.injEq] at h
            subst h
            rename_i b off
            cases hu with
            | ptr _ _ hb =>
              refine ⟨.pointer (some (Addr.add ⟨x.ρ b, off, none⟩ (i.toNat * ei.sz))), ?_, ?_⟩
              · simp [Instr.indexAt, Instr.sureAddr, asIntOf, run_underlying ht1, (hE _ _ he).run_sizeOf, hr]
              · rw [Addr.add_lit]
                exact .ptr _ _ hb
          · simp only [Option.some.injEq] at h
            subst h
            cases hu with
            | ip b off cs him =>
              refine ⟨.pointer (some (Addr.add ⟨b, off, none⟩ (i.toNat * ei.sz))), ?_, ?_⟩
              · simp [Instr.indexAt, Instr.sureAddr, asIntOf, run_underlying ht1, (hE _ _ he).run_sizeOf, hr]
              · rw [Addr.add_lit]
                exact .ip _ _ _ (him.drop _)
          · cases h
        · cases h
      · cases h
    · cases h
  · cases h
theorem aIndex_ok (hE : TysOk P E) {t : TypeId} {a ix v : AV} {u ui : Value} (h : aIndex E t a ix = some v) (hu : x.V a u) (hi : x.V ix ui) : ∃ y, (Instr.index t u ui).run P x.w = .ok y x.w ∧ x.V v y := by
  unfold aIndex at h
  split at h
  · rename_i k i
    cases hi
    split at h
    · rename_i h0
      split at h
      · rename_i s _ _ _ ht
        have ht1 := (hE _ _ ht).str rfl
        generalize hz1 : AV.str _ = z1 at hu
        cases hu <;> cases hz1
        rename_i s
        split at h
        · rename_i b hb
          simp only [Option.some.injEq] at h
          subst h
          rw [nth_eq] at hb
          obtain ⟨hlt, hbe⟩ := List.getElem?_eq_some_iff.1 hb
          have hsz : i.toNat < s.size := by rw [Array.length_toList] at hlt; exact hlt
          refine ⟨.int .u8 (s[i.toNat]'hsz).toNat, ?_, ?_⟩
          · rw [run_index_string _ _ _ _ _ ht1, dif_pos ⟨h0, by omega⟩]
          · have : s[i.toNat]'hsz = b := by rw [← hbe]; rfl
            rw [this]
            exact .int _ _
        · cases h
      · rename_i cs n e _ _ _ ht
        have ht1 := (hE _ _ ht).arr rfl
        split at h
        · rename_i hn
          split at h
          · rename_i ei he
            cases hu with
            | agg _ us hu =>
              obtain ⟨y, h1, h2⟩ := partA_ok (P := P) hE h hu x.w
              refine ⟨y, ?_, h2⟩
              simp [Instr.index, asIntOf, run_underlying ht1, (hE _ _ he).run_sizeOf, h0, hn, h1]
          · cases h
        · cases h
      · cases h
    · cases h
  · cases h
end
end Go.Ev

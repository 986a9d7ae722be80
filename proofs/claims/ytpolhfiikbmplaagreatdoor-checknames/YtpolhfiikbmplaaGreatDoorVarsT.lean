/-
expr.Vars: from the evaluator's trees to expressions in memory, and to the names.
-/
import Derived.Test.YtpolhfiikbmplaaGreatDoorVarsV
import Derived.Test.YtpolhfiikbmplaaGreatDoorEvN
namespace Go.Ev
open Go.Proofs
def isSl : AV → Bool
  | .nils => true
  | .sl _ _ _ => true
  | _ => false
def kidsF {α : Type} (f : AV → Option (List α)) : Nat → List AV → Option (List α)
  | 0, _ => some []
  | k + 1, cs => match takeX 7 cs with
    | some c => match f (.agg c) with
      | some a => match kidsF f k (cs.drop 7) with
        | some b => some (a ++ b)
        | none => none
      | none => none
    | none => none
/-- The nodes of an expression, each with its operation and its name. -/
def nodesA : Nat → AV → Option (List (Int × List UInt8))
  | 0, _ => none
  | d + 1, v => match v with
    | .agg [.int .i64 o, .int .i64 _, .bool _, c3, c4, .str nm, kids] => match isSl c3 && isSl c4 with
      | true => match kids with
        | .nils => some [(o, nm)]
        | .sl k cs _ => match Nat.ble k 1000 && Nat.beq cs.length (k * 7) with
          | true => match kidsF (nodesA d) k cs with
            | some l => some ((o, nm) :: l)
            | none => none
          | false => none
        | _ => none
      | false => none
    | _ => none
section
variable {w : World} {bad : Nat → Prop} {ρ : Nat → Nat}
theorem isSl_val {v : AV} {u : Value} (h : isSl v = true) (hV : VR w bad ρ 0 v u) : ∃ (a : Option Addr) (l k : Nat), u = .slice a l k := by
  cases hV <;> first | exact ⟨_, _, _, rfl⟩ | (simp [isSl] at h)
theorem str_val {s : List UInt8} {u : Value} {n : Nat} (hV : VR w bad ρ n (.str s) u) : ∃ t : ByteArray, u = .string t ∧ t.data.toList = s := by
  generalize hs : AV.str s = z at hV
  cases hV <;> cases hs
  exact ⟨_, rfl, rfl⟩
theorem kids_of {d : Nat} (ih : ∀ (v : AV) (l : List (Int × List UInt8)) (u : Value), nodesA d v = some l → VR w bad ρ 0 v u → ∃ ns : List Value, IsT w d u ns ∧ ns.map keyV = l) {b : Nat} :
    ∀ (k off : Nat) (cs : List AV) (l : List (Int × List UInt8)), kidsF (nodesA d) k cs = some l → IM w bad ρ b off cs → ∃ kss : List (Value × List Value), kss.length = k ∧ (kss.flatMap (·.2)).map keyV = l ∧
      ∀ i p, kss[i]? = some p → IsT w d p.1 p.2 ∧ ∃ (o g : Int) (sg : Bool) (a3 : Option Addr) (l3 k3 : Nat) (a4 : Option Addr) (l4 k4 : Nat) (nm : ByteArray) (a6 : Option Addr) (l6 k6 : Nat), p.1 = .agg #[.int .i64 o, .int .i64 g, .bool sg, .slice a3 l3 k3, .slice a4 l4 k4, .string nm, .slice a6 l6 k6] ∧
        w.cell? ⟨b, off + i * 7, none⟩ = some (.int .i64 o) ∧ w.cell? ⟨b, off + i * 7 + 1, none⟩ = some (.int .i64 g) ∧ w.cell? ⟨b, off + i * 7 + 2, none⟩ = some (.bool sg) ∧ w.cell? ⟨b, off + i * 7 + 3, none⟩ = some (.slice a3 l3 k3) ∧
        w.cell? ⟨b, off + i * 7 + 4, none⟩ = some (.slice a4 l4 k4) ∧ w.cell? ⟨b, off + i * 7 + 5, none⟩ = some (.string nm) ∧ w.cell? ⟨b, off + i * 7 + 6, none⟩ = some (.slice a6 l6 k6)
  | 0, off, cs, l, h, _ => by
    simp only [kidsF, Option.some.injEq] at h
    subst h
    exact ⟨[], rfl, rfl, by simp⟩
  | k + 1, off, cs, l, h, hM => by
    simp only [kidsF] at h
    split at h
    · rename_i c hc
      obtain ⟨rfl, hlen⟩ := takeX_eq hc
      split at h
      · rename_i a ha
        split at h
        · rename_i b' hb'
          simp only [Option.some.injEq] at h
          subst h
          obtain ⟨us, hVs, hcell⟩ := (hM.take 7).vals
          obtain ⟨ns, hT, hns⟩ := ih _ _ _ ha (.agg _ _ hVs)
          obtain ⟨kss, h1, h2, h3⟩ := kids_of ih k (off + 7) (cs.drop 7) b' hb' (hM.drop 7)
          refine ⟨(.agg us.toArray, ns) :: kss, by simp [h1], by simp [h2, hns], fun i p hp => ?_⟩
          cases i with
          | zero =>
            simp only [List.getElem?_cons_zero, Option.some.injEq] at hp
            subst hp
            refine ⟨hT, ?_⟩
            cases d with
            | zero => exact hT.elim
            | succ d =>
              obtain ⟨c0, c1, c2, x3, y3, z3, x4, y4, z4, c5, a6, k6, cap, _, hv, _⟩ := hT
              have hu : us = [.int .i64 c0, .int .i64 c1, .bool c2, .slice x3 y3 z3, .slice x4 y4 z4, .string c5, .slice a6 k6 cap] := by
                simp only [Value.agg.injEq] at hv
                simpa using congrArg Array.toList hv
              subst hu
              exact ⟨c0, c1, c2, x3, y3, z3, x4, y4, z4, c5, a6, k6, cap, rfl, by simpa using hcell 0 _ rfl, by simpa using hcell 1 _ rfl, by simpa using hcell 2 _ rfl, by simpa using hcell 3 _ rfl, by simpa using hcell 4 _ rfl, by simpa using hcell 5 _ rfl, by simpa using hcell 6 _ rfl⟩
          | succ i =>
            simp only [List.getElem?_cons_succ] at hp
            obtain ⟨q1, o, g, sg, a3, l3, k3, a4, l4, k4, nm, a6, l6, k6, e1, e2⟩ := h3 i p hp
            refine ⟨q1, o, g, sg, a3, l3, k3, a4, l4, k4, nm, a6, l6, k6, e1, ?_⟩
            have e : off + (i + 1) * 7 = off + 7 + i * 7 := by omega
            rw [e]
            exact e2
        · cases h
      · cases h
    · cases h
/-- The tree says what lies in memory. -/
theorem isT_of : ∀ (d : Nat) (v : AV) (l : List (Int × List UInt8)) (u : Value), nodesA d v = some l → VR w bad ρ 0 v u → ∃ ns : List Value, IsT w d u ns ∧ ns.map keyV = l
  | 0, _, _, _, h, _ => by simp [nodesA] at h
  | d + 1, v, l, u, h, hV => by
    unfold nodesA at h
    split at h
    · rename_i o g sg c3 c4 nm kids
      cases hV with
      | agg _ us hVs =>
        cases hVs with | cons v0 hVs => cases hVs with | cons v1 hVs => cases hVs with | cons v2 hVs => cases hVs with | cons v3 hVs => cases hVs with | cons v4 hVs => cases hVs with | cons v5 hVs => cases hVs with | cons v6 hVs =>
        cases hVs
        cases v0
        cases v1
        cases v2
        obtain ⟨s, rfl, hs⟩ := str_val v5
        split at h
        · rename_i h34
          rw [Bool.and_eq_true] at h34
          obtain ⟨x3, y3, z3, rfl⟩ := isSl_val h34.1 v3
          obtain ⟨x4, y4, z4, rfl⟩ := isSl_val h34.2 v4
          split at h
          · cases v6
            simp only [Option.some.injEq] at h
            subst h
            exact ⟨[_], ⟨o, g, sg, x3, y3, z3, x4, y4, z4, s, none, 0, 0, [], rfl, rfl, rfl, by simp, by simp⟩, by simp [keyV, hs]⟩
          · rename_i k cs cap
            split at h
            · rename_i hk
              rw [Bool.and_eq_true] at hk
              have hk1 : k ≤ 1000 := Nat.le_of_ble_eq_true hk.1
              have hk2 : cs.length = k * 7 := Nat.eq_of_beq_eq_true hk.2
              split at h
              · rename_i l' hl'
                simp only [Option.some.injEq] at h
                subst h
                cases v6 with
                | sl0 _ a c _ h1 h2 =>
                  have : k = 0 := by simp at hk2; omega
                  subst this
                  simp only [kidsF, Option.some.injEq] at hl'
                  subst hl'
                  exact ⟨[_], ⟨o, g, sg, x3, y3, z3, x4, y4, z4, s, a, 0, c, [], rfl, rfl, rfl, by simp, by simp⟩, by simp [keyV, hs]⟩
                | sl _ b off c d' cs' _ h1 h2 hM =>
                  obtain ⟨kss, e1, e2, e3⟩ := kids_of (isT_of d) k off _ _ hl' hM
                  refine ⟨_ :: kss.flatMap (·.2), ⟨o, g, sg, x3, y3, z3, x4, y4, z4, s, some ⟨b, off, none⟩, k, c, kss, rfl, e1, rfl, by omega, fun i p hp => ?_⟩, by simp [keyV, hs, e2]⟩
                  obtain ⟨q1, o', g', sg', a3, l3, k3, a4, l4, k4, nm', a6, l6, k6, e4, e5⟩ := e3 i p hp
                  exact ⟨q1, b, off, o', g', sg', a3, l3, k3, a4, l4, k4, nm', a6, l6, k6, rfl, e4, e5⟩
              · cases h
            · cases h
          · cases h
        · cases h
    · cases h
end
end Go.Ev

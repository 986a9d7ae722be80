/-
expr.Vars: an oracle for expressions whose variables bear one name.
-/
import Derived.Test.YtpolhfiikbmplaaGreatDoorVarsT
import Derived.Test.YtpolhfiikbmplaaGreatDoorTab
namespace Go.Ev
open Go.Proofs Go.RowKit
def varNames : List (Int × List UInt8) → List (List UInt8)
  | [] => []
  | (o, nm) :: l => match o == 2 with
    | true => nm :: varNames l
    | false => varNames l
/-- What Vars hands back where every variable bears one and the same name. -/
def varsO (E : Env) (fV fValid f : FuncId) (args : List AV) : Option AV := match Nat.beq f fV, args with
  | true, [v] => match runV E 1000 fValid [v] with
    | some (.bool true) => match nodesA 64 v with
      | some l => match varNames l with
        | nm :: rest => match allB (fun x => x == nm) rest && Nat.ble nm.length 1000 && Nat.ble l.length 1000 with
          | true => some (.tup [.sl 1 [.str nm] none, .int .i64 0])
          | false => none
        | [] => none
      | none => none
    | _ => none
  | _, _ => none
theorem varNames_mem {nm : List UInt8} : ∀ {l : List (Int × List UInt8)}, nm ∈ varNames l ↔ (2, nm) ∈ l
  | [] => by simp [varNames]
  | (o, x) :: l => by
    simp only [varNames]
    split
    · rename_i h
      have : o = 2 := by simpa using h
      subst this
      simp [varNames_mem (l := l)]
    · rename_i h
      have : o ≠ 2 := by simpa using h
      simp [varNames_mem (l := l), Ne.symm this]
theorem varsO_ok (hE : EnvOk Tryz.prog (envW fun _ _ => none)) {E' : Env} (ho : E'.orc = varsO (envW fun _ _ => none) 298 106) : OrcSound Tryz.prog E' := by
  intro f args x vs v hx hh hV h
  rw [ho] at h
  unfold varsO at h
  split at h
  · rename_i a hf
    have e1 : f = 298 := Nat.eq_of_beq_eq_true hf
    subst e1
    split at h
    · rename_i hval
      split at h
      · rename_i l hl
        split at h
        · rename_i nm rest hn
          split at h
          · rename_i hc
            simp only [Option.some.injEq] at h
            subst h
            rw [Bool.and_eq_true, Bool.and_eq_true] at hc
            obtain ⟨⟨hc1, hc2⟩, hc3⟩ := hc
            have hc2 : nm.length ≤ 1000 := Nat.le_of_ble_eq_true hc2
            have hc3 : l.length ≤ 1000 := Nat.le_of_ble_eq_true hc3
            have hall : ∀ y, (2, y) ∈ l → y = nm := fun y hy => by
              have := varNames_mem.2 hy
              rw [hn] at this
              rcases List.mem_cons.1 this with rfl | hy
              · rfl
              · exact eq_of_beq (allB_iff.1 hc1 y hy)
            have hex : (2, nm) ∈ l := varNames_mem.1 (by rw [hn]; exact List.mem_cons_self)
            cases hV with
            | cons hv hnil =>
              cases hnil
              rename_i u
              have hv0 : VR x.w x.bad x.ρ 0 a u := by
                have hv := hv
                rw [hh] at hv
                exact hv
              obtain ⟨ns, hT, hns⟩ := isT_of 64 a l u hl hv0
              have hq : ∀ y ∈ ns, (keyV y).1 = 2 → (keyV y).2 = nm := fun y hy h2 => hall _ (by
                rw [← hns]
                exact List.mem_map.2 ⟨y, hy, Prod.ext h2 rfl⟩)
              obtain ⟨y, hy, hy2⟩ : ∃ y ∈ ns, keyV y = (2, nm) := List.mem_map.1 (by rw [hns]; exact hex)
              obtain ⟨w0, h0, ρ, out⟩ := x
              simp only at hh
              subst hh
              refine ⟨⟨_, Tryz.func298, by kernel_rfl, rfl⟩, (Vars_calls w0 64 u ns nm hT hq ⟨y, hy, by rw [hy2]⟩ hc2 (by rw [← hns, List.length_map] at hc3; exact hc3) (fun W hW => ?_)).mono fun e w' hp => ?_⟩
              · obtain ⟨g1, g2⟩ := hx.grow (w' := W) hW.size hW.os hW.tape hW.output (fun k hk => hW.block k hk (by simp))
                obtain ⟨_, q2⟩ := runV_ok hE hval g1 rfl (.cons (g2.V hv) .nil)
                refine q2.mono fun e w' hp => ?_
                obtain ⟨b, ρ', rfl, e2, e3, e4⟩ := hp
                cases e4
                refine ⟨rfl, ⟨e3.os, e3.tape, e3.output, e3.size, fun k hk _ => e3.blk k hk ?_⟩⟩
                rintro ⟨b, cs, h, _⟩
                have := hget_lt h
                simp [AH.empty] at this
              · obtain ⟨b, off, c, s, rfl, rfl, hc1, hb1, hcell, hbel⟩ := hp
                obtain ⟨g1, g2⟩ := hx.grow hbel.size hbel.os hbel.tape hbel.output hbel.block
                refine ⟨_, ρ, rfl, g1, g2, .tup _ [_, _] (.cons (.sl 1 b off c _ _ none hc1 (fun k hk => by cases hk) ?_) (.cons (.int _ _) .nil))⟩
                refine IM.mk (fun hbad => ?_) fun i v hv => ?_
                · rcases hbad with hbad | ⟨b', cs, hh', _⟩
                  · exact Nat.lt_irrefl _ (Nat.lt_of_lt_of_le (hx.outLt _ hbad) hb1)
                  · have := hget_lt hh'
                    simp [AH.empty] at this
                · cases i with
                  | zero =>
                    simp only [List.getElem?_cons_zero, Option.some.injEq] at hv
                    subst hv
                    exact ⟨_, hcell, .str s⟩
                  | succ i => simp at hv
          · cases h
        · cases h
      · cases h
    · cases h
  · cases h
noncomputable def envA : Env := envW (varsO (envW fun _ _ => none) 298 106)
end Go.Ev

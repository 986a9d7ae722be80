/-
CheckNames: the call.
-/
import Derived.Test.YtpolhfiikbmplaaGreatDoorNamesR3
import Derived.ProofKit
namespace Go.Ev
open Go.Proofs Go.RowKit
theorem int_bounds' {i : Int} (h : (Lit.int .i64 i).wf = true) : -9223372036854775808 ≤ i ∧ i ≤ 9223372036854775807 := by
  simpa [Lit.wf, IntKind.min, IntKind.max, IntKind.signed, IntKind.bits] using h
theorem wr_start {W : World} (hg : Gl W (fun _ => False) id) : WR ⟨W, .empty, id, fun _ => False⟩ where
  len := rfl
  cells := fun b cs h => by have := hget_lt h; simp [AH.empty] at this
  ro := fun b cs h => by have := hget_lt h; simp [AH.empty] at this
  inj := fun b b' cs cs' h => by have := hget_lt h; simp [AH.empty] at this
  outOk := fun b cs h => by have := hget_lt h; simp [AH.empty] at this
  outLt := fun k hk => hk.elim
  gl := hg.tr ⟨fun b off u hb hc => ⟨hc, fun hbad => by
    rcases hbad with h | ⟨b, cs, h, _⟩
    · exact h
    · have := hget_lt h; simp [AH.empty] at this⟩, fun b hb => absurd hb (Nat.not_lt_zero _), Nat.le_refl _, fun k m h => h⟩
theorem below_of {W W' : World} {h : AH} {ρ : Nat → Nat} (he : Ext ⟨W, .empty, id, fun _ => False⟩ ⟨W', h, ρ, fun _ => False⟩) : Below W.heap.size W W' :=
  ⟨he.os, he.tape, he.output, he.size, fun k hk => he.blk k hk (by
    rintro ⟨b, cs, h, _⟩
    have := hget_lt h
    simp [AH.empty] at this)⟩
theorem names_calls (W : World) (hg : Gl W (fun _ => False) id) (i : Int) (wi : (Lit.int .i64 i).wf = true) (s : ByteArray) :
    Calls Tryz.prog 4 #[.int .i64 i, .string s] W fun e W' => e = .returned (.bool true) ∧ Below W.heap.size W W' := by
  have hx := wr_start hg
  have hb := int_bounds' wi
  obtain ⟨r, hr, hrv⟩ := ruleKs_all (w := W) (bad := X.bad ⟨W, .empty, id, fun _ => False⟩) (ρ := id) hb.1 hb.2
  obtain ⟨t, ht, htv⟩ := textKs_all (w := W) (bad := X.bad ⟨W, .empty, id, fun _ => False⟩) (ρ := id) s
  obtain ⟨h1, he⟩ := isTrueR_ok (allB_iff.1 (names_run r hr) t ht)
  have hV : X.Vs ⟨W, .empty, id, fun _ => False⟩ [r.av, t.av] [.int .i64 i, .string s] := .cons hrv (.cons htv .nil)
  obtain ⟨_, hc⟩ := evCall_ok envN_ok 100 _ _ ⟨W, .empty, id, fun _ => False⟩ _ _ hx hV he (by simp)
  refine hc.mono fun e W' hp => ?_
  obtain ⟨u, ρ', rfl, q1, q2, q3⟩ := hp
  cases q3
  exact ⟨rfl, below_of q2⟩
end Go.Ev

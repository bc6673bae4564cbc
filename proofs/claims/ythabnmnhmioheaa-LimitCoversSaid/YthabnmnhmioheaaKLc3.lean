/- The law LimitCovers returns true whatever comes in, and leaves its arguments as they were. No condition. -/
import Derived.Test.YthabnmnhmioheaaKLc2
import Derived.Test.YthabnmnhmioheaaRows
import Derived.WalkKit
import Derived.ProofKit
import Derived.OpenShut
import Derived.ShutString
import Derived.ChangeOld
import Derived.Below
import Derived.SizedLaws
import Derived.Carry
namespace Go.Proofs.Ythabnmnhmioheaa.limitCovers
open Go.ChangeShapes Go.WideShapes Go.ChangeAt Go.RowKit Go.Proofs.Ythabnmnhmioheaa.Opens Go.Proofs.Ythabnmnhmioheaa.C Go.Proofs.YthabnmnhmioheaaW.PrintWords
open Go.ChangeMaps (open_string shut_string)
set_option linter.unusedVariables false
theorem own : ownKnob Try.prog.godebug = none := by kernel_rfl
theorem laidOut : laidOutB Try.prog = true := by kernel_rfl
set_option maxRecDepth 100000 in
theorem lifted (os : Os) (started : os.Started) (H : Type) (enc : TypeId × Value → H) :
    ReturnsInHanded {} Try.checked os 4 .any (Rows.limitCoversSpec.pre6 enc Try.prog Try.f4 Rows.limitCoversRow.domain false) (Rows.limitCoversSpec.post enc Try.prog Try.f4 false true false false) := by
  refine returnsInHanded_of_change_sized (C := Try.checked) own started (by kernel_rfl) Try.func4
    (ChangeSpec.witness6 (enc := enc) (C := Try.checked) false ⟨#[], #[.agg #[.int .i64 0, .int .i64 0], .agg #[.int .i64 0, .int .i64 0]], []⟩ 8 (by kernel_rfl) (by kernel_rfl) (by kernel_rfl) (by kernel_rfl)) ?_
  intro W base args ds gs before hval0 hW hcnd hsz0 _
  have hval : ∀ (j : Nat) t v, Try.f4.params[j]? = some t → args[j]? = some v → Value.okWide Try.prog W .any base t v := hval0
  have hW' := hW
  obtain ⟨p, q, hA0, hV, rfl, hfz, hnd⟩ := hW
  have hA : DataW.TrodAll enc Try.prog W 0 (fun _ => true) true Try.f4.params.toList args.toList ds p := hA0
  rw [Try.params4] at hA hval
  obtain ⟨v0, vs0, d0, ds0, p0, q0, hargs, rfl, rfl, h0, r0⟩ := trodAll_cons hA
  obtain ⟨v1, vs1, d1, ds1, p1, q1, rfl, rfl, rfl, h1, r1⟩ := trodAll_cons r0
  obtain ⟨rfl, rfl, rfl⟩ := trodAll_nil r1
  obtain rfl : args = #[v0, v1] := by cases args; simp_all
  obtain ⟨rfl, rfl⟩ := trodVars_none hV
  have lt0 := trod_lts h0
  obtain ⟨cs0, rfl, _⟩ := okWide_struct Try.underlying29 (hval 0 29 v0 rfl rfl)
  obtain ⟨b0, hK0, ok0⟩ := Opn.arg (opn29 W) h0
  obtain ⟨L0, hL0⟩ : ∃ L, L = cs0.toList := ⟨_, rfl⟩
  replace hK0 : ((Kd.pair (Kd.int .i64) (Kd.int .i64))).K W b0 L0 := by rw [hL0]; exact hK0
  obtain ⟨a0_0, a0_1⟩ := b0
  obtain ⟨_, _, rfl, rfl, rfl⟩ := hK0
  obtain ⟨w0_0, w0_1⟩ := ok0
  obtain rfl : cs0 = #[.int .i64 a0_0, .int .i64 a0_1] := by cases cs0; simp_all
  have lt1 := trod_lts h1
  obtain ⟨cs1, rfl, _⟩ := okWide_struct Try.underlying29 (hval 1 29 v1 rfl rfl)
  obtain ⟨b1, hK1, ok1⟩ := Opn.arg (opn29 W) h1
  obtain ⟨L1, hL1⟩ : ∃ L, L = cs1.toList := ⟨_, rfl⟩
  replace hK1 : ((Kd.pair (Kd.int .i64) (Kd.int .i64))).K W b1 L1 := by rw [hL1]; exact hK1
  obtain ⟨a1_0, a1_1⟩ := b1
  obtain ⟨_, _, rfl, rfl, rfl⟩ := hK1
  obtain ⟨w1_0, w1_1⟩ := ok1
  obtain rfl : cs1 = #[.int .i64 a1_0, .int .i64 a1_1] := by cases cs1; simp_all
  clear hA0 hval0 hsz0
  obtain ⟨k, hk⟩ := Pure.PureLimitCovers a0_0 a0_1 a1_0 a1_1 w0_0 w0_1 w1_0 w1_1
  refine (Qy.calls k a0_0 a0_1 a1_0 a1_1 true W hk).mono fun e W' ⟨he, bel⟩ => ?_
  subst he
  exact ⟨_, rfl, _, _, _, [], _, [], hW', trodAll_mk1 (shut_bool Try.underlying4 _), (trodAll_cons_mk (Below.trod laidOut (by kernel_rfl) (of_decide_eq_true (by kernel_rfl)) h0 bel lt0) (trodAll_cons_mk (Below.trod laidOut (by kernel_rfl) (of_decide_eq_true (by kernel_rfl)) h1 bel lt1) trodAll_mk0)), rfl, bel.frame _, fun h => by cases h⟩
theorem over : Rows.limitCoversRow.holds Try.pinned (OpenSpec.ofChange Rows.limitCoversSpec) :=
  OpenClaim.holds_of_wide 4 Try.f4 rfl rfl rfl rfl rfl rfl rfl ⟨rfl, rfl, rfl, rfl, rfl⟩ rfl rfl rfl rfl rfl (by kernel_rfl) Try.func4 (by kernel_rfl)
    (of_decide_eq_true (by kernel_rfl)) (by unfold Func.isWrapper; first | (rw [if_pos (by decide +kernel)]; kernel_rfl) | (rw [if_neg (by decide +kernel)]; exact ⟨rfl, rfl⟩))
    (fun os started H enc _ => lifted os started H enc)
end Go.Proofs.Ythabnmnhmioheaa.limitCovers
namespace Go.Proofs.Ythabnmnhmioheaa
theorem limitCovers_holds : Rows.LimitCoversSaid := limitCovers.over
#print axioms limitCovers_holds
end Go.Proofs.Ythabnmnhmioheaa

/-
  GeometryPoints: the law returns true for every input; what came in reads as it did.
-/
import Derived.Test.YtilglbkpapbkpaaRows
import Derived.Test.YtilglbkpapbkpaaGh
import Derived.Test.YtilglbkpapbkpaaEvz
namespace Go.Proofs.Ytilglbkpapbkpaa.geometryPoints
open Go.Ev
open Go.ChangeShapes Go.WideShapes Go.ChangeAt Go.RowKit
theorem own : ownKnob Try.prog.godebug = none := by kernel_rfl
theorem laidOut : laidOutB Try.prog = true := by kernel_rfl
set_option maxRecDepth 100000 in
theorem lifted (os : Os) (started : os.Started) (H : Type) (enc : TypeId × Value → H) :
    ReturnsInHanded {} Try.checked os 9 .any (Rows.geometryPointsSpec.pre6 enc Try.prog Try.f9 Rows.geometryPointsRow.domain false) (Rows.geometryPointsSpec.post enc Try.prog Try.f9 false true false false) := by
  refine returnsInHanded_of_change (C := Try.checked) own started (by kernel_rfl) Try.func9
    (ChangeSpec.witness6 (enc := enc) (C := Try.checked) false ⟨#[], #[.agg #[.int .i64 0, .int .i64 0, .int .i64 0, .int .i64 0], .agg #[.int .i64 0, .int .i64 0, .int .i64 0, .int .i64 0], .agg #[.int .i64 0, .int .i64 0]], []⟩ 8 (by kernel_rfl) (by kernel_rfl) (by kernel_rfl) (by kernel_rfl)) ?_
  intro W base args ds gs before hval0 hW hcnd _
  have hval : ∀ (j : Nat) t v, Try.f9.params[j]? = some t → args[j]? = some v → Value.okWide Try.prog W .any base t v := hval0
  obtain ⟨p, q, hA0, hV, hpq, hfz, hnd⟩ := id hW
  have hA : DataW.TrodAll enc Try.prog W 0 (fun _ => true) true Try.f9.params.toList args.toList ds p := hA0
  rw [Try.params9] at hA hval
  obtain ⟨v0, vs0, d0, ds0, p0, q0, hargs, rfl, rfl, h0, r0⟩ := trodAll_cons hA
  obtain ⟨v1, vs1, d1, ds1, p1, q1, rfl, rfl, rfl, h1, r1⟩ := trodAll_cons r0
  obtain ⟨v2, vs2, d2, ds2, p2, q2, rfl, rfl, rfl, h2, r2⟩ := trodAll_cons r1
  obtain ⟨rfl, rfl, rfl⟩ := trodAll_nil r2
  obtain rfl : args = #[v0, v1, v2] := by cases args; simp_all
  clear hA0 hA hval0 hcnd hargs
  obtain ⟨c0, rfl, hF0⟩ := open_flat (ks := [some .i64, some .i64, some .i64, some .i64]) (by kernel_rfl) (hval 0 23 _ rfl rfl) h0
  obtain ⟨a0_0, _, rfl, _, a0_1, _, rfl, _, a0_2, _, rfl, _, a0_3, _, rfl, _, rfl⟩ := hF0
  obtain ⟨c1, rfl, hF1⟩ := open_flat (ks := [some .i64, some .i64, some .i64, some .i64]) (by kernel_rfl) (hval 1 23 _ rfl rfl) h1
  obtain ⟨a1_0, _, rfl, _, a1_1, _, rfl, _, a1_2, _, rfl, _, a1_3, _, rfl, _, rfl⟩ := hF1
  obtain ⟨c2, rfl, hF2⟩ := open_flat (ks := [some .i64, some .i64]) (by kernel_rfl) (hval 2 31 _ rfl rfl) h2
  obtain ⟨a2_0, _, rfl, _, a2_1, _, rfl, _, rfl⟩ := hF2
  refine (points_p a0_0 a0_1 a0_2 a0_3 a1_0 a1_1 a1_2 a1_3 a2_0 a2_1 W).mono fun e W' ⟨he, bel⟩ => ?_
  subst he
  exact ⟨_, rfl, law_post laidOut (by kernel_rfl) rfl Try.underlying4 rfl rfl rfl rfl hW bel⟩
theorem over : Rows.geometryPointsRow.holds Try.pinned (OpenSpec.ofChange Rows.geometryPointsSpec) :=
  OpenClaim.holds_of_wide 9 Try.f9 rfl rfl rfl rfl rfl rfl rfl ⟨rfl, rfl, rfl, rfl, rfl⟩ rfl rfl rfl rfl rfl (by kernel_rfl) Try.func9 (by kernel_rfl)
    (of_decide_eq_true (by kernel_rfl)) (by unfold Func.isWrapper; first | (rw [if_pos (by decide +kernel)]; kernel_rfl) | (rw [if_neg (by decide +kernel)]; exact ⟨rfl, rfl⟩))
    (fun os started H enc _ => lifted os started H enc)
end Go.Proofs.Ytilglbkpapbkpaa.geometryPoints
namespace Go.Proofs.Ytilglbkpapbkpaa
/-- The given statement. -/
theorem geometryPoints_holds : Rows.GeometryPointsSaid := geometryPoints.over
#print axioms geometryPoints_holds
end Go.Proofs.Ytilglbkpapbkpaa

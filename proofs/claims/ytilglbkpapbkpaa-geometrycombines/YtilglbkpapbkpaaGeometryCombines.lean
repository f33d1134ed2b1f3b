/-
  GeometryCombines: the law returns true for every input; what came in reads as it did.
-/
import Derived.Test.YtilglbkpapbkpaaRows
import Derived.Test.YtilglbkpapbkpaaGp
import Derived.Test.YtilglbkpapbkpaaEvz
namespace Go.Proofs.Ytilglbkpapbkpaa.geometryCombines
open Go.Ev
open Go.ChangeShapes Go.WideShapes Go.ChangeAt Go.RowKit
theorem own : ownKnob Try.prog.godebug = none := by kernel_rfl
theorem laidOut : laidOutB Try.prog = true := by kernel_rfl
set_option maxRecDepth 100000 in
theorem lifted (os : Os) (started : os.Started) (H : Type) (enc : TypeId × Value → H) :
    ReturnsInHanded {} Try.checked os 6 .any (Rows.geometryCombinesSpec.pre6 enc Try.prog Try.f6 Rows.geometryCombinesRow.domain false) (Rows.geometryCombinesSpec.post enc Try.prog Try.f6 false true false false) := by
  refine returnsInHanded_of_change (C := Try.checked) own started (by kernel_rfl) Try.func6
    (ChangeSpec.witness6 (enc := enc) (C := Try.checked) false ⟨#[], #[.agg #[.int .i64 0, .int .i64 0, .int .i64 0, .int .i64 0], .agg #[.int .i64 0, .int .i64 0, .int .i64 0, .int .i64 0], .bool false, .bool false, .agg #[.int .i64 0, .int .i64 0, .int .i64 0, .int .i64 0], .agg #[.int .i64 0, .int .i64 0]], []⟩ 8 (by kernel_rfl) (by kernel_rfl) (by kernel_rfl) (by kernel_rfl)) ?_
  intro W base args ds gs before hval0 hW hcnd _
  have hval : ∀ (j : Nat) t v, Try.f6.params[j]? = some t → args[j]? = some v → Value.okWide Try.prog W .any base t v := hval0
  obtain ⟨p, q, hA0, hV, hpq, hfz, hnd⟩ := id hW
  have hA : DataW.TrodAll enc Try.prog W 0 (fun _ => true) true Try.f6.params.toList args.toList ds p := hA0
  rw [Try.params6] at hA hval
  obtain ⟨v0, vs0, d0, ds0, p0, q0, hargs, rfl, rfl, h0, r0⟩ := trodAll_cons hA
  obtain ⟨v1, vs1, d1, ds1, p1, q1, rfl, rfl, rfl, h1, r1⟩ := trodAll_cons r0
  obtain ⟨v2, vs2, d2, ds2, p2, q2, rfl, rfl, rfl, h2, r2⟩ := trodAll_cons r1
  obtain ⟨v3, vs3, d3, ds3, p3, q3, rfl, rfl, rfl, h3, r3⟩ := trodAll_cons r2
  obtain ⟨v4, vs4, d4, ds4, p4, q4, rfl, rfl, rfl, h4, r4⟩ := trodAll_cons r3
  obtain ⟨v5, vs5, d5, ds5, p5, q5, rfl, rfl, rfl, h5, r5⟩ := trodAll_cons r4
  obtain ⟨rfl, rfl, rfl⟩ := trodAll_nil r5
  obtain rfl : args = #[v0, v1, v2, v3, v4, v5] := by cases args; simp_all
  clear hA0 hA hval0 hcnd hargs
  obtain ⟨c0, rfl, hF0⟩ := open_flat (ks := [some .i64, some .i64, some .i64, some .i64]) (by kernel_rfl) (hval 0 41 _ rfl rfl) h0
  obtain ⟨a0_0, _, rfl, _, a0_1, _, rfl, _, a0_2, _, rfl, _, a0_3, _, rfl, _, rfl⟩ := hF0
  obtain ⟨c1, rfl, hF1⟩ := open_flat (ks := [some .i64, some .i64, some .i64, some .i64]) (by kernel_rfl) (hval 1 41 _ rfl rfl) h1
  obtain ⟨a1_0, _, rfl, _, a1_1, _, rfl, _, a1_2, _, rfl, _, a1_3, _, rfl, _, rfl⟩ := hF1
  obtain ⟨a2, rfl, rfl, rfl⟩ := open_bool Try.underlying4 (hval 2 4 _ rfl rfl) h2
  obtain ⟨a3, rfl, rfl, rfl⟩ := open_bool Try.underlying4 (hval 3 4 _ rfl rfl) h3
  obtain ⟨c4, rfl, hF4⟩ := open_flat (ks := [some .i64, some .i64, some .i64, some .i64]) (by kernel_rfl) (hval 4 23 _ rfl rfl) h4
  obtain ⟨a4_0, _, rfl, _, a4_1, _, rfl, _, a4_2, _, rfl, _, a4_3, _, rfl, _, rfl⟩ := hF4
  obtain ⟨c5, rfl, hF5⟩ := open_flat (ks := [some .i64, some .i64]) (by kernel_rfl) (hval 5 31 _ rfl rfl) h5
  obtain ⟨a5_0, _, rfl, _, a5_1, _, rfl, _, rfl⟩ := hF5
  refine (combines_p a0_0 a0_1 a0_2 a0_3 a1_0 a1_1 a1_2 a1_3 a2 a3 a4_0 a4_1 a4_2 a4_3 a5_0 a5_1 W).mono fun e W' ⟨he, bel⟩ => ?_
  subst he
  exact ⟨_, rfl, law_post laidOut (by kernel_rfl) rfl Try.underlying4 rfl rfl rfl rfl hW bel⟩
theorem over : Rows.geometryCombinesRow.holds Try.pinned (OpenSpec.ofChange Rows.geometryCombinesSpec) :=
  OpenClaim.holds_of_wide 6 Try.f6 rfl rfl rfl rfl rfl rfl rfl ⟨rfl, rfl, rfl, rfl, rfl⟩ rfl rfl rfl rfl rfl (by kernel_rfl) Try.func6 (by kernel_rfl)
    (of_decide_eq_true (by kernel_rfl)) (by unfold Func.isWrapper; first | (rw [if_pos (by decide +kernel)]; kernel_rfl) | (rw [if_neg (by decide +kernel)]; exact ⟨rfl, rfl⟩))
    (fun os started H enc _ => lifted os started H enc)
end Go.Proofs.Ytilglbkpapbkpaa.geometryCombines
namespace Go.Proofs.Ytilglbkpapbkpaa
/-- The given statement. -/
theorem geometryCombines_holds : Rows.GeometryCombinesSaid := geometryCombines.over
#print axioms geometryCombines_holds
end Go.Proofs.Ytilglbkpapbkpaa

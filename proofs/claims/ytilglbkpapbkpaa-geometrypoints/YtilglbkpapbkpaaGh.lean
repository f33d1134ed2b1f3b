import Derived.Test.YtilglbkpapbkpaaGj
namespace Go.Proofs.Ytilglbkpapbkpaa
open Go.Ev
set_option maxRecDepth 4000
theorem points1 (a b : Quad) (p q : Int) : (!(contP (interP a b).1 (interP a b).2.1 (interP a b).2.2.1 (interP a b).2.2.2 p q == (contP a.1 a.2.1 a.2.2.1 a.2.2.2 p q && contP b.1 b.2.1 b.2.2.1 b.2.2.2 p q))) = false := by
  simp only [contP_eq, inter_eq, inter_pt]
  cases (contR a.1 a.2.1 a.2.2.1 a.2.2.2 p q && contR b.1 b.2.1 b.2.2.1 b.2.2.2 p q) <;> rfl
theorem points2 (a b : Quad) (p q : Int) (e : Int) (he : e = sel (badR (unionP a b).1 (unionP a b).2.1 (unionP a b).2.2.1 (unionP a b).2.2.2) 1 0) :
    ((e != 0 || (!contP a.1 a.2.1 a.2.2.1 a.2.2.2 p q && !contP b.1 b.2.1 b.2.2.1 b.2.2.2 p q)) || contP (unionP a b).1 (unionP a b).2.1 (unionP a b).2.2.1 (unionP a b).2.2.2 p q) = true := by
  subst he
  rw [sel_ne]
  simp only [contP_eq, union_eq]
  cases h1 : badR (unionR a b).1 (unionR a b).2.1 (unionR a b).2.2.1 (unionR a b).2.2.2 with
  | true => rfl
  | false =>
    cases h2 : contR a.1 a.2.1 a.2.2.1 a.2.2.2 p q <;> cases h3 : contR b.1 b.2.1 b.2.2.1 b.2.2.2 p q
    · rfl
    · rw [union_pt a b p q h1 (.inr h3)]; rfl
    · rw [union_pt a b p q h1 (.inl h2)]; rfl
    · rw [union_pt a b p q h1 (.inl h2)]; rfl
theorem points_p (x y u v x2 y2 u2 v2 p q : Int) : Pure Try.prog 9 [.agg #[.int .i64 x, .int .i64 y, .int .i64 u, .int .i64 v], .agg #[.int .i64 x2, .int .i64 y2, .int .i64 u2, .int .i64 v2], .agg #[.int .i64 p, .int .i64 q]] (.bool true) := by
  refine Pure.of_ok 50 [.tmp 6] [(0, .s (.agg [.v (.int .i64 x), .v (.int .i64 y), .v (.int .i64 u), .v (.int .i64 v)])), (1, .s (.agg [.v (.int .i64 x2), .v (.int .i64 y2), .v (.int .i64 u2), .v (.int .i64 v2)])), (2, .s (.agg [.v (.int .i64 p), .v (.int .i64 q)]))] Try.func9 rfl rfl rfl rfl rfl fun w => ?_
  refine Ok.seq ?_
  refine Ok.region ?_
  refine OkOps.m 1 (triBox (j := 0) (cs := [.v (.int _ _), .v (.int _ _), .v (.int _ _), .v (.int _ _)]) rfl rfl rfl rfl rfl) ?_
  refine OkOps.m 2 (triBox (j := 1) (cs := [.v (.int _ _), .v (.int _ _), .v (.int _ _), .v (.int _ _)]) rfl rfl rfl rfl rfl) ?_
  refine OkOps.m 3 (triBox (j := 2) (cs := [.v (.int _ _), .v (.int _ _)]) rfl rfl rfl rfl rfl) ?_
  refine OkOps.q (triQ (x := .c (.v (.bool _))) rfl trivial rfl) ?_
  refine OkOps.nil ?_
  refine Ok.seq ?_
  refine Ok.regionD (by kernel_rfl) ?_
  refine OkD.q (triQ (x := .agg [.v (.int _ _), .v (.int _ _), .v (.int _ _), .v (.int _ _)]) rfl trivial rfl) ?_
  refine OkD.q (triQ (x := .agg [.v (.int _ _), .v (.int _ _), .v (.int _ _), .v (.int _ _)]) rfl trivial rfl) ?_
  refine OkD.q (triCallP (x := .s (.agg [.v (.int _ _), .v (.int _ _), .v (.int _ _), .v (.int _ _)])) rfl trivial entry30 (Intersect_p _ _ _ _ _ _ _ _) rfl rfl) ?_
  refine OkD.q (triQ (x := .agg [.v (.int _ _), .v (.int _ _), .v (.int _ _), .v (.int _ _)]) rfl trivial rfl) ?_
  refine OkD.q (triQ (x := .agg [.v (.int _ _), .v (.int _ _), .v (.int _ _), .v (.int _ _)]) rfl trivial rfl) ?_
  refine OkD.q (triCallP (x := .s (.agg [.v (.int _ _), .v (.int _ _), .v (.int _ _), .v (.int _ _)])) rfl trivial entry32 (Union_p _ _ _ _ _ _ _ _) rfl rfl) ?_
  refine OkD.m 4 (triAlloc (j := 3) (cs := [.v (.int _ _), .v (.int _ _), .v (.int _ _), .v (.int _ _)]) rfl rfl rfl rfl) ?_
  refine OkD.m 5 (triAlloc (j := 4) (cs := [.v (.int _ _), .v (.int _ _), .v (.int _ _), .v (.int _ _)]) rfl rfl rfl rfl) ?_
  refine OkD.w (triStore (cs' := [.v (.int _ _), .v (.int _ _), .v (.int _ _), .v (.int _ _)]) rfl rfl rfl rfl rfl rfl rfl rfl rfl) ?_
  refine OkD.w (triStore (cs' := [.v (.int _ _), .v (.int _ _), .v (.int _ _), .v (.int _ _)]) rfl rfl rfl rfl rfl rfl rfl rfl rfl) ?_
  refine OkD.nil (by kernel_rfl) ?_
  refine Ok.seq ?_
  refine Ok.regionD (by kernel_rfl) ?_
  refine OkD.q (triQ (x := .agg [.v (.int _ _), .v (.int _ _), .v (.int _ _), .v (.int _ _)]) rfl trivial rfl) ?_
  refine OkD.q (triQ (x := .agg [.v (.int _ _), .v (.int _ _)]) rfl trivial rfl) ?_
  refine OkD.q (triCallP (x := .s (.c (.v (.bool _)))) rfl trivial entry13 (Contains_p _ _ _ _ _ _) rfl rfl) ?_
  refine OkD.q (triQ (x := .agg [.v (.int _ _), .v (.int _ _), .v (.int _ _), .v (.int _ _)]) rfl trivial rfl) ?_
  refine OkD.q (triQ (x := .agg [.v (.int _ _), .v (.int _ _)]) rfl trivial rfl) ?_
  refine OkD.q (triCallP (x := .s (.c (.v (.bool _)))) rfl trivial entry13 (Contains_p _ _ _ _ _ _) rfl rfl) ?_
  refine OkD.q (triQ (x := .c (.v (.bool _))) rfl trivial rfl) ?_
  refine OkD.q (triQ (x := .c (.v (.bool _))) rfl trivial rfl) ?_
  refine OkD.nil (by kernel_rfl) ?_
  refine Ok.seq ?_
  refine Ok.seq ?_
  refine Ok.region ?_
  refine OkOps.q (triQ (x := .agg [.v (.int _ _), .v (.int _ _), .v (.int _ _), .v (.int _ _)]) rfl trivial rfl) ?_
  refine OkOps.q (triQ (x := .agg [.v (.int _ _), .v (.int _ _)]) rfl trivial rfl) ?_
  refine OkOps.q (triCallP (x := .s (.c (.v (.bool _)))) rfl trivial entry13 (Contains_p _ _ _ _ _ _) rfl rfl) ?_
  refine OkOps.q (triQ (x := .c (.v (.bool _))) rfl trivial rfl) ?_
  refine OkOps.q (triQ (x := .c (.v (.bool _))) rfl trivial rfl) ?_
  refine OkOps.q (triQG (x := .c (.v (.bool _))) rfl rfl trivial rfl) ?_
  refine OkOps.q (triAnd rfl rfl (fun h => h) rfl) ?_
  refine OkOps.q (triQ (x := .c (.v (.bool _))) rfl trivial rfl) ?_
  refine OkOps.nil ?_
  refine Ok.cond rfl (fun h1 => absurd h1 (by rw [show _ = _ from points1 (x, y, u, v) (x2, y2, u2, v2) p q]; simp)) (fun h1 => ?_)
  refine Ok.skip ?_
  refine Ok.seq ?_
  refine Ok.region ?_
  refine OkOps.q (triQ (x := .agg [.v (.int _ _), .v (.int _ _), .v (.int _ _), .v (.int _ _)]) rfl trivial rfl) ?_
  refine OkOps.q (triCallP (x := .s (.c (.v (.int _ _)))) rfl trivial entry25 (Validate_p _ _ _ _) rfl rfl) ?_
  refine OkOps.q (triQ (x := .c (.v (.bool _))) rfl trivial rfl) ?_
  refine OkOps.q (triQ (x := .c (.v (.bool _))) rfl trivial rfl) ?_
  refine OkOps.q (triQG (x := .c (.v (.bool _))) rfl rfl trivial rfl) ?_
  refine OkOps.q (triQG (x := .c (.v (.bool _))) rfl rfl ⟨fun h => h, trivial⟩ rfl) ?_
  refine OkOps.q (triQG (x := .c (.v (.bool _))) rfl rfl ⟨fun h => h, trivial⟩ rfl) ?_
  refine OkOps.q (triQG (x := .c (.v (.bool _))) rfl rfl trivial rfl) ?_
  refine OkOps.q (triQG (x := .c (.v (.bool _))) rfl rfl ⟨fun h => h, trivial⟩ rfl) ?_
  refine OkOps.q (triAndG rfl rfl rfl (fun h => h) (fun h h2 => by simp_all) rfl) ?_
  refine OkOps.q (triOr rfl rfl (fun h => by rw [h]; rfl) rfl) ?_
  refine OkOps.q (triQ (x := .c (.v (.bool _))) rfl trivial rfl) ?_
  refine OkOps.q (triQG (x := .agg [.v (.int _ _), .v (.int _ _), .v (.int _ _), .v (.int _ _)]) rfl rfl trivial rfl) ?_
  refine OkOps.q (triQG (x := .agg [.v (.int _ _), .v (.int _ _)]) rfl rfl trivial rfl) ?_
  refine OkOps.q (triCallPG (x := .c (.v (.bool _))) rfl rfl ⟨fun h => h, ⟨fun h => h, trivial⟩⟩ entry13 (fun _ => Contains_p _ _ _ _ _ _) rfl rfl) ?_
  refine OkOps.q (triOr rfl rfl (fun h => by rw [h]; rfl) rfl) ?_
  refine OkOps.q (triQ (x := .c (.v (.bool _))) rfl trivial rfl) ?_
  refine OkOps.q (triCallPG (x := .c (.v (.bool _))) rfl rfl trivial entry12 (fun _ => awake_p) rfl rfl) ?_
  refine OkOps.q (triAnd rfl rfl (fun h => h) rfl) ?_
  refine OkOps.q (triQ (x := .c (.v (.bool _))) rfl trivial rfl) ?_
  refine OkOps.nil ?_
  refine Ok.ret ?_
  refine ⟨_, rfl, bv ?_⟩
  rw [Bool.and_true]
  exact points2 (x, y, u, v) (x2, y2, u2, v2) p q _ rfl
end Go.Proofs.Ytilglbkpapbkpaa

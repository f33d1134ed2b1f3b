import Derived.Test.YtilglbkpapbkpaaGm
namespace Go.Proofs.Ytilglbkpapbkpaa
open Go.Ev
set_option maxRecDepth 4000
theorem back_p (a b c d : Int) (m : Bool) (x y u v p q : Int) : Pure Try.prog 4 [.int .i64 a, .int .i64 b, .int .i64 c, .int .i64 d, .bool m, .agg #[.int .i64 x, .int .i64 y, .int .i64 u, .int .i64 v], .agg #[.int .i64 p, .int .i64 q]] (.bool true) := by
  refine Pure.of_ok 58 [.tmp 14] [(0, .s (.c (.v (.int .i64 a)))), (1, .s (.c (.v (.int .i64 b)))), (2, .s (.c (.v (.int .i64 c)))), (3, .s (.c (.v (.int .i64 d)))), (4, .s (.c (.v (.bool m)))), (5, .s (.agg [.v (.int .i64 x), .v (.int .i64 y), .v (.int .i64 u), .v (.int .i64 v)])), (6, .s (.agg [.v (.int .i64 p), .v (.int .i64 q)]))] Try.func4 rfl rfl rfl rfl rfl fun w => ?_
  refine Ok.seq ?_
  refine Ok.region ?_
  refine OkOps.m 1 (triBox (j := 0) (cs := [.v (.int _ _), .v (.int _ _), .v (.int _ _), .v (.int _ _)]) rfl rfl rfl rfl rfl) ?_
  refine OkOps.m 2 (triBox (j := 1) (cs := [.v (.int _ _), .v (.int _ _)]) rfl rfl rfl rfl rfl) ?_
  refine OkOps.q (triQ (x := .c (.v (.bool _))) rfl trivial rfl) ?_
  refine OkOps.nil ?_
  refine Ok.seq ?_
  refine Ok.region ?_
  refine OkOps.q (triQ (x := .c (.v (.int _ _))) rfl trivial rfl) ?_
  refine OkOps.q (triQ (x := .c (.v (.int _ _))) rfl trivial rfl) ?_
  refine OkOps.q (triQ (x := .c (.v (.int _ _))) rfl trivial rfl) ?_
  refine OkOps.q (triQ (x := .c (.v (.int _ _))) rfl trivial rfl) ?_
  refine OkOps.q (triQ (x := .c (.v (.bool _))) rfl trivial rfl) ?_
  refine OkOps.q (triCallP (x := .s (.agg [.v (.int _ _), .v (.bool _), .v (.int _ _), .v (.int _ _), .v (.int _ _)])) rfl trivial entry10 (small_p _ _ _ _ _) rfl rfl) ?_
  refine OkOps.m 3 (triAlloc (j := 2) (cs := [.v (.int _ _), .v (.bool _), .v (.int _ _), .v (.int _ _), .v (.int _ _)]) rfl rfl rfl rfl) ?_
  refine OkOps.w (triStore (cs' := [.v (.int _ _), .v (.bool _), .v (.int _ _), .v (.int _ _), .v (.int _ _)]) rfl rfl rfl rfl rfl rfl rfl rfl rfl) ?_
  refine OkOps.nil ?_
  refine Ok.seq ?_
  refine Ok.region ?_
  refine OkOps.q (triQ (x := .c (.loc 0 0)) rfl trivial rfl) ?_
  refine OkOps.q (triQ (x := .c (.v (.int _ _))) rfl trivial rfl) ?_
  refine OkOps.q (triQ (x := .c (.v (.int _ _))) rfl trivial rfl) ?_
  refine OkOps.q (triQ (x := .c (.loc 0 1)) rfl trivial rfl) ?_
  refine OkOps.q (triQ (x := .c (.v (.int _ _))) rfl trivial rfl) ?_
  refine OkOps.q (triQ (x := .c (.v (.int _ _))) rfl trivial rfl) ?_
  refine OkOps.q (triQ (x := .c (.loc 0 2)) rfl trivial rfl) ?_
  refine OkOps.q (triQ (x := .c (.v (.int _ _))) rfl trivial rfl) ?_
  refine OkOps.q (triQ (x := .c (.v (.int _ _))) rfl trivial rfl) ?_
  refine OkOps.q (triQ (x := .c (.loc 0 3)) rfl trivial rfl) ?_
  refine OkOps.q (triQ (x := .c (.v (.int _ _))) rfl trivial rfl) ?_
  refine OkOps.q (triQ (x := .c (.v (.int _ _))) rfl trivial rfl) ?_
  refine OkOps.q (triQ (x := .agg [.v (.int _ _), .v (.int _ _), .v (.int _ _), .v (.int _ _)]) rfl trivial rfl) ?_
  refine OkOps.m 4 (triAlloc (j := 3) (cs := [.v (.int _ _), .v (.int _ _), .v (.int _ _), .v (.int _ _)]) rfl rfl rfl rfl) ?_
  refine OkOps.w (triStore (cs' := [.v (.int _ _), .v (.int _ _), .v (.int _ _), .v (.int _ _)]) rfl rfl rfl rfl rfl rfl rfl rfl rfl) ?_
  refine OkOps.nil ?_
  refine Ok.seq ?_
  refine Ok.region ?_
  refine OkOps.q (triQ (x := .c (.loc 1 0)) rfl trivial rfl) ?_
  refine OkOps.q (triQ (x := .c (.v (.int _ _))) rfl trivial rfl) ?_
  refine OkOps.q (triQ (x := .c (.v (.int _ _))) rfl trivial rfl) ?_
  refine OkOps.q (triQ (x := .c (.loc 1 1)) rfl trivial rfl) ?_
  refine OkOps.q (triQ (x := .c (.v (.int _ _))) rfl trivial rfl) ?_
  refine OkOps.q (triQ (x := .c (.v (.int _ _))) rfl trivial rfl) ?_
  refine OkOps.q (triQ (x := .agg [.v (.int _ _), .v (.int _ _)]) rfl trivial rfl) ?_
  refine OkOps.m 5 (triAlloc (j := 4) (cs := [.v (.int _ _), .v (.int _ _)]) rfl rfl rfl rfl) ?_
  refine OkOps.w (triStore (cs' := [.v (.int _ _), .v (.int _ _)]) rfl rfl rfl rfl rfl rfl rfl rfl rfl) ?_
  refine OkOps.nil ?_
  refine Ok.seq ?_
  refine Ok.regionD (by kernel_rfl) ?_
  refine OkD.q (triQ (x := .agg [.v (.int _ _), .v (.bool _), .v (.int _ _), .v (.int _ _), .v (.int _ _)]) rfl trivial rfl) ?_
  refine OkD.q (triQ (x := .agg [.v (.int _ _), .v (.int _ _), .v (.int _ _), .v (.int _ _)]) rfl trivial rfl) ?_
  refine OkD.q (triCallP (x := .s (.agg [.v (.int _ _), .v (.int _ _), .v (.int _ _), .v (.int _ _)])) rfl trivial entry11 (Apply_p _ _ _ _ _ _ _ _ _) rfl rfl) ?_
  refine OkD.q (triQ (x := .agg [.v (.int _ _), .v (.int _ _)]) rfl trivial rfl) ?_
  refine OkD.q (triCallP (x := .s (.c (.v (.bool _)))) rfl trivial entry13 (Contains_p _ _ _ _ _ _) rfl rfl) ?_
  refine OkD.q (triQ (x := .agg [.v (.int _ _), .v (.int _ _), .v (.int _ _), .v (.int _ _)]) rfl trivial rfl) ?_
  refine OkD.q (triQ (x := .agg [.v (.int _ _), .v (.bool _), .v (.int _ _), .v (.int _ _), .v (.int _ _)]) rfl trivial rfl) ?_
  refine OkD.q (triQ (x := .agg [.v (.int _ _), .v (.int _ _)]) rfl trivial rfl) ?_
  refine OkD.q (triCallP (x := .s (.agg [.v (.int _ _), .v (.int _ _)])) rfl trivial entry14 (Back_p _ _ _ _ _ _ _) rfl rfl) ?_
  refine OkD.q (triCallP (x := .s (.c (.v (.bool _)))) rfl trivial entry13 (Contains_p _ _ _ _ _ _) rfl rfl) ?_
  refine OkD.q (triQ (x := .c (.v (.bool _))) rfl trivial rfl) ?_
  refine OkD.q (triQ (x := .c (.v (.bool _))) rfl trivial rfl) ?_
  refine OkD.q (triCallPG (x := .c (.v (.bool _))) rfl rfl trivial entry12 (fun _ => awake_p) rfl rfl) ?_
  refine OkD.q (triAnd rfl rfl (fun h => h) rfl) ?_
  refine OkD.q (triQ (x := .c (.v (.bool _))) rfl trivial rfl) ?_
  refine OkD.nil (by kernel_rfl) ?_
  refine Ok.ret ?_
  have hx := tmod_bd x (n := 100) (by decide)
  have hy := tmod_bd y (n := 100) (by decide)
  have hu := and63 u
  have hv := and63 v
  have hp := tmod_bd p (n := 2000) (by decide)
  have hq := tmod_bd q (n := 2000) (by decide)
  have hs := small_bd a b c d m
  refine ⟨_, rfl, bv ?_⟩
  rw [Bool.and_true]
  exact beq_iff_eq.2 (back_pt hs.1 hs.2.1 ⟨hs.2.2.2.1, hs.2.2.2.2.1, hs.2.2.2.2.2⟩ hx hy hu hv hp hq)
end Go.Proofs.Ytilglbkpapbkpaa

import Derived.Test.YtilglbkpapbkpaaGf
namespace Go.Proofs.Ytilglbkpapbkpaa
open Go.Ev
set_option maxRecDepth 4000
theorem beq_rfl_b (b : Bool) : (b == b) = true := by cases b <;> rfl
theorem beq_rfl_i (b : Int) : (b == b) = true := by simp
theorem rects_p (x y u v x2 y2 u2 v2 p q : Int) : Pure Try.prog 8 [.agg #[.int .i64 x, .int .i64 y, .int .i64 u, .int .i64 v], .agg #[.int .i64 x2, .int .i64 y2, .int .i64 u2, .int .i64 v2], .agg #[.int .i64 p, .int .i64 q]] (.bool true) := by
  refine Pure.of_ok 60 [.tmp 6] [(0, .s (.agg [.v (.int .i64 x), .v (.int .i64 y), .v (.int .i64 u), .v (.int .i64 v)])), (1, .s (.agg [.v (.int .i64 x2), .v (.int .i64 y2), .v (.int .i64 u2), .v (.int .i64 v2)])), (2, .s (.agg [.v (.int .i64 p), .v (.int .i64 q)]))] Try.func8 rfl rfl rfl rfl rfl fun w => ?_
  refine Ok.seq ?_
  refine Ok.region ?_
  refine OkOps.m 1 (triBox (j := 0) (cs := [.v (.int _ _), .v (.int _ _), .v (.int _ _), .v (.int _ _)]) rfl rfl rfl rfl rfl) ?_
  refine OkOps.m 2 (triBox (j := 1) (cs := [.v (.int _ _), .v (.int _ _), .v (.int _ _), .v (.int _ _)]) rfl rfl rfl rfl rfl) ?_
  refine OkOps.m 3 (triBox (j := 2) (cs := [.v (.int _ _), .v (.int _ _)]) rfl rfl rfl rfl rfl) ?_
  refine OkOps.q (triQ (x := .c (.v (.bool _))) rfl trivial rfl) ?_
  refine OkOps.nil ?_
  refine Ok.seq ?_
  refine Ok.regionD (by kernel_rfl) ?_
  refine OkD.q (triQ (x := .agg [.v (.int _ _), .v (.int _ _), .v (.int _ _), .v (.int _ _)]) rfl trivial rfl) ?_
  refine OkD.q (triCallP (x := .s (.c (.v (.int _ _)))) rfl trivial entry25 (Validate_p _ _ _ _) rfl rfl) ?_
  refine OkD.q (triQ (x := .c (.v (.bool _))) rfl trivial rfl) ?_
  refine OkD.q (triQ (x := .agg [.v (.int _ _), .v (.int _ _), .v (.int _ _), .v (.int _ _)]) rfl trivial rfl) ?_
  refine OkD.q (triCallP (x := .s (.c (.v (.bool _)))) rfl trivial entry26 (ValidRect_p _ _ _ _) rfl rfl) ?_
  refine OkD.q (triQ (x := .c (.v (.bool _))) rfl trivial rfl) ?_
  refine OkD.q (triQ (x := .c (.v (.bool _))) rfl trivial rfl) ?_
  refine OkD.q (triQG (x := .agg [.v (.int _ _), .v (.int _ _), .v (.int _ _), .v (.int _ _)]) rfl rfl trivial rfl) ?_
  refine OkD.q (triCallPG (x := .c (.v (.int _ _))) rfl rfl ⟨fun h => h, trivial⟩ entry25 (fun _ => Validate_p _ _ _ _) rfl rfl) ?_
  refine OkD.q (triQG (x := .c (.v (.bool _))) rfl rfl ⟨fun h => h, trivial⟩ rfl) ?_
  refine OkD.q (triQG (x := .c (.v (.bool _))) rfl rfl ⟨fun h => h, trivial⟩ rfl) ?_
  refine OkD.q (triQG (x := .agg [.v (.int _ _), .v (.int _ _), .v (.int _ _), .v (.int _ _)]) rfl rfl trivial rfl) ?_
  refine OkD.q (triCallPG (x := .c (.v (.int _ _))) rfl rfl ⟨fun h => h, trivial⟩ entry25 (fun _ => Validate_p _ _ _ _) rfl rfl) ?_
  refine OkD.q (triQG (x := .c (.v (.bool _))) rfl rfl ⟨fun h => h, trivial⟩ rfl) ?_
  refine OkD.q (triOrG rfl rfl rfl (fun h => h) (fun h h2 => by simp_all) rfl) ?_
  refine OkD.q (triAnd rfl rfl (fun h => h) rfl) ?_
  refine OkD.q (triQ (x := .c (.v (.bool _))) rfl trivial rfl) ?_
  refine OkD.q (triQG (x := .agg [.v (.int _ _), .v (.int _ _), .v (.int _ _), .v (.int _ _)]) rfl rfl trivial rfl) ?_
  refine OkD.q (triCallPG (x := .c (.v (.bool _))) rfl rfl ⟨fun h => h, trivial⟩ entry27 (fun _ => Empty_p _ _ _ _) rfl rfl) ?_
  refine OkD.q (triQG (x := .agg [.v (.int _ _), .v (.int _ _), .v (.int _ _), .v (.int _ _)]) rfl rfl trivial rfl) ?_
  refine OkD.q (triCallPG (x := .c (.v (.bool _))) rfl rfl ⟨fun h => h, trivial⟩ entry28 (fun _ => rEmpty_p _ _ _ _) rfl rfl) ?_
  refine OkD.q (triQG (x := .c (.v (.bool _))) rfl rfl ⟨fun h => h, ⟨fun h => h, trivial⟩⟩ rfl) ?_
  refine OkD.q (triAnd rfl rfl (fun h => h) rfl) ?_
  refine OkD.q (triQ (x := .c (.v (.bool _))) rfl trivial rfl) ?_
  refine OkD.q (triQG (x := .agg [.v (.int _ _), .v (.int _ _), .v (.int _ _), .v (.int _ _)]) rfl rfl trivial rfl) ?_
  refine OkD.q (triQG (x := .agg [.v (.int _ _), .v (.int _ _)]) rfl rfl trivial rfl) ?_
  refine OkD.q (triCallPG (x := .c (.v (.bool _))) rfl rfl ⟨fun h => h, ⟨fun h => h, trivial⟩⟩ entry13 (fun _ => Contains_p _ _ _ _ _ _) rfl rfl) ?_
  refine OkD.q (triQG (x := .agg [.v (.int _ _), .v (.int _ _), .v (.int _ _), .v (.int _ _)]) rfl rfl trivial rfl) ?_
  refine OkD.q (triQG (x := .agg [.v (.int _ _), .v (.int _ _)]) rfl rfl trivial rfl) ?_
  refine OkD.q (triCallPG (x := .c (.v (.bool _))) rfl rfl ⟨fun h => h, ⟨fun h => h, trivial⟩⟩ entry29 (fun _ => rContains_p _ _ _ _ _ _) rfl rfl) ?_
  refine OkD.q (triQG (x := .c (.v (.bool _))) rfl rfl ⟨fun h => h, ⟨fun h => h, trivial⟩⟩ rfl) ?_
  refine OkD.q (triAnd rfl rfl (fun h => h) rfl) ?_
  refine OkD.q (triQ (x := .c (.v (.bool _))) rfl trivial rfl) ?_
  refine OkD.q (triQG (x := .agg [.v (.int _ _), .v (.int _ _), .v (.int _ _), .v (.int _ _)]) rfl rfl trivial rfl) ?_
  refine OkD.q (triQG (x := .agg [.v (.int _ _), .v (.int _ _), .v (.int _ _), .v (.int _ _)]) rfl rfl trivial rfl) ?_
  refine OkD.q (triCallPG (x := .agg [.v (.int _ _), .v (.int _ _), .v (.int _ _), .v (.int _ _)]) rfl rfl ⟨fun h => h, ⟨fun h => h, trivial⟩⟩ entry30 (fun _ => Intersect_p _ _ _ _ _ _ _ _) rfl rfl) ?_
  refine OkD.q (triQG (x := .agg [.v (.int _ _), .v (.int _ _), .v (.int _ _), .v (.int _ _)]) rfl rfl trivial rfl) ?_
  refine OkD.q (triQG (x := .agg [.v (.int _ _), .v (.int _ _), .v (.int _ _), .v (.int _ _)]) rfl rfl trivial rfl) ?_
  refine OkD.q (triCallPG (x := .agg [.v (.int _ _), .v (.int _ _), .v (.int _ _), .v (.int _ _)]) rfl rfl ⟨fun h => h, ⟨fun h => h, trivial⟩⟩ entry31 (fun _ => rIntersect_p _ _ _ _ _ _ _ _) rfl rfl) ?_
  refine OkD.q (triEqSG (b := _) rfl rfl rfl eqok23 rfl ⟨fun h => h, ⟨fun h => h, trivial⟩⟩ rfl) ?_
  refine OkD.q (triAnd rfl rfl (fun h => h) rfl) ?_
  refine OkD.q (triQ (x := .c (.v (.bool _))) rfl trivial rfl) ?_
  refine OkD.q (triQG (x := .agg [.v (.int _ _), .v (.int _ _), .v (.int _ _), .v (.int _ _)]) rfl rfl trivial rfl) ?_
  refine OkD.q (triQG (x := .agg [.v (.int _ _), .v (.int _ _), .v (.int _ _), .v (.int _ _)]) rfl rfl trivial rfl) ?_
  refine OkD.q (triCallPG (x := .agg [.v (.int _ _), .v (.int _ _), .v (.int _ _), .v (.int _ _)]) rfl rfl ⟨fun h => h, ⟨fun h => h, trivial⟩⟩ entry32 (fun _ => Union_p _ _ _ _ _ _ _ _) rfl rfl) ?_
  refine OkD.q (triQG (x := .agg [.v (.int _ _), .v (.int _ _), .v (.int _ _), .v (.int _ _)]) rfl rfl trivial rfl) ?_
  refine OkD.q (triQG (x := .agg [.v (.int _ _), .v (.int _ _), .v (.int _ _), .v (.int _ _)]) rfl rfl trivial rfl) ?_
  refine OkD.q (triCallPG (x := .agg [.v (.int _ _), .v (.int _ _), .v (.int _ _), .v (.int _ _)]) rfl rfl ⟨fun h => h, ⟨fun h => h, trivial⟩⟩ entry33 (fun _ => rUnion_p _ _ _ _ _ _ _ _) rfl rfl) ?_
  refine OkD.q (triEqSG (b := _) rfl rfl rfl eqok23 rfl ⟨fun h => h, ⟨fun h => h, trivial⟩⟩ rfl) ?_
  refine OkD.q (triAnd rfl rfl (fun h => h) rfl) ?_
  refine OkD.q (triQ (x := .c (.v (.bool _))) rfl trivial rfl) ?_
  refine OkD.q (triCallPG (x := .c (.v (.bool _))) rfl rfl trivial entry12 (fun _ => awake_p) rfl rfl) ?_
  refine OkD.q (triAnd rfl rfl (fun h => h) rfl) ?_
  refine OkD.q (triQ (x := .c (.v (.bool _))) rfl trivial rfl) ?_
  refine OkD.nil (by kernel_rfl) ?_
  refine Ok.ret ?_
  refine ⟨_, rfl, bv ?_⟩
  simp only [inter_eq, union_eq, contP_eq, emptyP_eq, badR_eq, beq_rfl_i, beq_rfl_b, Bool.and_true]
  cases okR x y u v <;> rfl
theorem moves_p (x y u v l t r b dx dy : Int) : Pure Try.prog 7 [.agg #[.int .i64 x, .int .i64 y, .int .i64 u, .int .i64 v], .agg #[.int .i64 l, .int .i64 t, .int .i64 r, .int .i64 b], .int .i64 dx, .int .i64 dy] (.bool true) := by
  refine Pure.of_ok 30 [.tmp 8] [(0, .s (.agg [.v (.int .i64 x), .v (.int .i64 y), .v (.int .i64 u), .v (.int .i64 v)])), (1, .s (.agg [.v (.int .i64 l), .v (.int .i64 t), .v (.int .i64 r), .v (.int .i64 b)])), (2, .s (.c (.v (.int .i64 dx)))), (3, .s (.c (.v (.int .i64 dy))))] Try.func7 rfl rfl rfl rfl rfl fun w => ?_
  refine Ok.seq ?_
  refine Ok.region ?_
  refine OkOps.m 1 (triBox (j := 0) (cs := [.v (.int _ _), .v (.int _ _), .v (.int _ _), .v (.int _ _)]) rfl rfl rfl rfl rfl) ?_
  refine OkOps.m 2 (triBox (j := 1) (cs := [.v (.int _ _), .v (.int _ _), .v (.int _ _), .v (.int _ _)]) rfl rfl rfl rfl rfl) ?_
  refine OkOps.q (triQ (x := .c (.v (.bool _))) rfl trivial rfl) ?_
  refine OkOps.nil ?_
  refine Ok.seq ?_
  refine Ok.regionD (by kernel_rfl) ?_
  refine OkD.q (triQ (x := .agg [.v (.int _ _), .v (.int _ _), .v (.int _ _), .v (.int _ _)]) rfl trivial rfl) ?_
  refine OkD.q (triQ (x := .agg [.v (.int _ _), .v (.int _ _), .v (.int _ _), .v (.int _ _)]) rfl trivial rfl) ?_
  refine OkD.q (triCallP (x := .s (.agg [.v (.int _ _), .v (.int _ _), .v (.int _ _), .v (.int _ _)])) rfl trivial entry21 (Shrink_p _ _ _ _ _ _ _ _) rfl rfl) ?_
  refine OkD.q (triQ (x := .agg [.v (.int _ _), .v (.int _ _), .v (.int _ _), .v (.int _ _)]) rfl trivial rfl) ?_
  refine OkD.q (triQ (x := .agg [.v (.int _ _), .v (.int _ _), .v (.int _ _), .v (.int _ _)]) rfl trivial rfl) ?_
  refine OkD.q (triCallP (x := .s (.agg [.v (.int _ _), .v (.int _ _), .v (.int _ _), .v (.int _ _)])) rfl trivial entry22 (rShrink_p _ _ _ _ _ _ _ _) rfl rfl) ?_
  refine OkD.q (triEqS (b := _) rfl rfl eqok23 rfl trivial rfl) ?_
  refine OkD.q (triQ (x := .c (.v (.bool _))) rfl trivial rfl) ?_
  refine OkD.q (triQG (x := .agg [.v (.int _ _), .v (.int _ _), .v (.int _ _), .v (.int _ _)]) rfl rfl trivial rfl) ?_
  refine OkD.q (triQG (x := .c (.v (.int _ _))) rfl rfl trivial rfl) ?_
  refine OkD.q (triQG (x := .c (.v (.int _ _))) rfl rfl trivial rfl) ?_
  refine OkD.q (triCallPG (x := .agg [.v (.int _ _), .v (.int _ _), .v (.int _ _), .v (.int _ _)]) rfl rfl ⟨fun h => h, ⟨fun h => h, ⟨fun h => h, trivial⟩⟩⟩ entry23 (fun _ => Shift_p _ _ _ _ _ _) rfl rfl) ?_
  refine OkD.q (triQG (x := .agg [.v (.int _ _), .v (.int _ _), .v (.int _ _), .v (.int _ _)]) rfl rfl trivial rfl) ?_
  refine OkD.q (triQG (x := .c (.v (.int _ _))) rfl rfl trivial rfl) ?_
  refine OkD.q (triQG (x := .c (.v (.int _ _))) rfl rfl trivial rfl) ?_
  refine OkD.q (triCallPG (x := .agg [.v (.int _ _), .v (.int _ _), .v (.int _ _), .v (.int _ _)]) rfl rfl ⟨fun h => h, ⟨fun h => h, ⟨fun h => h, trivial⟩⟩⟩ entry24 (fun _ => rShift_p _ _ _ _ _ _) rfl rfl) ?_
  refine OkD.q (triEqSG (b := _) rfl rfl rfl eqok23 rfl ⟨fun h => h, ⟨fun h => h, trivial⟩⟩ rfl) ?_
  refine OkD.q (triAnd rfl rfl (fun h => h) rfl) ?_
  refine OkD.q (triQ (x := .c (.v (.bool _))) rfl trivial rfl) ?_
  refine OkD.q (triCallPG (x := .c (.v (.bool _))) rfl rfl trivial entry12 (fun _ => awake_p) rfl rfl) ?_
  refine OkD.q (triAnd rfl rfl (fun h => h) rfl) ?_
  refine OkD.q (triQ (x := .c (.v (.bool _))) rfl trivial rfl) ?_
  refine OkD.nil (by kernel_rfl) ?_
  refine Ok.ret ?_
  refine ⟨_, rfl, bv ?_⟩
  simp only [shr_eq, shift_eq, beq_rfl_i, Bool.and_true]
theorem transforms_p (t1 : Int) (m1 : Bool) (s1 x1 y1 t2 : Int) (m2 : Bool) (s2 x2 y2 : Int) (x y u v p q : Int) : Pure Try.prog 5 [.agg #[.int .i64 t1, .bool m1, .int .i64 s1, .int .i64 x1, .int .i64 y1], .agg #[.int .i64 t2, .bool m2, .int .i64 s2, .int .i64 x2, .int .i64 y2], .agg #[.int .i64 x, .int .i64 y, .int .i64 u, .int .i64 v], .agg #[.int .i64 p, .int .i64 q]] (.bool true) := by
  refine Pure.of_ok 62 [.tmp 8] [(0, .s (.agg [.v (.int .i64 t1), .v (.bool m1), .v (.int .i64 s1), .v (.int .i64 x1), .v (.int .i64 y1)])), (1, .s (.agg [.v (.int .i64 t2), .v (.bool m2), .v (.int .i64 s2), .v (.int .i64 x2), .v (.int .i64 y2)])), (2, .s (.agg [.v (.int .i64 x), .v (.int .i64 y), .v (.int .i64 u), .v (.int .i64 v)])), (3, .s (.agg [.v (.int .i64 p), .v (.int .i64 q)]))] Try.func5 rfl rfl rfl rfl rfl fun w => ?_
  refine Ok.seq ?_
  refine Ok.region ?_
  refine OkOps.m 1 (triBox (j := 0) (cs := [.v (.int _ _), .v (.bool _), .v (.int _ _), .v (.int _ _), .v (.int _ _)]) rfl rfl rfl rfl rfl) ?_
  refine OkOps.m 2 (triBox (j := 1) (cs := [.v (.int _ _), .v (.bool _), .v (.int _ _), .v (.int _ _), .v (.int _ _)]) rfl rfl rfl rfl rfl) ?_
  refine OkOps.m 3 (triBox (j := 2) (cs := [.v (.int _ _), .v (.int _ _), .v (.int _ _), .v (.int _ _)]) rfl rfl rfl rfl rfl) ?_
  refine OkOps.m 4 (triBox (j := 3) (cs := [.v (.int _ _), .v (.int _ _)]) rfl rfl rfl rfl rfl) ?_
  refine OkOps.q (triQ (x := .c (.v (.bool _))) rfl trivial rfl) ?_
  refine OkOps.nil ?_
  refine Ok.seq ?_
  refine Ok.region ?_
  refine OkOps.q (triQ (x := .agg [.v (.int _ _), .v (.bool _), .v (.int _ _), .v (.int _ _), .v (.int _ _)]) rfl trivial rfl) ?_
  refine OkOps.q (triQ (x := .agg [.v (.int _ _), .v (.bool _), .v (.int _ _), .v (.int _ _), .v (.int _ _)]) rfl trivial rfl) ?_
  refine OkOps.q (triCallP (x := .tup [.agg [.v (.int _ _), .v (.bool _), .v (.int _ _), .v (.int _ _), .v (.int _ _)], .c (.v (.int _ _))]) rfl trivial entry15 (Combine_p _ _ _ _ _ _ _ _ _ _) rfl rfl) ?_
  refine OkOps.q (triMv (v := .tup [.agg [.v (.int _ _), .v (.bool _), .v (.int _ _), .v (.int _ _), .v (.int _ _)], .c (.v (.int _ _))]) rfl rfl) ?_
  refine OkOps.q (triQ (x := .agg [.v (.int _ _), .v (.bool _), .v (.int _ _), .v (.int _ _), .v (.int _ _)]) rfl trivial rfl) ?_
  refine OkOps.q (triQ (x := .c (.v (.int _ _))) rfl trivial rfl) ?_
  refine OkOps.m 5 (triAlloc (j := 4) (cs := [.v (.int _ _), .v (.bool _), .v (.int _ _), .v (.int _ _), .v (.int _ _)]) rfl rfl rfl rfl) ?_
  refine OkOps.w (triStore (cs' := [.v (.int _ _), .v (.bool _), .v (.int _ _), .v (.int _ _), .v (.int _ _)]) rfl rfl rfl rfl rfl rfl rfl rfl rfl) ?_
  refine OkOps.q (triQ (x := .c (.v (.int _ _))) rfl trivial rfl) ?_
  refine OkOps.nil ?_
  refine Ok.seq ?_
  refine Ok.region ?_
  refine OkOps.q (triQ (x := .agg [.v (.int _ _), .v (.bool _), .v (.int _ _), .v (.int _ _), .v (.int _ _)]) rfl trivial rfl) ?_
  refine OkOps.q (triQ (x := .agg [.v (.int _ _), .v (.bool _), .v (.int _ _), .v (.int _ _), .v (.int _ _)]) rfl trivial rfl) ?_
  refine OkOps.q (triCallP (x := .tup [.agg [.v (.int _ _), .v (.bool _), .v (.int _ _), .v (.int _ _), .v (.int _ _)], .c (.v (.int _ _))]) rfl trivial entry16 (rCombine_p _ _ _ _ _ _ _ _ _ _) rfl rfl) ?_
  refine OkOps.q (triMv (v := .tup [.agg [.v (.int _ _), .v (.bool _), .v (.int _ _), .v (.int _ _), .v (.int _ _)], .c (.v (.int _ _))]) rfl rfl) ?_
  refine OkOps.q (triQ (x := .agg [.v (.int _ _), .v (.bool _), .v (.int _ _), .v (.int _ _), .v (.int _ _)]) rfl trivial rfl) ?_
  refine OkOps.q (triQ (x := .c (.v (.int _ _))) rfl trivial rfl) ?_
  refine OkOps.m 6 (triAlloc (j := 5) (cs := [.v (.int _ _), .v (.bool _), .v (.int _ _), .v (.int _ _), .v (.int _ _)]) rfl rfl rfl rfl) ?_
  refine OkOps.w (triStore (cs' := [.v (.int _ _), .v (.bool _), .v (.int _ _), .v (.int _ _), .v (.int _ _)]) rfl rfl rfl rfl rfl rfl rfl rfl rfl) ?_
  refine OkOps.q (triQ (x := .c (.v (.int _ _))) rfl trivial rfl) ?_
  refine OkOps.nil ?_
  refine Ok.seq ?_
  refine Ok.regionD (by kernel_rfl) ?_
  refine OkD.q (triQ (x := .agg [.v (.int _ _), .v (.bool _), .v (.int _ _), .v (.int _ _), .v (.int _ _)]) rfl trivial rfl) ?_
  refine OkD.q (triCallP (x := .s (.c (.v (.int _ _)))) rfl trivial entry17 (Check_p _ _ _ _ _) rfl rfl) ?_
  refine OkD.q (triQ (x := .c (.v (.bool _))) rfl trivial rfl) ?_
  refine OkD.q (triQ (x := .agg [.v (.int _ _), .v (.bool _), .v (.int _ _), .v (.int _ _), .v (.int _ _)]) rfl trivial rfl) ?_
  refine OkD.q (triCallP (x := .s (.c (.v (.bool _)))) rfl trivial entry18 (ValidTransform_p _ _ _ _ _) rfl rfl) ?_
  refine OkD.q (triQ (x := .c (.v (.bool _))) rfl trivial rfl) ?_
  refine OkD.q (triQ (x := .c (.v (.bool _))) rfl trivial rfl) ?_
  refine OkD.q (triQG (x := .agg [.v (.int _ _), .v (.bool _), .v (.int _ _), .v (.int _ _), .v (.int _ _)]) rfl rfl trivial rfl) ?_
  refine OkD.q (triQG (x := .agg [.v (.int _ _), .v (.int _ _), .v (.int _ _), .v (.int _ _)]) rfl rfl trivial rfl) ?_
  refine OkD.q (triCallPG (x := .agg [.v (.int _ _), .v (.int _ _), .v (.int _ _), .v (.int _ _)]) rfl rfl ⟨fun h => h, ⟨fun h => h, trivial⟩⟩ entry11 (fun _ => Apply_p _ _ _ _ _ _ _ _ _) rfl rfl) ?_
  refine OkD.q (triQG (x := .agg [.v (.int _ _), .v (.bool _), .v (.int _ _), .v (.int _ _), .v (.int _ _)]) rfl rfl trivial rfl) ?_
  refine OkD.q (triQG (x := .agg [.v (.int _ _), .v (.int _ _), .v (.int _ _), .v (.int _ _)]) rfl rfl trivial rfl) ?_
  refine OkD.q (triCallPG (x := .agg [.v (.int _ _), .v (.int _ _), .v (.int _ _), .v (.int _ _)]) rfl rfl ⟨fun h => h, ⟨fun h => h, trivial⟩⟩ entry19 (fun _ => rApply_p _ _ _ _ _ _ _ _ _) rfl rfl) ?_
  refine OkD.q (triEqSG (b := _) rfl rfl rfl eqok23 rfl ⟨fun h => h, ⟨fun h => h, trivial⟩⟩ rfl) ?_
  refine OkD.q (triAnd rfl rfl (fun h => h) rfl) ?_
  refine OkD.q (triQ (x := .c (.v (.bool _))) rfl trivial rfl) ?_
  refine OkD.q (triQG (x := .agg [.v (.int _ _), .v (.bool _), .v (.int _ _), .v (.int _ _), .v (.int _ _)]) rfl rfl trivial rfl) ?_
  refine OkD.q (triQG (x := .agg [.v (.int _ _), .v (.int _ _)]) rfl rfl trivial rfl) ?_
  refine OkD.q (triCallPG (x := .agg [.v (.int _ _), .v (.int _ _)]) rfl rfl ⟨fun h => h, ⟨fun h => h, trivial⟩⟩ entry14 (fun _ => Back_p _ _ _ _ _ _ _) rfl rfl) ?_
  refine OkD.q (triQG (x := .agg [.v (.int _ _), .v (.bool _), .v (.int _ _), .v (.int _ _), .v (.int _ _)]) rfl rfl trivial rfl) ?_
  refine OkD.q (triQG (x := .agg [.v (.int _ _), .v (.int _ _)]) rfl rfl trivial rfl) ?_
  refine OkD.q (triCallPG (x := .agg [.v (.int _ _), .v (.int _ _)]) rfl rfl ⟨fun h => h, ⟨fun h => h, trivial⟩⟩ entry20 (fun _ => rBack_p _ _ _ _ _ _ _) rfl rfl) ?_
  refine OkD.q (triEqSG (b := _) rfl rfl rfl eqok31 rfl ⟨fun h => h, ⟨fun h => h, trivial⟩⟩ rfl) ?_
  refine OkD.q (triAnd rfl rfl (fun h => h) rfl) ?_
  refine OkD.q (triQ (x := .c (.v (.bool _))) rfl trivial rfl) ?_
  refine OkD.q (triQG (x := .agg [.v (.int _ _), .v (.bool _), .v (.int _ _), .v (.int _ _), .v (.int _ _)]) rfl rfl trivial rfl) ?_
  refine OkD.q (triQG (x := .agg [.v (.int _ _), .v (.bool _), .v (.int _ _), .v (.int _ _), .v (.int _ _)]) rfl rfl trivial rfl) ?_
  refine OkD.q (triEqSG (b := _) rfl rfl rfl eqok25 rfl ⟨fun h => h, ⟨fun h => h, trivial⟩⟩ rfl) ?_
  refine OkD.q (triAnd rfl rfl (fun h => h) rfl) ?_
  refine OkD.q (triQ (x := .c (.v (.bool _))) rfl trivial rfl) ?_
  refine OkD.q (triQG (x := .c (.v (.int _ _))) rfl rfl trivial rfl) ?_
  refine OkD.q (triQG (x := .c (.v (.int _ _))) rfl rfl trivial rfl) ?_
  refine OkD.q (triQG (x := .c (.v (.bool _))) rfl rfl ⟨fun h => h, ⟨fun h => h, trivial⟩⟩ rfl) ?_
  refine OkD.q (triAnd rfl rfl (fun h => h) rfl) ?_
  refine OkD.q (triQ (x := .c (.v (.bool _))) rfl trivial rfl) ?_
  refine OkD.q (triCallPG (x := .c (.v (.bool _))) rfl rfl trivial entry12 (fun _ => awake_p) rfl rfl) ?_
  refine OkD.q (triAnd rfl rfl (fun h => h) rfl) ?_
  refine OkD.q (triQ (x := .c (.v (.bool _))) rfl trivial rfl) ?_
  refine OkD.nil (by kernel_rfl) ?_
  refine Ok.ret ?_
  refine ⟨_, rfl, bv ?_⟩
  simp only [app_eq, back_eq, comb_eq, badT_eq, beq_rfl_i, beq_rfl_b, Bool.and_true]
  cases okT t1 s1 x1 y1 <;> rfl
end Go.Proofs.Ytilglbkpapbkpaa

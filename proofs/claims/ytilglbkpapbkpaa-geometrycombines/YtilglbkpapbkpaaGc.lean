import Derived.Test.YtilglbkpapbkpaaGb
namespace Go.Proofs.Ytilglbkpapbkpaa
open Go.Ev
set_option maxRecDepth 4000
theorem Intersect_p (x y u v x2 y2 u2 v2 : Int) : Pure Try.prog 30 [.agg #[.int .i64 x, .int .i64 y, .int .i64 u, .int .i64 v], .agg #[.int .i64 x2, .int .i64 y2, .int .i64 u2, .int .i64 v2]] (.agg #[.int .i64 (interP (x, y, u, v) (x2, y2, u2, v2)).1, .int .i64 (interP (x, y, u, v) (x2, y2, u2, v2)).2.1, .int .i64 (interP (x, y, u, v) (x2, y2, u2, v2)).2.2.1, .int .i64 (interP (x, y, u, v) (x2, y2, u2, v2)).2.2.2]) := by
  refine Pure.of_ok 42 [.cell 4 23] [(0, .s (.agg [.v (.int .i64 x), .v (.int .i64 y), .v (.int .i64 u), .v (.int .i64 v)])), (1, .s (.agg [.v (.int .i64 x2), .v (.int .i64 y2), .v (.int .i64 u2), .v (.int .i64 v2)]))] Try.func30 rfl rfl rfl rfl rfl fun w => ?_
  refine Ok.seq ?_
  refine Ok.region ?_
  refine OkOps.m 1 (triBox (j := 0) (cs := [.v (.int _ _), .v (.int _ _), .v (.int _ _), .v (.int _ _)]) rfl rfl rfl rfl rfl) ?_
  refine OkOps.m 2 (triBox (j := 1) (cs := [.v (.int _ _), .v (.int _ _), .v (.int _ _), .v (.int _ _)]) rfl rfl rfl rfl rfl) ?_
  refine OkOps.m 3 (triAlloc (j := 2) (cs := [.v (.int _ _), .v (.int _ _), .v (.int _ _), .v (.int _ _)]) rfl rfl rfl rfl) ?_
  refine OkOps.nil ?_
  refine Ok.seq ?_
  refine Ok.regionD (by kernel_rfl) ?_
  refine OkD.q (triQ (x := .agg [.v (.int _ _), .v (.int _ _), .v (.int _ _), .v (.int _ _)]) rfl trivial rfl) ?_
  refine OkD.q (triCallP (x := .s (.agg [.v (.int _ _), .v (.int _ _), .v (.int _ _), .v (.int _ _)])) rfl trivial entry34 (valid_p _ _ _ _) rfl rfl) ?_
  refine OkD.q (triQ (x := .agg [.v (.int _ _), .v (.int _ _), .v (.int _ _), .v (.int _ _)]) rfl trivial rfl) ?_
  refine OkD.q (triCallP (x := .s (.agg [.v (.int _ _), .v (.int _ _), .v (.int _ _), .v (.int _ _)])) rfl trivial entry34 (valid_p _ _ _ _) rfl rfl) ?_
  refine OkD.w (triStore (cs' := [.v (.int _ _), .v (.int _ _), .v (.int _ _), .v (.int _ _)]) rfl rfl rfl rfl rfl rfl rfl rfl rfl) ?_
  refine OkD.w (triStore (cs' := [.v (.int _ _), .v (.int _ _), .v (.int _ _), .v (.int _ _)]) rfl rfl rfl rfl rfl rfl rfl rfl rfl) ?_
  refine OkD.nil (by kernel_rfl) ?_
  refine Ok.seq ?_
  refine Ok.region ?_
  refine OkOps.q (triQ (x := .c (.loc 0 0)) rfl trivial rfl) ?_
  refine OkOps.q (triQ (x := .c (.v (.int _ _))) rfl trivial rfl) ?_
  refine OkOps.q (triQ (x := .c (.loc 1 0)) rfl trivial rfl) ?_
  refine OkOps.q (triQ (x := .c (.v (.int _ _))) rfl trivial rfl) ?_
  refine OkOps.q (triQ (x := .c (.v (.int _ _))) rfl trivial rfl) ?_
  refine OkOps.q (triQ (x := .c (.loc 0 1)) rfl trivial rfl) ?_
  refine OkOps.q (triQ (x := .c (.v (.int _ _))) rfl trivial rfl) ?_
  refine OkOps.q (triQ (x := .c (.loc 1 1)) rfl trivial rfl) ?_
  refine OkOps.q (triQ (x := .c (.v (.int _ _))) rfl trivial rfl) ?_
  refine OkOps.q (triQ (x := .c (.v (.int _ _))) rfl trivial rfl) ?_
  refine OkOps.q (triQ (x := .c (.loc 0 0)) rfl trivial rfl) ?_
  refine OkOps.q (triQ (x := .c (.v (.int _ _))) rfl trivial rfl) ?_
  refine OkOps.q (triQ (x := .c (.loc 0 2)) rfl trivial rfl) ?_
  refine OkOps.q (triQ (x := .c (.v (.int _ _))) rfl trivial rfl) ?_
  refine OkOps.q (triQ (x := .c (.v (.int _ _))) rfl trivial rfl) ?_
  refine OkOps.q (triQ (x := .c (.loc 1 0)) rfl trivial rfl) ?_
  refine OkOps.q (triQ (x := .c (.v (.int _ _))) rfl trivial rfl) ?_
  refine OkOps.q (triQ (x := .c (.loc 1 2)) rfl trivial rfl) ?_
  refine OkOps.q (triQ (x := .c (.v (.int _ _))) rfl trivial rfl) ?_
  refine OkOps.q (triQ (x := .c (.v (.int _ _))) rfl trivial rfl) ?_
  refine OkOps.q (triQ (x := .c (.v (.int _ _))) rfl trivial rfl) ?_
  refine OkOps.q (triQ (x := .c (.loc 0 1)) rfl trivial rfl) ?_
  refine OkOps.q (triQ (x := .c (.v (.int _ _))) rfl trivial rfl) ?_
  refine OkOps.q (triQ (x := .c (.loc 0 3)) rfl trivial rfl) ?_
  refine OkOps.q (triQ (x := .c (.v (.int _ _))) rfl trivial rfl) ?_
  refine OkOps.q (triQ (x := .c (.v (.int _ _))) rfl trivial rfl) ?_
  refine OkOps.q (triQ (x := .c (.loc 1 1)) rfl trivial rfl) ?_
  refine OkOps.q (triQ (x := .c (.v (.int _ _))) rfl trivial rfl) ?_
  refine OkOps.q (triQ (x := .c (.loc 1 3)) rfl trivial rfl) ?_
  refine OkOps.q (triQ (x := .c (.v (.int _ _))) rfl trivial rfl) ?_
  refine OkOps.q (triQ (x := .c (.v (.int _ _))) rfl trivial rfl) ?_
  refine OkOps.q (triQ (x := .c (.v (.int _ _))) rfl trivial rfl) ?_
  refine OkOps.q (triCallP (x := .s (.agg [.v (.int _ _), .v (.int _ _), .v (.int _ _), .v (.int _ _)])) rfl trivial entry42 (between_p _ _ _ _) rfl rfl) ?_
  refine OkOps.w (triStore (cs' := [.v (.int _ _), .v (.int _ _), .v (.int _ _), .v (.int _ _)]) rfl rfl rfl rfl rfl rfl rfl rfl rfl) ?_
  refine OkOps.nil ?_
  refine Ok.ret ?_
  exact ⟨_, rfl, rfl⟩
theorem entry30 : Entry Try.prog 30 := ⟨_, Try.func30, by kernel_rfl, by kernel_rfl⟩
theorem rIntersect_p (x y u v x2 y2 u2 v2 : Int) : Pure Try.prog 31 [.agg #[.int .i64 x, .int .i64 y, .int .i64 u, .int .i64 v], .agg #[.int .i64 x2, .int .i64 y2, .int .i64 u2, .int .i64 v2]] (.agg #[.int .i64 (interR (x, y, u, v) (x2, y2, u2, v2)).1, .int .i64 (interR (x, y, u, v) (x2, y2, u2, v2)).2.1, .int .i64 (interR (x, y, u, v) (x2, y2, u2, v2)).2.2.1, .int .i64 (interR (x, y, u, v) (x2, y2, u2, v2)).2.2.2]) := by
  refine Pure.of_ok 61 [.cell 4 23] [(0, .s (.agg [.v (.int .i64 x), .v (.int .i64 y), .v (.int .i64 u), .v (.int .i64 v)])), (1, .s (.agg [.v (.int .i64 x2), .v (.int .i64 y2), .v (.int .i64 u2), .v (.int .i64 v2)]))] Try.func31 rfl rfl rfl rfl rfl fun w => ?_
  refine Ok.seq ?_
  refine Ok.region ?_
  refine OkOps.m 1 (triBox (j := 0) (cs := [.v (.int _ _), .v (.int _ _), .v (.int _ _), .v (.int _ _)]) rfl rfl rfl rfl rfl) ?_
  refine OkOps.m 2 (triBox (j := 1) (cs := [.v (.int _ _), .v (.int _ _), .v (.int _ _), .v (.int _ _)]) rfl rfl rfl rfl rfl) ?_
  refine OkOps.m 3 (triAlloc (j := 2) (cs := [.v (.int _ _), .v (.int _ _), .v (.int _ _), .v (.int _ _)]) rfl rfl rfl rfl) ?_
  refine OkOps.nil ?_
  refine Ok.seq ?_
  refine Ok.regionD (by kernel_rfl) ?_
  refine OkD.q (triQ (x := .agg [.v (.int _ _), .v (.int _ _), .v (.int _ _), .v (.int _ _)]) rfl trivial rfl) ?_
  refine OkD.q (triCallP (x := .s (.agg [.v (.int _ _), .v (.int _ _), .v (.int _ _), .v (.int _ _)])) rfl trivial entry43 (rvalid_p _ _ _ _) rfl rfl) ?_
  refine OkD.q (triQ (x := .agg [.v (.int _ _), .v (.int _ _), .v (.int _ _), .v (.int _ _)]) rfl trivial rfl) ?_
  refine OkD.q (triCallP (x := .s (.agg [.v (.int _ _), .v (.int _ _), .v (.int _ _), .v (.int _ _)])) rfl trivial entry43 (rvalid_p _ _ _ _) rfl rfl) ?_
  refine OkD.w (triStore (cs' := [.v (.int _ _), .v (.int _ _), .v (.int _ _), .v (.int _ _)]) rfl rfl rfl rfl rfl rfl rfl rfl rfl) ?_
  refine OkD.w (triStore (cs' := [.v (.int _ _), .v (.int _ _), .v (.int _ _), .v (.int _ _)]) rfl rfl rfl rfl rfl rfl rfl rfl rfl) ?_
  refine OkD.nil (by kernel_rfl) ?_
  refine Ok.seq ?_
  refine Ok.regionD (by kernel_rfl) ?_
  refine OkD.q (triQ (x := .c (.loc 0 0)) rfl trivial rfl) ?_
  refine OkD.q (triQ (x := .c (.v (.int _ _))) rfl trivial rfl) ?_
  refine OkD.q (triQ (x := .c (.loc 1 0)) rfl trivial rfl) ?_
  refine OkD.q (triQ (x := .c (.v (.int _ _))) rfl trivial rfl) ?_
  refine OkD.q (triQ (x := .c (.v (.int _ _))) rfl trivial rfl) ?_
  refine OkD.q (triQ (x := .c (.loc 0 1)) rfl trivial rfl) ?_
  refine OkD.q (triQ (x := .c (.v (.int _ _))) rfl trivial rfl) ?_
  refine OkD.q (triQ (x := .c (.loc 1 1)) rfl trivial rfl) ?_
  refine OkD.q (triQ (x := .c (.v (.int _ _))) rfl trivial rfl) ?_
  refine OkD.q (triQ (x := .c (.v (.int _ _))) rfl trivial rfl) ?_
  refine OkD.q (triQ (x := .c (.v (.int _ _))) rfl trivial rfl) ?_
  refine OkD.q (triQ (x := .c (.v (.int _ _))) rfl trivial rfl) ?_
  refine OkD.nil (by kernel_rfl) ?_
  refine Ok.seq ?_
  refine Ok.regionD (by kernel_rfl) ?_
  refine OkD.q (triQ (x := .c (.loc 0 0)) rfl trivial rfl) ?_
  refine OkD.q (triQ (x := .c (.v (.int _ _))) rfl trivial rfl) ?_
  refine OkD.q (triQ (x := .c (.loc 0 2)) rfl trivial rfl) ?_
  refine OkD.q (triQ (x := .c (.v (.int _ _))) rfl trivial rfl) ?_
  refine OkD.q (triQ (x := .c (.v (.int _ _))) rfl trivial rfl) ?_
  refine OkD.q (triQ (x := .c (.loc 1 0)) rfl trivial rfl) ?_
  refine OkD.q (triQ (x := .c (.v (.int _ _))) rfl trivial rfl) ?_
  refine OkD.q (triQ (x := .c (.loc 1 2)) rfl trivial rfl) ?_
  refine OkD.q (triQ (x := .c (.v (.int _ _))) rfl trivial rfl) ?_
  refine OkD.q (triQ (x := .c (.v (.int _ _))) rfl trivial rfl) ?_
  refine OkD.q (triQ (x := .c (.v (.int _ _))) rfl trivial rfl) ?_
  refine OkD.q (triQ (x := .c (.v (.int _ _))) rfl trivial rfl) ?_
  refine OkD.q (triQ (x := .c (.v (.int _ _))) rfl trivial rfl) ?_
  refine OkD.q (triQ (x := .c (.loc 0 1)) rfl trivial rfl) ?_
  refine OkD.q (triQ (x := .c (.v (.int _ _))) rfl trivial rfl) ?_
  refine OkD.q (triQ (x := .c (.loc 0 3)) rfl trivial rfl) ?_
  refine OkD.q (triQ (x := .c (.v (.int _ _))) rfl trivial rfl) ?_
  refine OkD.q (triQ (x := .c (.v (.int _ _))) rfl trivial rfl) ?_
  refine OkD.q (triQ (x := .c (.loc 1 1)) rfl trivial rfl) ?_
  refine OkD.q (triQ (x := .c (.v (.int _ _))) rfl trivial rfl) ?_
  refine OkD.q (triQ (x := .c (.loc 1 3)) rfl trivial rfl) ?_
  refine OkD.q (triQ (x := .c (.v (.int _ _))) rfl trivial rfl) ?_
  refine OkD.q (triQ (x := .c (.v (.int _ _))) rfl trivial rfl) ?_
  refine OkD.q (triQ (x := .c (.v (.int _ _))) rfl trivial rfl) ?_
  refine OkD.q (triQ (x := .c (.v (.int _ _))) rfl trivial rfl) ?_
  refine OkD.q (triQ (x := .c (.v (.int _ _))) rfl trivial rfl) ?_
  refine OkD.q (triQ (x := .c (.v (.int _ _))) rfl trivial rfl) ?_
  refine OkD.q (triQ (x := .c (.v (.int _ _))) rfl trivial rfl) ?_
  refine OkD.nil (by kernel_rfl) ?_
  refine Ok.seq ?_
  refine Ok.seq ?_
  refine Ok.region ?_
  refine OkOps.q (triQ (x := .c (.v (.int _ _))) rfl trivial rfl) ?_
  refine OkOps.q (triQ (x := .c (.v (.bool _))) rfl trivial rfl) ?_
  refine OkOps.q (triQ (x := .c (.v (.bool _))) rfl trivial rfl) ?_
  refine OkOps.q (triQG (x := .c (.v (.int _ _))) rfl rfl trivial rfl) ?_
  refine OkOps.q (triQG (x := .c (.v (.bool _))) rfl rfl ⟨fun h => h, trivial⟩ rfl) ?_
  refine OkOps.q (triOr rfl rfl (fun h => by rw [h]; rfl) rfl) ?_
  refine OkOps.nil ?_
  refine Ok.cond rfl (fun h1 => ?_) (fun h1 => ?_)
  · refine Ok.seq ?_
    refine Ok.region ?_
    refine OkOps.q (triQ (x := .agg [.v (.int _ _), .v (.int _ _), .v (.int _ _), .v (.int _ _)]) rfl trivial rfl) ?_
    refine OkOps.w (triStore (cs' := [.v (.int _ _), .v (.int _ _), .v (.int _ _), .v (.int _ _)]) rfl rfl rfl rfl rfl rfl rfl rfl rfl) ?_
    refine OkOps.nil ?_
    refine Ok.ret ?_
    exact ⟨_, rfl, by show _ = ofR _; rw [show interR (x, y, u, v) (x2, y2, u2, v2) = _ from selQ_t h1 _ _]; rfl⟩
  · refine Ok.skip ?_
    refine Ok.seq ?_
    refine Ok.region ?_
    refine OkOps.q (triQ (x := .c (.v (.int _ _))) rfl trivial rfl) ?_
    refine OkOps.q (triQ (x := .c (.v (.int _ _))) rfl trivial rfl) ?_
    refine OkOps.q (triQ (x := .c (.v (.int _ _))) rfl trivial rfl) ?_
    refine OkOps.q (triQ (x := .c (.v (.int _ _))) rfl trivial rfl) ?_
    refine OkOps.q (triQ (x := .agg [.v (.int _ _), .v (.int _ _), .v (.int _ _), .v (.int _ _)]) rfl trivial rfl) ?_
    refine OkOps.w (triStore (cs' := [.v (.int _ _), .v (.int _ _), .v (.int _ _), .v (.int _ _)]) rfl rfl rfl rfl rfl rfl rfl rfl rfl) ?_
    refine OkOps.nil ?_
    refine Ok.ret ?_
    exact ⟨_, rfl, by show _ = ofR _; rw [show interR (x, y, u, v) (x2, y2, u2, v2) = _ from selQ_f h1 _ _]; rfl⟩
theorem entry31 : Entry Try.prog 31 := ⟨_, Try.func31, by kernel_rfl, by kernel_rfl⟩
section
variable {a b : Quad}
theorem unionP1 (h : (eP a && eP b) = true) : unionP a b = (0, 0, 0, 0) := selQ_t h _ _
theorem unionP2 (h : (eP a && eP b) = false) (h2 : eP a = true) : unionP a b = vP b := by rw [unionP, selQ_f h, selQ_t h2]
theorem unionP3 (h : (eP a && eP b) = false) (h2 : eP a = false) (h3 : eP b = true) : unionP a b = vP a := by rw [unionP, selQ_f h, selQ_f h2, selQ_t h3]
theorem unionP4 (h : (eP a && eP b) = false) (h2 : eP a = false) (h3 : eP b = false) : unionP a b = btw (mnI (vP a).1 (vP b).1) (mnI (vP a).2.1 (vP b).2.1) (mxI (wr ((vP a).1 + (vP a).2.2.1)) (wr ((vP b).1 + (vP b).2.2.1))) (mxI (wr ((vP a).2.1 + (vP a).2.2.2)) (wr ((vP b).2.1 + (vP b).2.2.2))) := by rw [unionP, selQ_f h, selQ_f h2, selQ_f h3]
theorem unionR1 (h : (eR a && eR b) = true) : unionR a b = (0, 0, 0, 0) := selQ_t h _ _
theorem unionR2 (h : (eR a && eR b) = false) (h2 : eR a = true) : unionR a b = vR b := by rw [unionR, selQ_f h, selQ_t h2]
theorem unionR3 (h : (eR a && eR b) = false) (h2 : eR a = false) (h3 : eR b = true) : unionR a b = vR a := by rw [unionR, selQ_f h, selQ_f h2, selQ_t h3]
theorem unionR4 (h : (eR a && eR b) = false) (h2 : eR a = false) (h3 : eR b = false) : unionR a b = (mnI (vR a).1 (vR b).1, mnI (vR a).2.1 (vR b).2.1, wr (mxI (wr ((vR a).1 + (vR a).2.2.1)) (wr ((vR b).1 + (vR b).2.2.1)) - mnI (vR a).1 (vR b).1), wr (mxI (wr ((vR a).2.1 + (vR a).2.2.2)) (wr ((vR b).2.1 + (vR b).2.2.2)) - mnI (vR a).2.1 (vR b).2.1)) := by rw [unionR, selQ_f h, selQ_f h2, selQ_f h3]
end
theorem Union_p (x y u v x2 y2 u2 v2 : Int) : Pure Try.prog 32 [.agg #[.int .i64 x, .int .i64 y, .int .i64 u, .int .i64 v], .agg #[.int .i64 x2, .int .i64 y2, .int .i64 u2, .int .i64 v2]] (.agg #[.int .i64 (unionP (x, y, u, v) (x2, y2, u2, v2)).1, .int .i64 (unionP (x, y, u, v) (x2, y2, u2, v2)).2.1, .int .i64 (unionP (x, y, u, v) (x2, y2, u2, v2)).2.2.1, .int .i64 (unionP (x, y, u, v) (x2, y2, u2, v2)).2.2.2]) := by
  refine Pure.of_ok 58 [.cell 4 23] [(0, .s (.agg [.v (.int .i64 x), .v (.int .i64 y), .v (.int .i64 u), .v (.int .i64 v)])), (1, .s (.agg [.v (.int .i64 x2), .v (.int .i64 y2), .v (.int .i64 u2), .v (.int .i64 v2)]))] Try.func32 rfl rfl rfl rfl rfl fun w => ?_
  refine Ok.seq ?_
  refine Ok.region ?_
  refine OkOps.m 1 (triBox (j := 0) (cs := [.v (.int _ _), .v (.int _ _), .v (.int _ _), .v (.int _ _)]) rfl rfl rfl rfl rfl) ?_
  refine OkOps.m 2 (triBox (j := 1) (cs := [.v (.int _ _), .v (.int _ _), .v (.int _ _), .v (.int _ _)]) rfl rfl rfl rfl rfl) ?_
  refine OkOps.m 3 (triAlloc (j := 2) (cs := [.v (.int _ _), .v (.int _ _), .v (.int _ _), .v (.int _ _)]) rfl rfl rfl rfl) ?_
  refine OkOps.nil ?_
  refine Ok.seq ?_
  refine Ok.regionD (by kernel_rfl) ?_
  refine OkD.q (triQ (x := .agg [.v (.int _ _), .v (.int _ _), .v (.int _ _), .v (.int _ _)]) rfl trivial rfl) ?_
  refine OkD.q (triCallP (x := .s (.agg [.v (.int _ _), .v (.int _ _), .v (.int _ _), .v (.int _ _)])) rfl trivial entry34 (valid_p _ _ _ _) rfl rfl) ?_
  refine OkD.q (triQ (x := .agg [.v (.int _ _), .v (.int _ _), .v (.int _ _), .v (.int _ _)]) rfl trivial rfl) ?_
  refine OkD.q (triCallP (x := .s (.agg [.v (.int _ _), .v (.int _ _), .v (.int _ _), .v (.int _ _)])) rfl trivial entry34 (valid_p _ _ _ _) rfl rfl) ?_
  refine OkD.w (triStore (cs' := [.v (.int _ _), .v (.int _ _), .v (.int _ _), .v (.int _ _)]) rfl rfl rfl rfl rfl rfl rfl rfl rfl) ?_
  refine OkD.w (triStore (cs' := [.v (.int _ _), .v (.int _ _), .v (.int _ _), .v (.int _ _)]) rfl rfl rfl rfl rfl rfl rfl rfl rfl) ?_
  refine OkD.nil (by kernel_rfl) ?_
  refine Ok.seq ?_
  refine Ok.block ?_
  refine Ok.seq ?_
  refine Ok.region ?_
  refine OkOps.q (triQ (x := .agg [.v (.int _ _), .v (.int _ _), .v (.int _ _), .v (.int _ _)]) rfl trivial rfl) ?_
  refine OkOps.q (triCallP (x := .s (.c (.v (.bool _)))) rfl trivial entry27 (Empty_p _ _ _ _) rfl rfl) ?_
  refine OkOps.q (triQ (x := .c (.v (.bool _))) rfl trivial rfl) ?_
  refine OkOps.q (triQG (x := .agg [.v (.int _ _), .v (.int _ _), .v (.int _ _), .v (.int _ _)]) rfl rfl trivial rfl) ?_
  refine OkOps.q (triCallPG (x := .c (.v (.bool _))) rfl rfl ⟨fun h => h, trivial⟩ entry27 (fun _ => Empty_p _ _ _ _) rfl rfl) ?_
  refine OkOps.q (triAnd rfl rfl (fun h => h) rfl) ?_
  refine OkOps.q (triQ (x := .c (.v (.bool _))) rfl trivial rfl) ?_
  refine OkOps.nil ?_
  refine Ok.cond rfl (fun h1 => ?_) (fun h1 => ?_)
  · refine Ok.seq ?_
    refine Ok.region ?_
    refine OkOps.q (triQ (x := .agg [.v (.int _ _), .v (.int _ _), .v (.int _ _), .v (.int _ _)]) rfl trivial rfl) ?_
    refine OkOps.w (triStore (cs' := [.v (.int _ _), .v (.int _ _), .v (.int _ _), .v (.int _ _)]) rfl rfl rfl rfl rfl rfl rfl rfl rfl) ?_
    refine OkOps.nil ?_
    refine Ok.ret ?_
    exact ⟨_, rfl, by show _ = ofR _; rw [unionP1 (a := (x, y, u, v)) (b := (x2, y2, u2, v2)) h1]; rfl⟩
  · refine Ok.seq ?_
    refine Ok.region ?_
    refine OkOps.q (triQ (x := .agg [.v (.int _ _), .v (.int _ _), .v (.int _ _), .v (.int _ _)]) rfl trivial rfl) ?_
    refine OkOps.q (triCallP (x := .s (.c (.v (.bool _)))) rfl trivial entry27 (Empty_p _ _ _ _) rfl rfl) ?_
    refine OkOps.q (triQ (x := .c (.v (.bool _))) rfl trivial rfl) ?_
    refine OkOps.nil ?_
    refine Ok.cond rfl (fun h2 => ?_) (fun h2 => ?_)
    · refine Ok.seq ?_
      refine Ok.region ?_
      refine OkOps.q (triQ (x := .agg [.v (.int _ _), .v (.int _ _), .v (.int _ _), .v (.int _ _)]) rfl trivial rfl) ?_
      refine OkOps.w (triStore (cs' := [.v (.int _ _), .v (.int _ _), .v (.int _ _), .v (.int _ _)]) rfl rfl rfl rfl rfl rfl rfl rfl rfl) ?_
      refine OkOps.nil ?_
      refine Ok.ret ?_
      exact ⟨_, rfl, by show _ = ofR _; rw [unionP2 (a := (x, y, u, v)) (b := (x2, y2, u2, v2)) h1 h2]; rfl⟩
    · refine Ok.seq ?_
      refine Ok.region ?_
      refine OkOps.q (triQ (x := .agg [.v (.int _ _), .v (.int _ _), .v (.int _ _), .v (.int _ _)]) rfl trivial rfl) ?_
      refine OkOps.q (triCallP (x := .s (.c (.v (.bool _)))) rfl trivial entry27 (Empty_p _ _ _ _) rfl rfl) ?_
      refine OkOps.q (triQ (x := .c (.v (.bool _))) rfl trivial rfl) ?_
      refine OkOps.nil ?_
      refine Ok.cond rfl (fun h3 => ?_) (fun h3 => ?_)
      · refine Ok.seq ?_
        refine Ok.region ?_
        refine OkOps.q (triQ (x := .agg [.v (.int _ _), .v (.int _ _), .v (.int _ _), .v (.int _ _)]) rfl trivial rfl) ?_
        refine OkOps.w (triStore (cs' := [.v (.int _ _), .v (.int _ _), .v (.int _ _), .v (.int _ _)]) rfl rfl rfl rfl rfl rfl rfl rfl rfl) ?_
        refine OkOps.nil ?_
        refine Ok.ret ?_
        exact ⟨_, rfl, by show _ = ofR _; rw [unionP3 (a := (x, y, u, v)) (b := (x2, y2, u2, v2)) h1 h2 h3]; rfl⟩
      · refine Ok.skip ?_
        refine Ok.seq ?_
        refine Ok.region ?_
        refine OkOps.q (triQ (x := .c (.loc 0 0)) rfl trivial rfl) ?_
        refine OkOps.q (triQ (x := .c (.v (.int _ _))) rfl trivial rfl) ?_
        refine OkOps.q (triQ (x := .c (.loc 1 0)) rfl trivial rfl) ?_
        refine OkOps.q (triQ (x := .c (.v (.int _ _))) rfl trivial rfl) ?_
        refine OkOps.q (triQ (x := .c (.v (.int _ _))) rfl trivial rfl) ?_
        refine OkOps.q (triQ (x := .c (.loc 0 1)) rfl trivial rfl) ?_
        refine OkOps.q (triQ (x := .c (.v (.int _ _))) rfl trivial rfl) ?_
        refine OkOps.q (triQ (x := .c (.loc 1 1)) rfl trivial rfl) ?_
        refine OkOps.q (triQ (x := .c (.v (.int _ _))) rfl trivial rfl) ?_
        refine OkOps.q (triQ (x := .c (.v (.int _ _))) rfl trivial rfl) ?_
        refine OkOps.q (triQ (x := .c (.loc 0 0)) rfl trivial rfl) ?_
        refine OkOps.q (triQ (x := .c (.v (.int _ _))) rfl trivial rfl) ?_
        refine OkOps.q (triQ (x := .c (.loc 0 2)) rfl trivial rfl) ?_
        refine OkOps.q (triQ (x := .c (.v (.int _ _))) rfl trivial rfl) ?_
        refine OkOps.q (triQ (x := .c (.v (.int _ _))) rfl trivial rfl) ?_
        refine OkOps.q (triQ (x := .c (.loc 1 0)) rfl trivial rfl) ?_
        refine OkOps.q (triQ (x := .c (.v (.int _ _))) rfl trivial rfl) ?_
        refine OkOps.q (triQ (x := .c (.loc 1 2)) rfl trivial rfl) ?_
        refine OkOps.q (triQ (x := .c (.v (.int _ _))) rfl trivial rfl) ?_
        refine OkOps.q (triQ (x := .c (.v (.int _ _))) rfl trivial rfl) ?_
        refine OkOps.q (triQ (x := .c (.v (.int _ _))) rfl trivial rfl) ?_
        refine OkOps.q (triQ (x := .c (.loc 0 1)) rfl trivial rfl) ?_
        refine OkOps.q (triQ (x := .c (.v (.int _ _))) rfl trivial rfl) ?_
        refine OkOps.q (triQ (x := .c (.loc 0 3)) rfl trivial rfl) ?_
        refine OkOps.q (triQ (x := .c (.v (.int _ _))) rfl trivial rfl) ?_
        refine OkOps.q (triQ (x := .c (.v (.int _ _))) rfl trivial rfl) ?_
        refine OkOps.q (triQ (x := .c (.loc 1 1)) rfl trivial rfl) ?_
        refine OkOps.q (triQ (x := .c (.v (.int _ _))) rfl trivial rfl) ?_
        refine OkOps.q (triQ (x := .c (.loc 1 3)) rfl trivial rfl) ?_
        refine OkOps.q (triQ (x := .c (.v (.int _ _))) rfl trivial rfl) ?_
        refine OkOps.q (triQ (x := .c (.v (.int _ _))) rfl trivial rfl) ?_
        refine OkOps.q (triQ (x := .c (.v (.int _ _))) rfl trivial rfl) ?_
        refine OkOps.q (triCallP (x := .s (.agg [.v (.int _ _), .v (.int _ _), .v (.int _ _), .v (.int _ _)])) rfl trivial entry42 (between_p _ _ _ _) rfl rfl) ?_
        refine OkOps.w (triStore (cs' := [.v (.int _ _), .v (.int _ _), .v (.int _ _), .v (.int _ _)]) rfl rfl rfl rfl rfl rfl rfl rfl rfl) ?_
        refine OkOps.nil ?_
        refine Ok.ret ?_
        exact ⟨_, rfl, by show _ = ofR _; rw [unionP4 (a := (x, y, u, v)) (b := (x2, y2, u2, v2)) h1 h2 h3]; rfl⟩
theorem entry32 : Entry Try.prog 32 := ⟨_, Try.func32, by kernel_rfl, by kernel_rfl⟩
theorem rUnion_p (x y u v x2 y2 u2 v2 : Int) : Pure Try.prog 33 [.agg #[.int .i64 x, .int .i64 y, .int .i64 u, .int .i64 v], .agg #[.int .i64 x2, .int .i64 y2, .int .i64 u2, .int .i64 v2]] (.agg #[.int .i64 (unionR (x, y, u, v) (x2, y2, u2, v2)).1, .int .i64 (unionR (x, y, u, v) (x2, y2, u2, v2)).2.1, .int .i64 (unionR (x, y, u, v) (x2, y2, u2, v2)).2.2.1, .int .i64 (unionR (x, y, u, v) (x2, y2, u2, v2)).2.2.2]) := by
  refine Pure.of_ok 63 [.cell 4 23] [(0, .s (.agg [.v (.int .i64 x), .v (.int .i64 y), .v (.int .i64 u), .v (.int .i64 v)])), (1, .s (.agg [.v (.int .i64 x2), .v (.int .i64 y2), .v (.int .i64 u2), .v (.int .i64 v2)]))] Try.func33 rfl rfl rfl rfl rfl fun w => ?_
  refine Ok.seq ?_
  refine Ok.region ?_
  refine OkOps.m 1 (triBox (j := 0) (cs := [.v (.int _ _), .v (.int _ _), .v (.int _ _), .v (.int _ _)]) rfl rfl rfl rfl rfl) ?_
  refine OkOps.m 2 (triBox (j := 1) (cs := [.v (.int _ _), .v (.int _ _), .v (.int _ _), .v (.int _ _)]) rfl rfl rfl rfl rfl) ?_
  refine OkOps.m 3 (triAlloc (j := 2) (cs := [.v (.int _ _), .v (.int _ _), .v (.int _ _), .v (.int _ _)]) rfl rfl rfl rfl) ?_
  refine OkOps.nil ?_
  refine Ok.seq ?_
  refine Ok.regionD (by kernel_rfl) ?_
  refine OkD.q (triQ (x := .agg [.v (.int _ _), .v (.int _ _), .v (.int _ _), .v (.int _ _)]) rfl trivial rfl) ?_
  refine OkD.q (triCallP (x := .s (.agg [.v (.int _ _), .v (.int _ _), .v (.int _ _), .v (.int _ _)])) rfl trivial entry43 (rvalid_p _ _ _ _) rfl rfl) ?_
  refine OkD.q (triQ (x := .agg [.v (.int _ _), .v (.int _ _), .v (.int _ _), .v (.int _ _)]) rfl trivial rfl) ?_
  refine OkD.q (triCallP (x := .s (.agg [.v (.int _ _), .v (.int _ _), .v (.int _ _), .v (.int _ _)])) rfl trivial entry43 (rvalid_p _ _ _ _) rfl rfl) ?_
  refine OkD.w (triStore (cs' := [.v (.int _ _), .v (.int _ _), .v (.int _ _), .v (.int _ _)]) rfl rfl rfl rfl rfl rfl rfl rfl rfl) ?_
  refine OkD.w (triStore (cs' := [.v (.int _ _), .v (.int _ _), .v (.int _ _), .v (.int _ _)]) rfl rfl rfl rfl rfl rfl rfl rfl rfl) ?_
  refine OkD.nil (by kernel_rfl) ?_
  refine Ok.seq ?_
  refine Ok.seq ?_
  refine Ok.region ?_
  refine OkOps.q (triQ (x := .agg [.v (.int _ _), .v (.int _ _), .v (.int _ _), .v (.int _ _)]) rfl trivial rfl) ?_
  refine OkOps.q (triCallP (x := .s (.c (.v (.bool _)))) rfl trivial entry28 (rEmpty_p _ _ _ _) rfl rfl) ?_
  refine OkOps.q (triQ (x := .c (.v (.bool _))) rfl trivial rfl) ?_
  refine OkOps.q (triQG (x := .agg [.v (.int _ _), .v (.int _ _), .v (.int _ _), .v (.int _ _)]) rfl rfl trivial rfl) ?_
  refine OkOps.q (triCallPG (x := .c (.v (.bool _))) rfl rfl ⟨fun h => h, trivial⟩ entry28 (fun _ => rEmpty_p _ _ _ _) rfl rfl) ?_
  refine OkOps.q (triAnd rfl rfl (fun h => h) rfl) ?_
  refine OkOps.nil ?_
  refine Ok.cond rfl (fun h1 => ?_) (fun h1 => ?_)
  · refine Ok.seq ?_
    refine Ok.region ?_
    refine OkOps.q (triQ (x := .agg [.v (.int _ _), .v (.int _ _), .v (.int _ _), .v (.int _ _)]) rfl trivial rfl) ?_
    refine OkOps.w (triStore (cs' := [.v (.int _ _), .v (.int _ _), .v (.int _ _), .v (.int _ _)]) rfl rfl rfl rfl rfl rfl rfl rfl rfl) ?_
    refine OkOps.nil ?_
    refine Ok.ret ?_
    exact ⟨_, rfl, by show _ = ofR _; rw [unionR1 (a := (x, y, u, v)) (b := (x2, y2, u2, v2)) h1]; rfl⟩
  · refine Ok.skip ?_
    refine Ok.seq ?_
    refine Ok.seq ?_
    refine Ok.region ?_
    refine OkOps.q (triQ (x := .agg [.v (.int _ _), .v (.int _ _), .v (.int _ _), .v (.int _ _)]) rfl trivial rfl) ?_
    refine OkOps.q (triCallP (x := .s (.c (.v (.bool _)))) rfl trivial entry28 (rEmpty_p _ _ _ _) rfl rfl) ?_
    refine OkOps.nil ?_
    refine Ok.cond rfl (fun h2 => ?_) (fun h2 => ?_)
    · refine Ok.seq ?_
      refine Ok.region ?_
      refine OkOps.q (triQ (x := .agg [.v (.int _ _), .v (.int _ _), .v (.int _ _), .v (.int _ _)]) rfl trivial rfl) ?_
      refine OkOps.w (triStore (cs' := [.v (.int _ _), .v (.int _ _), .v (.int _ _), .v (.int _ _)]) rfl rfl rfl rfl rfl rfl rfl rfl rfl) ?_
      refine OkOps.nil ?_
      refine Ok.ret ?_
      exact ⟨_, rfl, by show _ = ofR _; rw [unionR2 (a := (x, y, u, v)) (b := (x2, y2, u2, v2)) h1 h2]; rfl⟩
    · refine Ok.skip ?_
      refine Ok.seq ?_
      refine Ok.seq ?_
      refine Ok.region ?_
      refine OkOps.q (triQ (x := .agg [.v (.int _ _), .v (.int _ _), .v (.int _ _), .v (.int _ _)]) rfl trivial rfl) ?_
      refine OkOps.q (triCallP (x := .s (.c (.v (.bool _)))) rfl trivial entry28 (rEmpty_p _ _ _ _) rfl rfl) ?_
      refine OkOps.nil ?_
      refine Ok.cond rfl (fun h3 => ?_) (fun h3 => ?_)
      · refine Ok.seq ?_
        refine Ok.region ?_
        refine OkOps.q (triQ (x := .agg [.v (.int _ _), .v (.int _ _), .v (.int _ _), .v (.int _ _)]) rfl trivial rfl) ?_
        refine OkOps.w (triStore (cs' := [.v (.int _ _), .v (.int _ _), .v (.int _ _), .v (.int _ _)]) rfl rfl rfl rfl rfl rfl rfl rfl rfl) ?_
        refine OkOps.nil ?_
        refine Ok.ret ?_
        exact ⟨_, rfl, by show _ = ofR _; rw [unionR3 (a := (x, y, u, v)) (b := (x2, y2, u2, v2)) h1 h2 h3]; rfl⟩
      · refine Ok.skip ?_
        refine Ok.seq ?_
        refine Ok.regionD (by kernel_rfl) ?_
        refine OkD.q (triQ (x := .c (.loc 0 0)) rfl trivial rfl) ?_
        refine OkD.q (triQ (x := .c (.v (.int _ _))) rfl trivial rfl) ?_
        refine OkD.q (triQ (x := .c (.loc 1 0)) rfl trivial rfl) ?_
        refine OkD.q (triQ (x := .c (.v (.int _ _))) rfl trivial rfl) ?_
        refine OkD.q (triQ (x := .c (.v (.int _ _))) rfl trivial rfl) ?_
        refine OkD.q (triQ (x := .c (.loc 0 1)) rfl trivial rfl) ?_
        refine OkD.q (triQ (x := .c (.v (.int _ _))) rfl trivial rfl) ?_
        refine OkD.q (triQ (x := .c (.loc 1 1)) rfl trivial rfl) ?_
        refine OkD.q (triQ (x := .c (.v (.int _ _))) rfl trivial rfl) ?_
        refine OkD.q (triQ (x := .c (.v (.int _ _))) rfl trivial rfl) ?_
        refine OkD.q (triQ (x := .c (.v (.int _ _))) rfl trivial rfl) ?_
        refine OkD.q (triQ (x := .c (.v (.int _ _))) rfl trivial rfl) ?_
        refine OkD.nil (by kernel_rfl) ?_
        refine Ok.seq ?_
        refine Ok.region ?_
        refine OkOps.q (triQ (x := .c (.v (.int _ _))) rfl trivial rfl) ?_
        refine OkOps.q (triQ (x := .c (.v (.int _ _))) rfl trivial rfl) ?_
        refine OkOps.q (triQ (x := .c (.loc 0 0)) rfl trivial rfl) ?_
        refine OkOps.q (triQ (x := .c (.v (.int _ _))) rfl trivial rfl) ?_
        refine OkOps.q (triQ (x := .c (.loc 0 2)) rfl trivial rfl) ?_
        refine OkOps.q (triQ (x := .c (.v (.int _ _))) rfl trivial rfl) ?_
        refine OkOps.q (triQ (x := .c (.v (.int _ _))) rfl trivial rfl) ?_
        refine OkOps.q (triQ (x := .c (.loc 1 0)) rfl trivial rfl) ?_
        refine OkOps.q (triQ (x := .c (.v (.int _ _))) rfl trivial rfl) ?_
        refine OkOps.q (triQ (x := .c (.loc 1 2)) rfl trivial rfl) ?_
        refine OkOps.q (triQ (x := .c (.v (.int _ _))) rfl trivial rfl) ?_
        refine OkOps.q (triQ (x := .c (.v (.int _ _))) rfl trivial rfl) ?_
        refine OkOps.q (triQ (x := .c (.v (.int _ _))) rfl trivial rfl) ?_
        refine OkOps.q (triQ (x := .c (.v (.int _ _))) rfl trivial rfl) ?_
        refine OkOps.q (triQ (x := .c (.v (.int _ _))) rfl trivial rfl) ?_
        refine OkOps.q (triQ (x := .c (.loc 0 1)) rfl trivial rfl) ?_
        refine OkOps.q (triQ (x := .c (.v (.int _ _))) rfl trivial rfl) ?_
        refine OkOps.q (triQ (x := .c (.loc 0 3)) rfl trivial rfl) ?_
        refine OkOps.q (triQ (x := .c (.v (.int _ _))) rfl trivial rfl) ?_
        refine OkOps.q (triQ (x := .c (.v (.int _ _))) rfl trivial rfl) ?_
        refine OkOps.q (triQ (x := .c (.loc 1 1)) rfl trivial rfl) ?_
        refine OkOps.q (triQ (x := .c (.v (.int _ _))) rfl trivial rfl) ?_
        refine OkOps.q (triQ (x := .c (.loc 1 3)) rfl trivial rfl) ?_
        refine OkOps.q (triQ (x := .c (.v (.int _ _))) rfl trivial rfl) ?_
        refine OkOps.q (triQ (x := .c (.v (.int _ _))) rfl trivial rfl) ?_
        refine OkOps.q (triQ (x := .c (.v (.int _ _))) rfl trivial rfl) ?_
        refine OkOps.q (triQ (x := .c (.v (.int _ _))) rfl trivial rfl) ?_
        refine OkOps.q (triQ (x := .c (.v (.int _ _))) rfl trivial rfl) ?_
        refine OkOps.q (triQ (x := .agg [.v (.int _ _), .v (.int _ _), .v (.int _ _), .v (.int _ _)]) rfl trivial rfl) ?_
        refine OkOps.w (triStore (cs' := [.v (.int _ _), .v (.int _ _), .v (.int _ _), .v (.int _ _)]) rfl rfl rfl rfl rfl rfl rfl rfl rfl) ?_
        refine OkOps.nil ?_
        refine Ok.ret ?_
        exact ⟨_, rfl, by show _ = ofR _; rw [unionR4 (a := (x, y, u, v)) (b := (x2, y2, u2, v2)) h1 h2 h3]; rfl⟩
theorem entry33 : Entry Try.prog 33 := ⟨_, Try.func33, by kernel_rfl, by kernel_rfl⟩
theorem Shrink_p (x y u v l t r b : Int) : Pure Try.prog 21 [.agg #[.int .i64 x, .int .i64 y, .int .i64 u, .int .i64 v], .agg #[.int .i64 l, .int .i64 t, .int .i64 r, .int .i64 b]] (.agg #[.int .i64 (shrP (x, y, u, v) (l, t, r, b)).1, .int .i64 (shrP (x, y, u, v) (l, t, r, b)).2.1, .int .i64 (shrP (x, y, u, v) (l, t, r, b)).2.2.1, .int .i64 (shrP (x, y, u, v) (l, t, r, b)).2.2.2]) := by
  refine Pure.of_ok 56 [.cell 4 23] [(0, .s (.agg [.v (.int .i64 x), .v (.int .i64 y), .v (.int .i64 u), .v (.int .i64 v)])), (1, .s (.agg [.v (.int .i64 l), .v (.int .i64 t), .v (.int .i64 r), .v (.int .i64 b)]))] Try.func21 rfl rfl rfl rfl rfl fun w => ?_
  refine Ok.seq ?_
  refine Ok.region ?_
  refine OkOps.m 1 (triBox (j := 0) (cs := [.v (.int _ _), .v (.int _ _), .v (.int _ _), .v (.int _ _)]) rfl rfl rfl rfl rfl) ?_
  refine OkOps.m 2 (triBox (j := 1) (cs := [.v (.int _ _), .v (.int _ _), .v (.int _ _), .v (.int _ _)]) rfl rfl rfl rfl rfl) ?_
  refine OkOps.m 3 (triAlloc (j := 2) (cs := [.v (.int _ _), .v (.int _ _), .v (.int _ _), .v (.int _ _)]) rfl rfl rfl rfl) ?_
  refine OkOps.nil ?_
  refine Ok.seq ?_
  refine Ok.region ?_
  refine OkOps.q (triQ (x := .agg [.v (.int _ _), .v (.int _ _), .v (.int _ _), .v (.int _ _)]) rfl trivial rfl) ?_
  refine OkOps.q (triCallP (x := .s (.agg [.v (.int _ _), .v (.int _ _), .v (.int _ _), .v (.int _ _)])) rfl trivial entry34 (valid_p _ _ _ _) rfl rfl) ?_
  refine OkOps.w (triStore (cs' := [.v (.int _ _), .v (.int _ _), .v (.int _ _), .v (.int _ _)]) rfl rfl rfl rfl rfl rfl rfl rfl rfl) ?_
  refine OkOps.nil ?_
  refine Ok.seq ?_
  refine Ok.seq ?_
  refine Ok.region ?_
  refine OkOps.q (triQ (x := .c (.loc 1 0)) rfl trivial rfl) ?_
  refine OkOps.q (triQ (x := .c (.v (.int _ _))) rfl trivial rfl) ?_
  refine OkOps.q (triQ (x := .c (.loc 1 1)) rfl trivial rfl) ?_
  refine OkOps.q (triQ (x := .c (.v (.int _ _))) rfl trivial rfl) ?_
  refine OkOps.q (triQ (x := .c (.loc 1 2)) rfl trivial rfl) ?_
  refine OkOps.q (triQ (x := .c (.v (.int _ _))) rfl trivial rfl) ?_
  refine OkOps.q (triQ (x := .c (.loc 1 3)) rfl trivial rfl) ?_
  refine OkOps.q (triQ (x := .c (.v (.int _ _))) rfl trivial rfl) ?_
  refine OkOps.q (triQ (x := .agg [.v (.int _ _), .v (.int _ _), .v (.int _ _), .v (.int _ _)]) rfl trivial rfl) ?_
  refine OkOps.q (triQ (x := .c (.v (.int _ _))) rfl trivial rfl) ?_
  refine OkOps.nil ?_
  refine Ok.block ?_
  refine Ok.rounds 5 ?_
  refine OkR.succ ?_
  refine Ok.seq ?_
  refine Ok.region ?_
  refine OkOps.q (triQ (x := .c (.v (.bool _))) rfl trivial rfl) ?_
  refine OkOps.nil ?_
  refine Ok.seq ?_
  refine Ok.cond rfl (fun h1 => ?_) (fun h1 => absurd h1 (by decide))
  refine Ok.skip ?_
  refine Ok.seq ?_
  refine Ok.block ?_
  refine Ok.seq ?_
  refine Ok.region ?_
  refine OkOps.q (triQ (x := .c (.v (.int _ _))) rfl trivial rfl) ?_
  refine OkOps.q (triQ (x := .c (.v (.int _ _))) rfl trivial rfl) ?_
  refine OkOps.nil ?_
  refine Ok.seq ?_
  refine Ok.region ?_
  refine OkOps.q (triQ (x := .c (.v (.int _ _))) rfl trivial rfl) ?_
  refine OkOps.q (triQ (x := .c (.v (.bool _))) rfl trivial rfl) ?_
  refine OkOps.q (triQ (x := .c (.v (.bool _))) rfl trivial rfl) ?_
  refine OkOps.q (triQG (x := .c (.v (.int _ _))) rfl rfl trivial rfl) ?_
  refine OkOps.q (triQG (x := .c (.v (.bool _))) rfl rfl ⟨fun h => h, trivial⟩ rfl) ?_
  refine OkOps.q (triOr rfl rfl (fun h => by rw [h]; rfl) rfl) ?_
  refine OkOps.nil ?_
  refine Ok.cond rfl (fun h2 => ?_) (fun h2 => ?_)
  · refine Ok.seq ?_
    refine Ok.region ?_
    refine OkOps.q (triQ (x := .agg [.v (.int _ _), .v (.int _ _), .v (.int _ _), .v (.int _ _)]) rfl trivial rfl) ?_
    refine OkOps.w (triStore (cs' := [.v (.int _ _), .v (.int _ _), .v (.int _ _), .v (.int _ _)]) rfl rfl rfl rfl rfl rfl rfl rfl rfl) ?_
    refine OkOps.nil ?_
    refine Ok.ret ?_
    exact ⟨_, rfl, by show _ = ofR _; rw [shrP, selQ_t (show offI l = true from h2)]; rfl⟩
  · refine Ok.skip ?_
    refine Ok.region ?_
    refine OkOps.q (triQ (x := .c (.v (.int _ _))) rfl trivial rfl) ?_
    refine OkOps.q (triQ (x := .c (.v (.int _ _))) rfl trivial rfl) ?_
    refine OkOps.nil ?_
    refine OkR.succ ?_
    refine Ok.seq ?_
    refine Ok.region ?_
    refine OkOps.q (triQ (x := .c (.v (.bool _))) rfl trivial rfl) ?_
    refine OkOps.nil ?_
    refine Ok.seq ?_
    refine Ok.cond rfl (fun h3 => ?_) (fun h3 => absurd h3 (by decide))
    refine Ok.skip ?_
    refine Ok.seq ?_
    refine Ok.block ?_
    refine Ok.seq ?_
    refine Ok.region ?_
    refine OkOps.q (triQ (x := .c (.v (.int _ _))) rfl trivial rfl) ?_
    refine OkOps.q (triQ (x := .c (.v (.int _ _))) rfl trivial rfl) ?_
    refine OkOps.nil ?_
    refine Ok.seq ?_
    refine Ok.region ?_
    refine OkOps.q (triQ (x := .c (.v (.int _ _))) rfl trivial rfl) ?_
    refine OkOps.q (triQ (x := .c (.v (.bool _))) rfl trivial rfl) ?_
    refine OkOps.q (triQ (x := .c (.v (.bool _))) rfl trivial rfl) ?_
    refine OkOps.q (triQG (x := .c (.v (.int _ _))) rfl rfl trivial rfl) ?_
    refine OkOps.q (triQG (x := .c (.v (.bool _))) rfl rfl ⟨fun h => h, trivial⟩ rfl) ?_
    refine OkOps.q (triOr rfl rfl (fun h => by rw [h]; rfl) rfl) ?_
    refine OkOps.nil ?_
    refine Ok.cond rfl (fun h4 => ?_) (fun h4 => ?_)
    · refine Ok.seq ?_
      refine Ok.region ?_
      refine OkOps.q (triQ (x := .agg [.v (.int _ _), .v (.int _ _), .v (.int _ _), .v (.int _ _)]) rfl trivial rfl) ?_
      refine OkOps.w (triStore (cs' := [.v (.int _ _), .v (.int _ _), .v (.int _ _), .v (.int _ _)]) rfl rfl rfl rfl rfl rfl rfl rfl rfl) ?_
      refine OkOps.nil ?_
      refine Ok.ret ?_
      exact ⟨_, rfl, by show _ = ofR _; rw [shrP, selQ_f (show offI l = false from h2), selQ_t (show offI t = true from h4)]; rfl⟩
    · refine Ok.skip ?_
      refine Ok.region ?_
      refine OkOps.q (triQ (x := .c (.v (.int _ _))) rfl trivial rfl) ?_
      refine OkOps.q (triQ (x := .c (.v (.int _ _))) rfl trivial rfl) ?_
      refine OkOps.nil ?_
      refine OkR.succ ?_
      refine Ok.seq ?_
      refine Ok.region ?_
      refine OkOps.q (triQ (x := .c (.v (.bool _))) rfl trivial rfl) ?_
      refine OkOps.nil ?_
      refine Ok.seq ?_
      refine Ok.cond rfl (fun h5 => ?_) (fun h5 => absurd h5 (by decide))
      refine Ok.skip ?_
      refine Ok.seq ?_
      refine Ok.block ?_
      refine Ok.seq ?_
      refine Ok.region ?_
      refine OkOps.q (triQ (x := .c (.v (.int _ _))) rfl trivial rfl) ?_
      refine OkOps.q (triQ (x := .c (.v (.int _ _))) rfl trivial rfl) ?_
      refine OkOps.nil ?_
      refine Ok.seq ?_
      refine Ok.region ?_
      refine OkOps.q (triQ (x := .c (.v (.int _ _))) rfl trivial rfl) ?_
      refine OkOps.q (triQ (x := .c (.v (.bool _))) rfl trivial rfl) ?_
      refine OkOps.q (triQ (x := .c (.v (.bool _))) rfl trivial rfl) ?_
      refine OkOps.q (triQG (x := .c (.v (.int _ _))) rfl rfl trivial rfl) ?_
      refine OkOps.q (triQG (x := .c (.v (.bool _))) rfl rfl ⟨fun h => h, trivial⟩ rfl) ?_
      refine OkOps.q (triOr rfl rfl (fun h => by rw [h]; rfl) rfl) ?_
      refine OkOps.nil ?_
      refine Ok.cond rfl (fun h6 => ?_) (fun h6 => ?_)
      · refine Ok.seq ?_
        refine Ok.region ?_
        refine OkOps.q (triQ (x := .agg [.v (.int _ _), .v (.int _ _), .v (.int _ _), .v (.int _ _)]) rfl trivial rfl) ?_
        refine OkOps.w (triStore (cs' := [.v (.int _ _), .v (.int _ _), .v (.int _ _), .v (.int _ _)]) rfl rfl rfl rfl rfl rfl rfl rfl rfl) ?_
        refine OkOps.nil ?_
        refine Ok.ret ?_
        exact ⟨_, rfl, by show _ = ofR _; rw [shrP, selQ_f (show offI l = false from h2), selQ_f (show offI t = false from h4), selQ_t (show offI r = true from h6)]; rfl⟩
      · refine Ok.skip ?_
        refine Ok.region ?_
        refine OkOps.q (triQ (x := .c (.v (.int _ _))) rfl trivial rfl) ?_
        refine OkOps.q (triQ (x := .c (.v (.int _ _))) rfl trivial rfl) ?_
        refine OkOps.nil ?_
        refine OkR.succ ?_
        refine Ok.seq ?_
        refine Ok.region ?_
        refine OkOps.q (triQ (x := .c (.v (.bool _))) rfl trivial rfl) ?_
        refine OkOps.nil ?_
        refine Ok.seq ?_
        refine Ok.cond rfl (fun h7 => ?_) (fun h7 => absurd h7 (by decide))
        refine Ok.skip ?_
        refine Ok.seq ?_
        refine Ok.block ?_
        refine Ok.seq ?_
        refine Ok.region ?_
        refine OkOps.q (triQ (x := .c (.v (.int _ _))) rfl trivial rfl) ?_
        refine OkOps.q (triQ (x := .c (.v (.int _ _))) rfl trivial rfl) ?_
        refine OkOps.nil ?_
        refine Ok.seq ?_
        refine Ok.region ?_
        refine OkOps.q (triQ (x := .c (.v (.int _ _))) rfl trivial rfl) ?_
        refine OkOps.q (triQ (x := .c (.v (.bool _))) rfl trivial rfl) ?_
        refine OkOps.q (triQ (x := .c (.v (.bool _))) rfl trivial rfl) ?_
        refine OkOps.q (triQG (x := .c (.v (.int _ _))) rfl rfl trivial rfl) ?_
        refine OkOps.q (triQG (x := .c (.v (.bool _))) rfl rfl ⟨fun h => h, trivial⟩ rfl) ?_
        refine OkOps.q (triOr rfl rfl (fun h => by rw [h]; rfl) rfl) ?_
        refine OkOps.nil ?_
        refine Ok.cond rfl (fun h8 => ?_) (fun h8 => ?_)
        · refine Ok.seq ?_
          refine Ok.region ?_
          refine OkOps.q (triQ (x := .agg [.v (.int _ _), .v (.int _ _), .v (.int _ _), .v (.int _ _)]) rfl trivial rfl) ?_
          refine OkOps.w (triStore (cs' := [.v (.int _ _), .v (.int _ _), .v (.int _ _), .v (.int _ _)]) rfl rfl rfl rfl rfl rfl rfl rfl rfl) ?_
          refine OkOps.nil ?_
          refine Ok.ret ?_
          exact ⟨_, rfl, by show _ = ofR _; rw [shrP, selQ_f (show offI l = false from h2), selQ_f (show offI t = false from h4), selQ_f (show offI r = false from h6), selQ_t (show offI b = true from h8)]; rfl⟩
        · refine Ok.skip ?_
          refine Ok.region ?_
          refine OkOps.q (triQ (x := .c (.v (.int _ _))) rfl trivial rfl) ?_
          refine OkOps.q (triQ (x := .c (.v (.int _ _))) rfl trivial rfl) ?_
          refine OkOps.nil ?_
          refine OkR.succ ?_
          refine Ok.seq ?_
          refine Ok.region ?_
          refine OkOps.q (triQ (x := .c (.v (.bool _))) rfl trivial rfl) ?_
          refine OkOps.nil ?_
          refine Ok.seq ?_
          refine Ok.cond rfl (fun h9 => absurd h9 (by decide)) (fun h9 => ?_)
          refine Ok.exit ?_
          refine Ok.seq ?_
          refine Ok.region ?_
          refine OkOps.q (triQ (x := .c (.loc 0 0)) rfl trivial rfl) ?_
          refine OkOps.q (triQ (x := .c (.v (.int _ _))) rfl trivial rfl) ?_
          refine OkOps.q (triQ (x := .c (.loc 1 0)) rfl trivial rfl) ?_
          refine OkOps.q (triQ (x := .c (.v (.int _ _))) rfl trivial rfl) ?_
          refine OkOps.q (triQ (x := .c (.v (.int _ _))) rfl trivial rfl) ?_
          refine OkOps.q (triQ (x := .c (.loc 0 1)) rfl trivial rfl) ?_
          refine OkOps.q (triQ (x := .c (.v (.int _ _))) rfl trivial rfl) ?_
          refine OkOps.q (triQ (x := .c (.loc 1 1)) rfl trivial rfl) ?_
          refine OkOps.q (triQ (x := .c (.v (.int _ _))) rfl trivial rfl) ?_
          refine OkOps.q (triQ (x := .c (.v (.int _ _))) rfl trivial rfl) ?_
          refine OkOps.q (triQ (x := .c (.loc 0 0)) rfl trivial rfl) ?_
          refine OkOps.q (triQ (x := .c (.v (.int _ _))) rfl trivial rfl) ?_
          refine OkOps.q (triQ (x := .c (.loc 0 2)) rfl trivial rfl) ?_
          refine OkOps.q (triQ (x := .c (.v (.int _ _))) rfl trivial rfl) ?_
          refine OkOps.q (triQ (x := .c (.v (.int _ _))) rfl trivial rfl) ?_
          refine OkOps.q (triQ (x := .c (.loc 1 2)) rfl trivial rfl) ?_
          refine OkOps.q (triQ (x := .c (.v (.int _ _))) rfl trivial rfl) ?_
          refine OkOps.q (triQ (x := .c (.v (.int _ _))) rfl trivial rfl) ?_
          refine OkOps.q (triQ (x := .c (.loc 0 1)) rfl trivial rfl) ?_
          refine OkOps.q (triQ (x := .c (.v (.int _ _))) rfl trivial rfl) ?_
          refine OkOps.q (triQ (x := .c (.loc 0 3)) rfl trivial rfl) ?_
          refine OkOps.q (triQ (x := .c (.v (.int _ _))) rfl trivial rfl) ?_
          refine OkOps.q (triQ (x := .c (.v (.int _ _))) rfl trivial rfl) ?_
          refine OkOps.q (triQ (x := .c (.loc 1 3)) rfl trivial rfl) ?_
          refine OkOps.q (triQ (x := .c (.v (.int _ _))) rfl trivial rfl) ?_
          refine OkOps.q (triQ (x := .c (.v (.int _ _))) rfl trivial rfl) ?_
          refine OkOps.q (triCallP (x := .s (.agg [.v (.int _ _), .v (.int _ _), .v (.int _ _), .v (.int _ _)])) rfl trivial entry42 (between_p _ _ _ _) rfl rfl) ?_
          refine OkOps.w (triStore (cs' := [.v (.int _ _), .v (.int _ _), .v (.int _ _), .v (.int _ _)]) rfl rfl rfl rfl rfl rfl rfl rfl rfl) ?_
          refine OkOps.nil ?_
          refine Ok.ret ?_
          exact ⟨_, rfl, by show _ = ofR _; rw [shrP, selQ_f (show offI l = false from h2), selQ_f (show offI t = false from h4), selQ_f (show offI r = false from h6), selQ_f (show offI b = false from h8)]; rfl⟩
theorem entry21 : Entry Try.prog 21 := ⟨_, Try.func21, by kernel_rfl, by kernel_rfl⟩
theorem rShrink_p (x y u v l t r b : Int) : Pure Try.prog 22 [.agg #[.int .i64 x, .int .i64 y, .int .i64 u, .int .i64 v], .agg #[.int .i64 l, .int .i64 t, .int .i64 r, .int .i64 b]] (.agg #[.int .i64 (shrR (x, y, u, v) (l, t, r, b)).1, .int .i64 (shrR (x, y, u, v) (l, t, r, b)).2.1, .int .i64 (shrR (x, y, u, v) (l, t, r, b)).2.2.1, .int .i64 (shrR (x, y, u, v) (l, t, r, b)).2.2.2]) := by
  refine Pure.of_ok 84 [.cell 4 23] [(0, .s (.agg [.v (.int .i64 x), .v (.int .i64 y), .v (.int .i64 u), .v (.int .i64 v)])), (1, .s (.agg [.v (.int .i64 l), .v (.int .i64 t), .v (.int .i64 r), .v (.int .i64 b)]))] Try.func22 rfl rfl rfl rfl rfl fun w => ?_
  refine Ok.seq ?_
  refine Ok.region ?_
  refine OkOps.m 1 (triBox (j := 0) (cs := [.v (.int _ _), .v (.int _ _), .v (.int _ _), .v (.int _ _)]) rfl rfl rfl rfl rfl) ?_
  refine OkOps.m 2 (triBox (j := 1) (cs := [.v (.int _ _), .v (.int _ _), .v (.int _ _), .v (.int _ _)]) rfl rfl rfl rfl rfl) ?_
  refine OkOps.m 3 (triAlloc (j := 2) (cs := [.v (.int _ _), .v (.int _ _), .v (.int _ _), .v (.int _ _)]) rfl rfl rfl rfl) ?_
  refine OkOps.nil ?_
  refine Ok.seq ?_
  refine Ok.region ?_
  refine OkOps.q (triQ (x := .agg [.v (.int _ _), .v (.int _ _), .v (.int _ _), .v (.int _ _)]) rfl trivial rfl) ?_
  refine OkOps.q (triCallP (x := .s (.agg [.v (.int _ _), .v (.int _ _), .v (.int _ _), .v (.int _ _)])) rfl trivial entry43 (rvalid_p _ _ _ _) rfl rfl) ?_
  refine OkOps.w (triStore (cs' := [.v (.int _ _), .v (.int _ _), .v (.int _ _), .v (.int _ _)]) rfl rfl rfl rfl rfl rfl rfl rfl rfl) ?_
  refine OkOps.nil ?_
  refine Ok.seq ?_
  refine Ok.seq ?_
  refine Ok.region ?_
  refine OkOps.q (triQ (x := .c (.loc 1 0)) rfl trivial rfl) ?_
  refine OkOps.q (triQ (x := .c (.v (.int _ _))) rfl trivial rfl) ?_
  refine OkOps.q (triQ (x := .c (.v (.bool _))) rfl trivial rfl) ?_
  refine OkOps.q (triQ (x := .c (.v (.bool _))) rfl trivial rfl) ?_
  refine OkOps.q (triQG (x := .c (.loc 1 0)) rfl rfl trivial rfl) ?_
  refine OkOps.q (triQG (x := .c (.v (.int _ _))) rfl rfl ⟨fun h => h, trivial⟩ rfl) ?_
  refine OkOps.q (triQG (x := .c (.v (.bool _))) rfl rfl ⟨fun h => h, trivial⟩ rfl) ?_
  refine OkOps.q (triOr rfl rfl (fun h => by rw [h]; rfl) rfl) ?_
  refine OkOps.q (triQ (x := .c (.v (.bool _))) rfl trivial rfl) ?_
  refine OkOps.q (triQG (x := .c (.loc 1 1)) rfl rfl trivial rfl) ?_
  refine OkOps.q (triQG (x := .c (.v (.int _ _))) rfl rfl ⟨fun h => h, trivial⟩ rfl) ?_
  refine OkOps.q (triQG (x := .c (.v (.bool _))) rfl rfl ⟨fun h => h, trivial⟩ rfl) ?_
  refine OkOps.q (triOr rfl rfl (fun h => by rw [h]; rfl) rfl) ?_
  refine OkOps.q (triQ (x := .c (.v (.bool _))) rfl trivial rfl) ?_
  refine OkOps.q (triQG (x := .c (.loc 1 1)) rfl rfl trivial rfl) ?_
  refine OkOps.q (triQG (x := .c (.v (.int _ _))) rfl rfl ⟨fun h => h, trivial⟩ rfl) ?_
  refine OkOps.q (triQG (x := .c (.v (.bool _))) rfl rfl ⟨fun h => h, trivial⟩ rfl) ?_
  refine OkOps.q (triOr rfl rfl (fun h => by rw [h]; rfl) rfl) ?_
  refine OkOps.q (triQ (x := .c (.v (.bool _))) rfl trivial rfl) ?_
  refine OkOps.q (triQG (x := .c (.loc 1 2)) rfl rfl trivial rfl) ?_
  refine OkOps.q (triQG (x := .c (.v (.int _ _))) rfl rfl ⟨fun h => h, trivial⟩ rfl) ?_
  refine OkOps.q (triQG (x := .c (.v (.bool _))) rfl rfl ⟨fun h => h, trivial⟩ rfl) ?_
  refine OkOps.q (triOr rfl rfl (fun h => by rw [h]; rfl) rfl) ?_
  refine OkOps.q (triQ (x := .c (.v (.bool _))) rfl trivial rfl) ?_
  refine OkOps.q (triQG (x := .c (.loc 1 2)) rfl rfl trivial rfl) ?_
  refine OkOps.q (triQG (x := .c (.v (.int _ _))) rfl rfl ⟨fun h => h, trivial⟩ rfl) ?_
  refine OkOps.q (triQG (x := .c (.v (.bool _))) rfl rfl ⟨fun h => h, trivial⟩ rfl) ?_
  refine OkOps.q (triOr rfl rfl (fun h => by rw [h]; rfl) rfl) ?_
  refine OkOps.q (triQ (x := .c (.v (.bool _))) rfl trivial rfl) ?_
  refine OkOps.q (triQG (x := .c (.loc 1 3)) rfl rfl trivial rfl) ?_
  refine OkOps.q (triQG (x := .c (.v (.int _ _))) rfl rfl ⟨fun h => h, trivial⟩ rfl) ?_
  refine OkOps.q (triQG (x := .c (.v (.bool _))) rfl rfl ⟨fun h => h, trivial⟩ rfl) ?_
  refine OkOps.q (triOr rfl rfl (fun h => by rw [h]; rfl) rfl) ?_
  refine OkOps.q (triQ (x := .c (.v (.bool _))) rfl trivial rfl) ?_
  refine OkOps.q (triQG (x := .c (.loc 1 3)) rfl rfl trivial rfl) ?_
  refine OkOps.q (triQG (x := .c (.v (.int _ _))) rfl rfl ⟨fun h => h, trivial⟩ rfl) ?_
  refine OkOps.q (triQG (x := .c (.v (.bool _))) rfl rfl ⟨fun h => h, trivial⟩ rfl) ?_
  refine OkOps.q (triOr rfl rfl (fun h => by rw [h]; rfl) rfl) ?_
  refine OkOps.nil ?_
  refine Ok.cond rfl (fun h1 => ?_) (fun h1 => ?_)
  · refine Ok.seq ?_
    refine Ok.region ?_
    refine OkOps.q (triQ (x := .agg [.v (.int _ _), .v (.int _ _), .v (.int _ _), .v (.int _ _)]) rfl trivial rfl) ?_
    refine OkOps.w (triStore (cs' := [.v (.int _ _), .v (.int _ _), .v (.int _ _), .v (.int _ _)]) rfl rfl rfl rfl rfl rfl rfl rfl rfl) ?_
    refine OkOps.nil ?_
    refine Ok.ret ?_
    exact ⟨_, rfl, by show _ = ofR _; rw [shrR, selQ_t (show offR (l, t, r, b) = true from h1)]; rfl⟩
  · refine Ok.skip ?_
    refine Ok.seq ?_
    refine Ok.region ?_
    refine OkOps.q (triQ (x := .c (.loc 0 0)) rfl trivial rfl) ?_
    refine OkOps.q (triQ (x := .c (.v (.int _ _))) rfl trivial rfl) ?_
    refine OkOps.q (triQ (x := .c (.loc 1 0)) rfl trivial rfl) ?_
    refine OkOps.q (triQ (x := .c (.v (.int _ _))) rfl trivial rfl) ?_
    refine OkOps.q (triQ (x := .c (.v (.int _ _))) rfl trivial rfl) ?_
    refine OkOps.q (triQ (x := .c (.loc 0 1)) rfl trivial rfl) ?_
    refine OkOps.q (triQ (x := .c (.v (.int _ _))) rfl trivial rfl) ?_
    refine OkOps.q (triQ (x := .c (.loc 1 1)) rfl trivial rfl) ?_
    refine OkOps.q (triQ (x := .c (.v (.int _ _))) rfl trivial rfl) ?_
    refine OkOps.q (triQ (x := .c (.v (.int _ _))) rfl trivial rfl) ?_
    refine OkOps.q (triQ (x := .c (.loc 0 2)) rfl trivial rfl) ?_
    refine OkOps.q (triQ (x := .c (.v (.int _ _))) rfl trivial rfl) ?_
    refine OkOps.q (triQ (x := .c (.loc 1 0)) rfl trivial rfl) ?_
    refine OkOps.q (triQ (x := .c (.v (.int _ _))) rfl trivial rfl) ?_
    refine OkOps.q (triQ (x := .c (.v (.int _ _))) rfl trivial rfl) ?_
    refine OkOps.q (triQ (x := .c (.loc 1 2)) rfl trivial rfl) ?_
    refine OkOps.q (triQ (x := .c (.v (.int _ _))) rfl trivial rfl) ?_
    refine OkOps.q (triQ (x := .c (.v (.int _ _))) rfl trivial rfl) ?_
    refine OkOps.q (triQ (x := .c (.loc 0 3)) rfl trivial rfl) ?_
    refine OkOps.q (triQ (x := .c (.v (.int _ _))) rfl trivial rfl) ?_
    refine OkOps.q (triQ (x := .c (.loc 1 1)) rfl trivial rfl) ?_
    refine OkOps.q (triQ (x := .c (.v (.int _ _))) rfl trivial rfl) ?_
    refine OkOps.q (triQ (x := .c (.v (.int _ _))) rfl trivial rfl) ?_
    refine OkOps.q (triQ (x := .c (.loc 1 3)) rfl trivial rfl) ?_
    refine OkOps.q (triQ (x := .c (.v (.int _ _))) rfl trivial rfl) ?_
    refine OkOps.q (triQ (x := .c (.v (.int _ _))) rfl trivial rfl) ?_
    refine OkOps.q (triQ (x := .agg [.v (.int _ _), .v (.int _ _), .v (.int _ _), .v (.int _ _)]) rfl trivial rfl) ?_
    refine OkOps.m 4 (triAlloc (j := 3) (cs := [.v (.int _ _), .v (.int _ _), .v (.int _ _), .v (.int _ _)]) rfl rfl rfl rfl) ?_
    refine OkOps.w (triStore (cs' := [.v (.int _ _), .v (.int _ _), .v (.int _ _), .v (.int _ _)]) rfl rfl rfl rfl rfl rfl rfl rfl rfl) ?_
    refine OkOps.nil ?_
    refine Ok.seq ?_
    refine Ok.seq ?_
    refine Ok.region ?_
    refine OkOps.q (triQ (x := .c (.loc 3 2)) rfl trivial rfl) ?_
    refine OkOps.q (triQ (x := .c (.v (.int _ _))) rfl trivial rfl) ?_
    refine OkOps.q (triQ (x := .c (.v (.bool _))) rfl trivial rfl) ?_
    refine OkOps.q (triQ (x := .c (.v (.bool _))) rfl trivial rfl) ?_
    refine OkOps.q (triQG (x := .c (.loc 3 3)) rfl rfl trivial rfl) ?_
    refine OkOps.q (triQG (x := .c (.v (.int _ _))) rfl rfl ⟨fun h => h, trivial⟩ rfl) ?_
    refine OkOps.q (triQG (x := .c (.v (.bool _))) rfl rfl ⟨fun h => h, trivial⟩ rfl) ?_
    refine OkOps.q (triOr rfl rfl (fun h => by rw [h]; rfl) rfl) ?_
    refine OkOps.nil ?_
    refine Ok.cond rfl (fun h2 => ?_) (fun h2 => ?_)
    · refine Ok.seq ?_
      refine Ok.region ?_
      refine OkOps.q (triQ (x := .agg [.v (.int _ _), .v (.int _ _), .v (.int _ _), .v (.int _ _)]) rfl trivial rfl) ?_
      refine OkOps.w (triStore (cs' := [.v (.int _ _), .v (.int _ _), .v (.int _ _), .v (.int _ _)]) rfl rfl rfl rfl rfl rfl rfl rfl rfl) ?_
      refine OkOps.nil ?_
      refine Ok.ret ?_
      exact ⟨_, rfl, by show _ = ofR _; rw [shrR, selQ_f (show offR (l, t, r, b) = false from h1), selQ_t (show (decide (shrW (x, y, u, v) (l, t, r, b) ≤ 0) || decide (shrH (x, y, u, v) (l, t, r, b) ≤ 0)) = true from h2)]; rfl⟩
    · refine Ok.skip ?_
      refine Ok.seq ?_
      refine Ok.region ?_
      refine OkOps.q (triQ (x := .agg [.v (.int _ _), .v (.int _ _), .v (.int _ _), .v (.int _ _)]) rfl trivial rfl) ?_
      refine OkOps.w (triStore (cs' := [.v (.int _ _), .v (.int _ _), .v (.int _ _), .v (.int _ _)]) rfl rfl rfl rfl rfl rfl rfl rfl rfl) ?_
      refine OkOps.nil ?_
      refine Ok.ret ?_
      exact ⟨_, rfl, by show _ = ofR _; rw [shrR, selQ_f (show offR (l, t, r, b) = false from h1), selQ_f (show (decide (shrW (x, y, u, v) (l, t, r, b) ≤ 0) || decide (shrH (x, y, u, v) (l, t, r, b) ≤ 0)) = false from h2)]; rfl⟩
theorem entry22 : Entry Try.prog 22 := ⟨_, Try.func22, by kernel_rfl, by kernel_rfl⟩
theorem Shift_p (x y u v dx dy : Int) : Pure Try.prog 23 [.agg #[.int .i64 x, .int .i64 y, .int .i64 u, .int .i64 v], .int .i64 dx, .int .i64 dy] (.agg #[.int .i64 (shiftP (x, y, u, v) dx dy).1, .int .i64 (shiftP (x, y, u, v) dx dy).2.1, .int .i64 (shiftP (x, y, u, v) dx dy).2.2.1, .int .i64 (shiftP (x, y, u, v) dx dy).2.2.2]) := by
  refine Pure.of_ok 30 [.cell 6 23] [(0, .s (.agg [.v (.int .i64 x), .v (.int .i64 y), .v (.int .i64 u), .v (.int .i64 v)])), (1, .s (.c (.v (.int .i64 dx)))), (2, .s (.c (.v (.int .i64 dy))))] Try.func23 rfl rfl rfl rfl rfl fun w => ?_
  refine Ok.seq ?_
  refine Ok.region ?_
  refine OkOps.m 1 (triBox (j := 0) (cs := [.v (.int _ _), .v (.int _ _), .v (.int _ _), .v (.int _ _)]) rfl rfl rfl rfl rfl) ?_
  refine OkOps.m 2 (triAlloc (j := 1) (cs := [.v (.int _ _), .v (.int _ _), .v (.int _ _), .v (.int _ _)]) rfl rfl rfl rfl) ?_
  refine OkOps.nil ?_
  refine Ok.seq ?_
  refine Ok.region ?_
  refine OkOps.q (triQ (x := .agg [.v (.int _ _), .v (.int _ _), .v (.int _ _), .v (.int _ _)]) rfl trivial rfl) ?_
  refine OkOps.q (triCallP (x := .s (.agg [.v (.int _ _), .v (.int _ _), .v (.int _ _), .v (.int _ _)])) rfl trivial entry34 (valid_p _ _ _ _) rfl rfl) ?_
  refine OkOps.w (triStore (cs' := [.v (.int _ _), .v (.int _ _), .v (.int _ _), .v (.int _ _)]) rfl rfl rfl rfl rfl rfl rfl rfl rfl) ?_
  refine OkOps.nil ?_
  refine Ok.seq ?_
  refine Ok.seq ?_
  refine Ok.region ?_
  refine OkOps.q (triQ (x := .c (.v (.int _ _))) rfl trivial rfl) ?_
  refine OkOps.q (triCallP (x := .s (.c (.v (.bool _)))) rfl trivial entry35 (within_p _ _) rfl rfl) ?_
  refine OkOps.q (triQ (x := .c (.v (.bool _))) rfl trivial rfl) ?_
  refine OkOps.q (triQ (x := .c (.v (.bool _))) rfl trivial rfl) ?_
  refine OkOps.q (triQG (x := .c (.v (.int _ _))) rfl rfl trivial rfl) ?_
  refine OkOps.q (triCallPG (x := .c (.v (.bool _))) rfl rfl ⟨fun h => h, trivial⟩ entry35 (fun _ => within_p _ _) rfl rfl) ?_
  refine OkOps.q (triQG (x := .c (.v (.bool _))) rfl rfl ⟨fun h => h, trivial⟩ rfl) ?_
  refine OkOps.q (triOr rfl rfl (fun h => by rw [h]; rfl) rfl) ?_
  refine OkOps.nil ?_
  refine Ok.cond rfl (fun h1 => ?_) (fun h1 => ?_)
  · refine Ok.seq ?_
    refine Ok.region ?_
    refine OkOps.q (triQ (x := .agg [.v (.int _ _), .v (.int _ _), .v (.int _ _), .v (.int _ _)]) rfl trivial rfl) ?_
    refine OkOps.w (triStore (cs' := [.v (.int _ _), .v (.int _ _), .v (.int _ _), .v (.int _ _)]) rfl rfl rfl rfl rfl rfl rfl rfl rfl) ?_
    refine OkOps.nil ?_
    refine Ok.ret ?_
    exact ⟨_, rfl, by show _ = ofR _; rw [shiftP, selQ_t h1]; rfl⟩
  · refine Ok.skip ?_
    refine Ok.seq ?_
    refine Ok.region ?_
    refine OkOps.q (triQ (x := .c (.loc 0 0)) rfl trivial rfl) ?_
    refine OkOps.q (triQ (x := .c (.v (.int _ _))) rfl trivial rfl) ?_
    refine OkOps.q (triQ (x := .c (.v (.int _ _))) rfl trivial rfl) ?_
    refine OkOps.q (triQ (x := .c (.v (.int _ _))) rfl trivial rfl) ?_
    refine OkOps.q (triQ (x := .c (.loc 0 1)) rfl trivial rfl) ?_
    refine OkOps.q (triQ (x := .c (.v (.int _ _))) rfl trivial rfl) ?_
    refine OkOps.q (triQ (x := .c (.v (.int _ _))) rfl trivial rfl) ?_
    refine OkOps.q (triQ (x := .c (.v (.int _ _))) rfl trivial rfl) ?_
    refine OkOps.q (triQ (x := .c (.loc 0 0)) rfl trivial rfl) ?_
    refine OkOps.w (triStore (cs' := [.v (.int _ _), .v (.int _ _), .v (.int _ _), .v (.int _ _)]) rfl rfl rfl rfl rfl rfl rfl rfl rfl) ?_
    refine OkOps.q (triQ (x := .c (.loc 0 1)) rfl trivial rfl) ?_
    refine OkOps.w (triStore (cs' := [.v (.int _ _), .v (.int _ _), .v (.int _ _), .v (.int _ _)]) rfl rfl rfl rfl rfl rfl rfl rfl rfl) ?_
    refine OkOps.nil ?_
    refine Ok.seq ?_
    refine Ok.region ?_
    refine OkOps.q (triQ (x := .agg [.v (.int _ _), .v (.int _ _), .v (.int _ _), .v (.int _ _)]) rfl trivial rfl) ?_
    refine OkOps.q (triCallP (x := .s (.agg [.v (.int _ _), .v (.int _ _), .v (.int _ _), .v (.int _ _)])) rfl trivial entry34 (valid_p _ _ _ _) rfl rfl) ?_
    refine OkOps.w (triStore (cs' := [.v (.int _ _), .v (.int _ _), .v (.int _ _), .v (.int _ _)]) rfl rfl rfl rfl rfl rfl rfl rfl rfl) ?_
    refine OkOps.nil ?_
    refine Ok.ret ?_
    exact ⟨_, rfl, by show _ = ofR _; rw [shiftP, selQ_f h1]; rfl⟩
theorem entry23 : Entry Try.prog 23 := ⟨_, Try.func23, by kernel_rfl, by kernel_rfl⟩
theorem rShift_p (x y u v dx dy : Int) : Pure Try.prog 24 [.agg #[.int .i64 x, .int .i64 y, .int .i64 u, .int .i64 v], .int .i64 dx, .int .i64 dy] (.agg #[.int .i64 (shiftR (x, y, u, v) dx dy).1, .int .i64 (shiftR (x, y, u, v) dx dy).2.1, .int .i64 (shiftR (x, y, u, v) dx dy).2.2.1, .int .i64 (shiftR (x, y, u, v) dx dy).2.2.2]) := by
  refine Pure.of_ok 32 [.cell 6 23] [(0, .s (.agg [.v (.int .i64 x), .v (.int .i64 y), .v (.int .i64 u), .v (.int .i64 v)])), (1, .s (.c (.v (.int .i64 dx)))), (2, .s (.c (.v (.int .i64 dy))))] Try.func24 rfl rfl rfl rfl rfl fun w => ?_
  refine Ok.seq ?_
  refine Ok.region ?_
  refine OkOps.m 1 (triBox (j := 0) (cs := [.v (.int _ _), .v (.int _ _), .v (.int _ _), .v (.int _ _)]) rfl rfl rfl rfl rfl) ?_
  refine OkOps.m 2 (triAlloc (j := 1) (cs := [.v (.int _ _), .v (.int _ _), .v (.int _ _), .v (.int _ _)]) rfl rfl rfl rfl) ?_
  refine OkOps.nil ?_
  refine Ok.seq ?_
  refine Ok.region ?_
  refine OkOps.q (triQ (x := .agg [.v (.int _ _), .v (.int _ _), .v (.int _ _), .v (.int _ _)]) rfl trivial rfl) ?_
  refine OkOps.q (triCallP (x := .s (.agg [.v (.int _ _), .v (.int _ _), .v (.int _ _), .v (.int _ _)])) rfl trivial entry43 (rvalid_p _ _ _ _) rfl rfl) ?_
  refine OkOps.w (triStore (cs' := [.v (.int _ _), .v (.int _ _), .v (.int _ _), .v (.int _ _)]) rfl rfl rfl rfl rfl rfl rfl rfl rfl) ?_
  refine OkOps.nil ?_
  refine Ok.seq ?_
  refine Ok.seq ?_
  refine Ok.region ?_
  refine OkOps.q (triQ (x := .c (.v (.int _ _))) rfl trivial rfl) ?_
  refine OkOps.q (triCallP (x := .s (.c (.v (.bool _)))) rfl trivial entry39 (rwithin_p _ _) rfl rfl) ?_
  refine OkOps.q (triQ (x := .c (.v (.bool _))) rfl trivial rfl) ?_
  refine OkOps.q (triQ (x := .c (.v (.bool _))) rfl trivial rfl) ?_
  refine OkOps.q (triQG (x := .c (.v (.int _ _))) rfl rfl trivial rfl) ?_
  refine OkOps.q (triCallPG (x := .c (.v (.bool _))) rfl rfl ⟨fun h => h, trivial⟩ entry39 (fun _ => rwithin_p _ _) rfl rfl) ?_
  refine OkOps.q (triQG (x := .c (.v (.bool _))) rfl rfl ⟨fun h => h, trivial⟩ rfl) ?_
  refine OkOps.q (triOr rfl rfl (fun h => by rw [h]; rfl) rfl) ?_
  refine OkOps.nil ?_
  refine Ok.cond rfl (fun h1 => ?_) (fun h1 => ?_)
  · refine Ok.seq ?_
    refine Ok.region ?_
    refine OkOps.q (triQ (x := .agg [.v (.int _ _), .v (.int _ _), .v (.int _ _), .v (.int _ _)]) rfl trivial rfl) ?_
    refine OkOps.w (triStore (cs' := [.v (.int _ _), .v (.int _ _), .v (.int _ _), .v (.int _ _)]) rfl rfl rfl rfl rfl rfl rfl rfl rfl) ?_
    refine OkOps.nil ?_
    refine Ok.ret ?_
    exact ⟨_, rfl, by show _ = ofR _; rw [shiftR, selQ_t h1]; rfl⟩
  · refine Ok.skip ?_
    refine Ok.seq ?_
    refine Ok.region ?_
    refine OkOps.q (triQ (x := .c (.loc 0 0)) rfl trivial rfl) ?_
    refine OkOps.q (triQ (x := .c (.v (.int _ _))) rfl trivial rfl) ?_
    refine OkOps.q (triQ (x := .c (.v (.int _ _))) rfl trivial rfl) ?_
    refine OkOps.q (triQ (x := .c (.v (.int _ _))) rfl trivial rfl) ?_
    refine OkOps.q (triQ (x := .c (.loc 0 1)) rfl trivial rfl) ?_
    refine OkOps.q (triQ (x := .c (.v (.int _ _))) rfl trivial rfl) ?_
    refine OkOps.q (triQ (x := .c (.v (.int _ _))) rfl trivial rfl) ?_
    refine OkOps.q (triQ (x := .c (.v (.int _ _))) rfl trivial rfl) ?_
    refine OkOps.q (triQ (x := .c (.loc 0 2)) rfl trivial rfl) ?_
    refine OkOps.q (triQ (x := .c (.v (.int _ _))) rfl trivial rfl) ?_
    refine OkOps.q (triQ (x := .c (.loc 0 3)) rfl trivial rfl) ?_
    refine OkOps.q (triQ (x := .c (.v (.int _ _))) rfl trivial rfl) ?_
    refine OkOps.q (triQ (x := .agg [.v (.int _ _), .v (.int _ _), .v (.int _ _), .v (.int _ _)]) rfl trivial rfl) ?_
    refine OkOps.q (triCallP (x := .s (.agg [.v (.int _ _), .v (.int _ _), .v (.int _ _), .v (.int _ _)])) rfl trivial entry43 (rvalid_p _ _ _ _) rfl rfl) ?_
    refine OkOps.w (triStore (cs' := [.v (.int _ _), .v (.int _ _), .v (.int _ _), .v (.int _ _)]) rfl rfl rfl rfl rfl rfl rfl rfl rfl) ?_
    refine OkOps.nil ?_
    refine Ok.ret ?_
    exact ⟨_, rfl, by show _ = ofR _; rw [shiftR, selQ_f h1]; rfl⟩
theorem entry24 : Entry Try.prog 24 := ⟨_, Try.func24, by kernel_rfl, by kernel_rfl⟩
end Go.Proofs.Ytilglbkpapbkpaa

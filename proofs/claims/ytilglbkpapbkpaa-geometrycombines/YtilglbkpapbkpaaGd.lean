import Derived.Test.YtilglbkpapbkpaaGc
import Derived.Test.YtilglbkpapbkpaaEvg
namespace Go.Proofs.Ytilglbkpapbkpaa
open Go.Ev
set_option maxRecDepth 4000
theorem eqok23 : EqOk Try.prog 23 := ⟨by kernel_rfl, by kernel_rfl, by kernel_rfl, by kernel_rfl⟩
theorem eqok25 : EqOk Try.prog 25 := ⟨by kernel_rfl, by kernel_rfl, by kernel_rfl, by kernel_rfl⟩
theorem eqok31 : EqOk Try.prog 31 := ⟨by kernel_rfl, by kernel_rfl, by kernel_rfl, by kernel_rfl⟩
theorem bv {b : Bool} (h : b = true) : AV.s (A1.c (Cell.v (Value.bool b))) = ofR (.bool true) := by rw [h]; rfl
abbrev Tr := Int × Bool × Int × Int × Int
def linX (a : Tr) (p q : Int) : Int := wr ((rotL a.1.toNat (sel a.2.1 (wr (0 - p)) p) q).1 * a.2.2.1)
def linY (a : Tr) (p q : Int) : Int := wr ((rotL a.1.toNat (sel a.2.1 (wr (0 - p)) p) q).2 * a.2.2.1)
def bT (a : Tr) : Bool := badT a.1 a.2.2.1 a.2.2.2.1 a.2.2.2.2
def oT (a : Tr) : Bool := okT a.1 a.2.2.1 a.2.2.2.1 a.2.2.2.2
def cand (a b : Tr) : Tr := ((sel a.2.1 (wr (wr (a.1 + 4) - b.1)) (wr (a.1 + b.1))).tmod 4, !(a.2.1 == b.2.1), wr (a.2.2.1 * b.2.2.1), wr (linX a b.2.2.2.1 b.2.2.2.2 + a.2.2.2.1), wr (linY a b.2.2.2.1 b.2.2.2.2 + a.2.2.2.2))
def candR (a b : Tr) : Tr := (sel a.2.1 ((wr (wr (a.1 + 4) - b.1)).tmod 4) ((wr (a.1 + b.1)).tmod 4), !(a.2.1 == b.2.1), wr (a.2.2.1 * b.2.2.1), wr (linX a b.2.2.2.1 b.2.2.2.2 + a.2.2.2.1), wr (linY a b.2.2.2.1 b.2.2.2.2 + a.2.2.2.2))
def combP (a b : Tr) : Tr × Int := if (sel (bT a) 1 0 != 0 || sel (bT b) 1 0 != 0) = true then ((0, false, 0, 0, 0), 1) else if (sel (bT (cand a b)) 1 0 != 0) = true then ((0, false, 0, 0, 0), 1) else (cand a b, 0)
def combR (a b : Tr) : Tr × Int := if (!oT a || !oT b) = true then ((0, false, 0, 0, 0), 1) else if (!oT (candR a b)) = true then ((0, false, 0, 0, 0), 1) else (candR a b, 0)
section
variable {a b : Tr}
theorem combP1 (h : (sel (bT a) 1 0 != 0 || sel (bT b) 1 0 != 0) = true) : combP a b = ((0, false, 0, 0, 0), 1) := if_pos h
theorem combP2 (h : (sel (bT a) 1 0 != 0 || sel (bT b) 1 0 != 0) = false) (h2 : (sel (bT (cand a b)) 1 0 != 0) = true) : combP a b = ((0, false, 0, 0, 0), 1) := by rw [combP, if_neg (by rw [h]; simp), if_pos h2]
theorem combP3 (h : (sel (bT a) 1 0 != 0 || sel (bT b) 1 0 != 0) = false) (h2 : (sel (bT (cand a b)) 1 0 != 0) = false) : combP a b = (cand a b, 0) := by rw [combP, if_neg (by rw [h]; simp), if_neg (by rw [h2]; simp)]
theorem combR1 (h : (!oT a || !oT b) = true) : combR a b = ((0, false, 0, 0, 0), 1) := if_pos h
theorem combR2 (h : (!oT a || !oT b) = false) (h2 : (!oT (candR a b)) = true) : combR a b = ((0, false, 0, 0, 0), 1) := by rw [combR, if_neg (by rw [h]; simp), if_pos h2]
theorem combR3 (h : (!oT a || !oT b) = false) (h2 : (!oT (candR a b)) = false) : combR a b = (candR a b, 0) := by rw [combR, if_neg (by rw [h]; simp), if_neg (by rw [h2]; simp)]
end
def appR (t : Int) (m : Bool) (s dx dy : Int) (r : Quad) : Quad := selQ (!okT t s dx dy || !okR r.1 r.2.1 r.2.2.1 r.2.2.2) (0, 0, 0, 0)
  (mnI (wr (linX (t, m, s, dx, dy) r.1 r.2.1 + dx)) (wr (linX (t, m, s, dx, dy) (wr (r.1 + r.2.2.1)) (wr (r.2.1 + r.2.2.2)) + dx)), mnI (wr (linY (t, m, s, dx, dy) r.1 r.2.1 + dy)) (wr (linY (t, m, s, dx, dy) (wr (r.1 + r.2.2.1)) (wr (r.2.1 + r.2.2.2)) + dy)),
   wr (mxI (wr (linX (t, m, s, dx, dy) r.1 r.2.1 + dx)) (wr (linX (t, m, s, dx, dy) (wr (r.1 + r.2.2.1)) (wr (r.2.1 + r.2.2.2)) + dx)) - mnI (wr (linX (t, m, s, dx, dy) r.1 r.2.1 + dx)) (wr (linX (t, m, s, dx, dy) (wr (r.1 + r.2.2.1)) (wr (r.2.1 + r.2.2.2)) + dx))),
   wr (mxI (wr (linY (t, m, s, dx, dy) r.1 r.2.1 + dy)) (wr (linY (t, m, s, dx, dy) (wr (r.1 + r.2.2.1)) (wr (r.2.1 + r.2.2.2)) + dy)) - mnI (wr (linY (t, m, s, dx, dy) r.1 r.2.1 + dy)) (wr (linY (t, m, s, dx, dy) (wr (r.1 + r.2.2.1)) (wr (r.2.1 + r.2.2.2)) + dy))))
def andI (x k : Int) : Int := wr ((BitVec.ofInt 64 x &&& BitVec.ofInt 64 k).toNat : Int)
def smallT (turn scale dx dy : Int) (m : Bool) : Tr := (andI turn 3, m, wr (1 + andI scale 3), dx.tmod 1000, dy.tmod 1000)
theorem Combine_p (t1 : Int) (m1 : Bool) (s1 x1 y1 t2 : Int) (m2 : Bool) (s2 x2 y2 : Int) : Pure Try.prog 15 [.agg #[.int .i64 t1, .bool m1, .int .i64 s1, .int .i64 x1, .int .i64 y1], .agg #[.int .i64 t2, .bool m2, .int .i64 s2, .int .i64 x2, .int .i64 y2]] (.tuple #[.agg #[.int .i64 ((combP (t1, m1, s1, x1, y1) (t2, m2, s2, x2, y2)).1).1, .bool ((combP (t1, m1, s1, x1, y1) (t2, m2, s2, x2, y2)).1).2.1, .int .i64 ((combP (t1, m1, s1, x1, y1) (t2, m2, s2, x2, y2)).1).2.2.1, .int .i64 ((combP (t1, m1, s1, x1, y1) (t2, m2, s2, x2, y2)).1).2.2.2.1, .int .i64 ((combP (t1, m1, s1, x1, y1) (t2, m2, s2, x2, y2)).1).2.2.2.2], .int .i64 (combP (t1, m1, s1, x1, y1) (t2, m2, s2, x2, y2)).2]) := by
  refine Pure.of_ok 66 [.cell 4 25, .tmp 5] [(0, .s (.agg [.v (.int .i64 t1), .v (.bool m1), .v (.int .i64 s1), .v (.int .i64 x1), .v (.int .i64 y1)])), (1, .s (.agg [.v (.int .i64 t2), .v (.bool m2), .v (.int .i64 s2), .v (.int .i64 x2), .v (.int .i64 y2)]))] Try.func15 rfl rfl rfl rfl rfl fun w => ?_
  refine Ok.seq ?_
  refine Ok.region ?_
  refine OkOps.m 1 (triBox (j := 0) (cs := [.v (.int _ _), .v (.bool _), .v (.int _ _), .v (.int _ _), .v (.int _ _)]) rfl rfl rfl rfl rfl) ?_
  refine OkOps.m 2 (triBox (j := 1) (cs := [.v (.int _ _), .v (.bool _), .v (.int _ _), .v (.int _ _), .v (.int _ _)]) rfl rfl rfl rfl rfl) ?_
  refine OkOps.m 3 (triAlloc (j := 2) (cs := [.v (.int _ _), .v (.bool _), .v (.int _ _), .v (.int _ _), .v (.int _ _)]) rfl rfl rfl rfl) ?_
  refine OkOps.q (triQ (x := .c (.v (.int _ _))) rfl trivial rfl) ?_
  refine OkOps.nil ?_
  refine Ok.seq ?_
  refine Ok.seq ?_
  refine Ok.region ?_
  refine OkOps.q (triQ (x := .agg [.v (.int _ _), .v (.bool _), .v (.int _ _), .v (.int _ _), .v (.int _ _)]) rfl trivial rfl) ?_
  refine OkOps.q (triCallP (x := .s (.c (.v (.int _ _)))) rfl trivial entry17 (Check_p _ _ _ _ _) rfl rfl) ?_
  refine OkOps.q (triQ (x := .c (.v (.bool _))) rfl trivial rfl) ?_
  refine OkOps.q (triQ (x := .c (.v (.bool _))) rfl trivial rfl) ?_
  refine OkOps.q (triQG (x := .agg [.v (.int _ _), .v (.bool _), .v (.int _ _), .v (.int _ _), .v (.int _ _)]) rfl rfl trivial rfl) ?_
  refine OkOps.q (triCallPG (x := .c (.v (.int _ _))) rfl rfl ⟨fun h => h, trivial⟩ entry17 (fun _ => Check_p _ _ _ _ _) rfl rfl) ?_
  refine OkOps.q (triQG (x := .c (.v (.bool _))) rfl rfl ⟨fun h => h, trivial⟩ rfl) ?_
  refine OkOps.q (triOr rfl rfl (fun h => by rw [h]; rfl) rfl) ?_
  refine OkOps.nil ?_
  refine Ok.cond rfl (fun h1 => ?_) (fun h1 => ?_)
  · refine Ok.seq ?_
    refine Ok.region ?_
    refine OkOps.q (triQ (x := .agg [.v (.int _ _), .v (.bool _), .v (.int _ _), .v (.int _ _), .v (.int _ _)]) rfl trivial rfl) ?_
    refine OkOps.w (triStore (cs' := [.v (.int _ _), .v (.bool _), .v (.int _ _), .v (.int _ _), .v (.int _ _)]) rfl rfl rfl rfl rfl rfl rfl rfl rfl) ?_
    refine OkOps.q (triQ (x := .c (.v (.int _ _))) rfl trivial rfl) ?_
    refine OkOps.nil ?_
    refine Ok.ret ?_
    exact ⟨_, rfl, by show _ = ofR _; rw [combP1 (a := (t1, m1, s1, x1, y1)) (b := (t2, m2, s2, x2, y2)) h1]; rfl⟩
  · have hb := badT_f (notBadT h1)
    refine Ok.skip ?_
    refine Ok.seq ?_
    refine Ok.region ?_
    refine OkOps.q (triQ (x := .c (.loc 0 0)) rfl trivial rfl) ?_
    refine OkOps.q (triQ (x := .c (.v (.int _ _))) rfl trivial rfl) ?_
    refine OkOps.q (triQ (x := .c (.loc 1 0)) rfl trivial rfl) ?_
    refine OkOps.q (triQ (x := .c (.v (.int _ _))) rfl trivial rfl) ?_
    refine OkOps.q (triQ (x := .c (.v (.int _ _))) rfl trivial rfl) ?_
    refine OkOps.q (triQ (x := .c (.v (.int _ _))) rfl trivial rfl) ?_
    refine OkOps.nil ?_
    refine Ok.seq ?_
    refine Ok.seq ?_
    refine Ok.region ?_
    refine OkOps.q (triQ (x := .c (.loc 0 1)) rfl trivial rfl) ?_
    refine OkOps.q (triQ (x := .c (.v (.bool _))) rfl trivial rfl) ?_
    refine OkOps.nil ?_
    refine Ok.join [2, 3, 4, 5] [0, 1, 2] [(6, .s (.c (.v (.int .i64 (sel m1 (wr (wr (t1 + 4) - t2)) (wr (t1 + t2)))))))] [] 3 rfl (fun h2 => ?_) (fun h2 => ?_) ?_
    · refine Ok.region ?_
      refine OkOps.q (triQ (x := .c (.loc 0 0)) rfl trivial rfl) ?_
      refine OkOps.q (triQ (x := .c (.v (.int _ _))) rfl trivial rfl) ?_
      refine OkOps.q (triQ (x := .c (.v (.int _ _))) rfl trivial rfl) ?_
      refine OkOps.q (triQ (x := .c (.loc 1 0)) rfl trivial rfl) ?_
      refine OkOps.q (triQ (x := .c (.v (.int _ _))) rfl trivial rfl) ?_
      refine OkOps.q (triQ (x := .c (.v (.int _ _))) rfl trivial rfl) ?_
      refine OkOps.q (triQ (x := .c (.v (.int _ _))) rfl trivial rfl) ?_
      refine OkOps.nil ?_
      exact Less.mk' ⟨(by rw [sel_t h2]; rfl), rfl, rfl, rfl, rfl, trivial⟩ ⟨rfl, rfl, rfl, trivial⟩ rfl
    · refine Ok.skip ?_
      exact Less.mk' ⟨(by rw [sel_f h2]; rfl), rfl, rfl, rfl, rfl, trivial⟩ ⟨rfl, rfl, rfl, trivial⟩ rfl
    show Ok _ _ _ _ ⟨[(6, .s (.c (.v (.int .i64 (sel m1 (wr (wr (t1 + 4) - t2)) (wr (t1 + t2))))))), (2, .s (.c (.loc 0 0))), (3, .s (.c (.loc 1 0))), (4, .s (.c (.loc 2 0))), (5, .s (.c (.v (.int _ _))))], [(0, .blk [.v (.int _ _), .v (.bool _), .v (.int _ _), .v (.int _ _), .v (.int _ _)] _), (1, .blk [.v (.int _ _), .v (.bool _), .v (.int _ _), .v (.int _ _), .v (.int _ _)] _), (2, .blk [.v (.int _ _), .v (.bool _), .v (.int _ _), .v (.int _ _), .v (.int _ _)] _)], 3⟩
    refine Ok.seq ?_
    refine Ok.region ?_
    refine OkOps.q (triQ (x := .agg [.v (.int _ _), .v (.bool _), .v (.int _ _), .v (.int _ _), .v (.int _ _)]) rfl trivial rfl) ?_
    refine OkOps.q (triQ (x := .c (.loc 1 3)) rfl trivial rfl) ?_
    refine OkOps.q (triQ (x := .c (.v (.int _ _))) rfl trivial rfl) ?_
    refine OkOps.q (triQ (x := .c (.loc 1 4)) rfl trivial rfl) ?_
    refine OkOps.q (triQ (x := .c (.v (.int _ _))) rfl trivial rfl) ?_
    refine OkOps.q (triQ (x := .agg [.v (.int _ _), .v (.int _ _)]) rfl trivial rfl) ?_
    refine OkOps.q (triCallP (x := .s (.agg [.v (.int _ _), .v (.int _ _)])) rfl trivial entry37 (linear_p _ _ _ _ _ _ _ (by omega)) rfl rfl) ?_
    refine OkOps.m 4 (triAlloc (j := 3) (cs := [.v (.int _ _), .v (.int _ _)]) rfl rfl rfl rfl) ?_
    refine OkOps.w (triStore (cs' := [.v (.int _ _), .v (.int _ _)]) rfl rfl rfl rfl rfl rfl rfl rfl rfl) ?_
    refine OkOps.nil ?_
    refine Ok.seq ?_
    refine Ok.region ?_
    refine OkOps.q (triQ (x := .c (.v (.int _ _))) rfl trivial rfl) ?_
    refine OkOps.q (triQ (x := .c (.v (.int _ _))) rfl trivial rfl) ?_
    refine OkOps.q (triQ (x := .c (.loc 0 1)) rfl trivial rfl) ?_
    refine OkOps.q (triQ (x := .c (.v (.bool _))) rfl trivial rfl) ?_
    refine OkOps.q (triQ (x := .c (.loc 1 1)) rfl trivial rfl) ?_
    refine OkOps.q (triQ (x := .c (.v (.bool _))) rfl trivial rfl) ?_
    refine OkOps.q (triQ (x := .c (.v (.bool _))) rfl trivial rfl) ?_
    refine OkOps.q (triQ (x := .c (.loc 0 2)) rfl trivial rfl) ?_
    refine OkOps.q (triQ (x := .c (.v (.int _ _))) rfl trivial rfl) ?_
    refine OkOps.q (triQ (x := .c (.loc 1 2)) rfl trivial rfl) ?_
    refine OkOps.q (triQ (x := .c (.v (.int _ _))) rfl trivial rfl) ?_
    refine OkOps.q (triQ (x := .c (.v (.int _ _))) rfl trivial rfl) ?_
    refine OkOps.q (triQ (x := .c (.loc 3 0)) rfl trivial rfl) ?_
    refine OkOps.q (triQ (x := .c (.v (.int _ _))) rfl trivial rfl) ?_
    refine OkOps.q (triQ (x := .c (.loc 0 3)) rfl trivial rfl) ?_
    refine OkOps.q (triQ (x := .c (.v (.int _ _))) rfl trivial rfl) ?_
    refine OkOps.q (triQ (x := .c (.v (.int _ _))) rfl trivial rfl) ?_
    refine OkOps.q (triQ (x := .c (.loc 3 1)) rfl trivial rfl) ?_
    refine OkOps.q (triQ (x := .c (.v (.int _ _))) rfl trivial rfl) ?_
    refine OkOps.q (triQ (x := .c (.loc 0 4)) rfl trivial rfl) ?_
    refine OkOps.q (triQ (x := .c (.v (.int _ _))) rfl trivial rfl) ?_
    refine OkOps.q (triQ (x := .c (.v (.int _ _))) rfl trivial rfl) ?_
    refine OkOps.q (triQ (x := .agg [.v (.int _ _), .v (.bool _), .v (.int _ _), .v (.int _ _), .v (.int _ _)]) rfl trivial rfl) ?_
    refine OkOps.m 5 (triAlloc (j := 4) (cs := [.v (.int _ _), .v (.bool _), .v (.int _ _), .v (.int _ _), .v (.int _ _)]) rfl rfl rfl rfl) ?_
    refine OkOps.w (triStore (cs' := [.v (.int _ _), .v (.bool _), .v (.int _ _), .v (.int _ _), .v (.int _ _)]) rfl rfl rfl rfl rfl rfl rfl rfl rfl) ?_
    refine OkOps.nil ?_
    refine Ok.seq ?_
    refine Ok.seq ?_
    refine Ok.region ?_
    refine OkOps.q (triQ (x := .agg [.v (.int _ _), .v (.bool _), .v (.int _ _), .v (.int _ _), .v (.int _ _)]) rfl trivial rfl) ?_
    refine OkOps.q (triCallP (x := .s (.c (.v (.int _ _)))) rfl trivial entry17 (Check_p _ _ _ _ _) rfl rfl) ?_
    refine OkOps.q (triQ (x := .c (.v (.bool _))) rfl trivial rfl) ?_
    refine OkOps.nil ?_
    refine Ok.cond rfl (fun h3 => ?_) (fun h3 => ?_)
    · refine Ok.seq ?_
      refine Ok.region ?_
      refine OkOps.q (triQ (x := .agg [.v (.int _ _), .v (.bool _), .v (.int _ _), .v (.int _ _), .v (.int _ _)]) rfl trivial rfl) ?_
      refine OkOps.w (triStore (cs' := [.v (.int _ _), .v (.bool _), .v (.int _ _), .v (.int _ _), .v (.int _ _)]) rfl rfl rfl rfl rfl rfl rfl rfl rfl) ?_
      refine OkOps.q (triQ (x := .c (.v (.int _ _))) rfl trivial rfl) ?_
      refine OkOps.nil ?_
      refine Ok.ret ?_
      exact ⟨_, rfl, by show _ = ofR _; rw [combP2 (a := (t1, m1, s1, x1, y1)) (b := (t2, m2, s2, x2, y2)) h1 h3]; rfl⟩
    · refine Ok.skip ?_
      refine Ok.seq ?_
      refine Ok.region ?_
      refine OkOps.q (triQ (x := .agg [.v (.int _ _), .v (.bool _), .v (.int _ _), .v (.int _ _), .v (.int _ _)]) rfl trivial rfl) ?_
      refine OkOps.w (triStore (cs' := [.v (.int _ _), .v (.bool _), .v (.int _ _), .v (.int _ _), .v (.int _ _)]) rfl rfl rfl rfl rfl rfl rfl rfl rfl) ?_
      refine OkOps.q (triQ (x := .c (.v (.int _ _))) rfl trivial rfl) ?_
      refine OkOps.nil ?_
      refine Ok.ret ?_
      exact ⟨_, rfl, by show _ = ofR _; rw [combP3 (a := (t1, m1, s1, x1, y1)) (b := (t2, m2, s2, x2, y2)) h1 h3]; rfl⟩
theorem entry15 : Entry Try.prog 15 := ⟨_, Try.func15, by kernel_rfl, by kernel_rfl⟩
theorem rCombine_p (t1 : Int) (m1 : Bool) (s1 x1 y1 t2 : Int) (m2 : Bool) (s2 x2 y2 : Int) : Pure Try.prog 16 [.agg #[.int .i64 t1, .bool m1, .int .i64 s1, .int .i64 x1, .int .i64 y1], .agg #[.int .i64 t2, .bool m2, .int .i64 s2, .int .i64 x2, .int .i64 y2]] (.tuple #[.agg #[.int .i64 ((combR (t1, m1, s1, x1, y1) (t2, m2, s2, x2, y2)).1).1, .bool ((combR (t1, m1, s1, x1, y1) (t2, m2, s2, x2, y2)).1).2.1, .int .i64 ((combR (t1, m1, s1, x1, y1) (t2, m2, s2, x2, y2)).1).2.2.1, .int .i64 ((combR (t1, m1, s1, x1, y1) (t2, m2, s2, x2, y2)).1).2.2.2.1, .int .i64 ((combR (t1, m1, s1, x1, y1) (t2, m2, s2, x2, y2)).1).2.2.2.2], .int .i64 (combR (t1, m1, s1, x1, y1) (t2, m2, s2, x2, y2)).2]) := by
  refine Pure.of_ok 60 [.cell 4 25, .tmp 5] [(0, .s (.agg [.v (.int .i64 t1), .v (.bool m1), .v (.int .i64 s1), .v (.int .i64 x1), .v (.int .i64 y1)])), (1, .s (.agg [.v (.int .i64 t2), .v (.bool m2), .v (.int .i64 s2), .v (.int .i64 x2), .v (.int .i64 y2)]))] Try.func16 rfl rfl rfl rfl rfl fun w => ?_
  refine Ok.seq ?_
  refine Ok.region ?_
  refine OkOps.m 1 (triBox (j := 0) (cs := [.v (.int _ _), .v (.bool _), .v (.int _ _), .v (.int _ _), .v (.int _ _)]) rfl rfl rfl rfl rfl) ?_
  refine OkOps.m 2 (triBox (j := 1) (cs := [.v (.int _ _), .v (.bool _), .v (.int _ _), .v (.int _ _), .v (.int _ _)]) rfl rfl rfl rfl rfl) ?_
  refine OkOps.m 3 (triAlloc (j := 2) (cs := [.v (.int _ _), .v (.bool _), .v (.int _ _), .v (.int _ _), .v (.int _ _)]) rfl rfl rfl rfl) ?_
  refine OkOps.q (triQ (x := .c (.v (.int _ _))) rfl trivial rfl) ?_
  refine OkOps.nil ?_
  refine Ok.seq ?_
  refine Ok.seq ?_
  refine Ok.region ?_
  refine OkOps.q (triQ (x := .agg [.v (.int _ _), .v (.bool _), .v (.int _ _), .v (.int _ _), .v (.int _ _)]) rfl trivial rfl) ?_
  refine OkOps.q (triCallP (x := .s (.c (.v (.bool _)))) rfl trivial entry18 (ValidTransform_p _ _ _ _ _) rfl rfl) ?_
  refine OkOps.q (triQ (x := .c (.v (.bool _))) rfl trivial rfl) ?_
  refine OkOps.q (triQ (x := .c (.v (.bool _))) rfl trivial rfl) ?_
  refine OkOps.q (triQG (x := .agg [.v (.int _ _), .v (.bool _), .v (.int _ _), .v (.int _ _), .v (.int _ _)]) rfl rfl trivial rfl) ?_
  refine OkOps.q (triCallPG (x := .c (.v (.bool _))) rfl rfl ⟨fun h => h, trivial⟩ entry18 (fun _ => ValidTransform_p _ _ _ _ _) rfl rfl) ?_
  refine OkOps.q (triQG (x := .c (.v (.bool _))) rfl rfl ⟨fun h => h, trivial⟩ rfl) ?_
  refine OkOps.q (triOr rfl rfl (fun h => by rw [h]; rfl) rfl) ?_
  refine OkOps.nil ?_
  refine Ok.cond rfl (fun h1 => ?_) (fun h1 => ?_)
  · refine Ok.seq ?_
    refine Ok.region ?_
    refine OkOps.q (triQ (x := .agg [.v (.int _ _), .v (.bool _), .v (.int _ _), .v (.int _ _), .v (.int _ _)]) rfl trivial rfl) ?_
    refine OkOps.w (triStore (cs' := [.v (.int _ _), .v (.bool _), .v (.int _ _), .v (.int _ _), .v (.int _ _)]) rfl rfl rfl rfl rfl rfl rfl rfl rfl) ?_
    refine OkOps.q (triQ (x := .c (.v (.int _ _))) rfl trivial rfl) ?_
    refine OkOps.nil ?_
    refine Ok.ret ?_
    exact ⟨_, rfl, by show _ = ofR _; rw [combR1 (a := (t1, m1, s1, x1, y1)) (b := (t2, m2, s2, x2, y2)) h1]; rfl⟩
  · have hb := okT_t (notOkT h1)
    refine Ok.skip ?_
    refine Ok.seq ?_
    refine Ok.region ?_
    refine OkOps.q (triQ (x := .c (.loc 0 2)) rfl trivial rfl) ?_
    refine OkOps.q (triQ (x := .c (.v (.int _ _))) rfl trivial rfl) ?_
    refine OkOps.q (triQ (x := .c (.loc 1 2)) rfl trivial rfl) ?_
    refine OkOps.q (triQ (x := .c (.v (.int _ _))) rfl trivial rfl) ?_
    refine OkOps.q (triQ (x := .c (.v (.int _ _))) rfl trivial rfl) ?_
    refine OkOps.q (triQ (x := .c (.loc 0 1)) rfl trivial rfl) ?_
    refine OkOps.q (triQ (x := .c (.v (.bool _))) rfl trivial rfl) ?_
    refine OkOps.q (triQ (x := .c (.loc 1 1)) rfl trivial rfl) ?_
    refine OkOps.q (triQ (x := .c (.v (.bool _))) rfl trivial rfl) ?_
    refine OkOps.q (triQ (x := .c (.v (.bool _))) rfl trivial rfl) ?_
    refine OkOps.q (triQ (x := .agg [.v (.int _ _), .v (.bool _), .v (.int _ _), .v (.int _ _), .v (.int _ _)]) rfl trivial rfl) ?_
    refine OkOps.m 4 (triAlloc (j := 3) (cs := [.v (.int _ _), .v (.bool _), .v (.int _ _), .v (.int _ _), .v (.int _ _)]) rfl rfl rfl rfl) ?_
    refine OkOps.w (triStore (cs' := [.v (.int _ _), .v (.bool _), .v (.int _ _), .v (.int _ _), .v (.int _ _)]) rfl rfl rfl rfl rfl rfl rfl rfl rfl) ?_
    refine OkOps.nil ?_
    refine Ok.seq ?_
    refine Ok.seq ?_
    refine Ok.region ?_
    refine OkOps.q (triQ (x := .c (.loc 0 1)) rfl trivial rfl) ?_
    refine OkOps.q (triQ (x := .c (.v (.bool _))) rfl trivial rfl) ?_
    refine OkOps.nil ?_
    refine Ok.join [2, 3, 4, 5, 6] [0, 1, 2] [] [(3, .blk [.v (.int .i64 (sel m1 ((wr (wr (t1 + 4) - t2)).tmod 4) ((wr (t1 + t2)).tmod 4))), .v (.bool (!(m1 == m2))), .v (.int .i64 (wr (s1 * s2))), .v (.int .i64 0), .v (.int .i64 0)] 25)] 4 rfl (fun h2 => ?_) (fun h2 => ?_) ?_
    · refine Ok.region ?_
      refine OkOps.q (triQ (x := .c (.loc 0 0)) rfl trivial rfl) ?_
      refine OkOps.q (triQ (x := .c (.v (.int _ _))) rfl trivial rfl) ?_
      refine OkOps.q (triQ (x := .c (.v (.int _ _))) rfl trivial rfl) ?_
      refine OkOps.q (triQ (x := .c (.loc 1 0)) rfl trivial rfl) ?_
      refine OkOps.q (triQ (x := .c (.v (.int _ _))) rfl trivial rfl) ?_
      refine OkOps.q (triQ (x := .c (.v (.int _ _))) rfl trivial rfl) ?_
      refine OkOps.q (triQ (x := .c (.v (.int _ _))) rfl trivial rfl) ?_
      refine OkOps.q (triQ (x := .c (.loc 3 0)) rfl trivial rfl) ?_
      refine OkOps.w (triStore (cs' := [.v (.int _ _), .v (.bool _), .v (.int _ _), .v (.int _ _), .v (.int _ _)]) rfl rfl rfl rfl rfl rfl rfl rfl rfl) ?_
      refine OkOps.nil ?_
      exact Less.mk' ⟨rfl, rfl, rfl, rfl, rfl, trivial⟩ ⟨(by rw [sel_t h2]; rfl), rfl, rfl, rfl, trivial⟩ rfl
    · refine Ok.region ?_
      refine OkOps.q (triQ (x := .c (.loc 0 0)) rfl trivial rfl) ?_
      refine OkOps.q (triQ (x := .c (.v (.int _ _))) rfl trivial rfl) ?_
      refine OkOps.q (triQ (x := .c (.loc 1 0)) rfl trivial rfl) ?_
      refine OkOps.q (triQ (x := .c (.v (.int _ _))) rfl trivial rfl) ?_
      refine OkOps.q (triQ (x := .c (.v (.int _ _))) rfl trivial rfl) ?_
      refine OkOps.q (triQ (x := .c (.v (.int _ _))) rfl trivial rfl) ?_
      refine OkOps.q (triQ (x := .c (.loc 3 0)) rfl trivial rfl) ?_
      refine OkOps.w (triStore (cs' := [.v (.int _ _), .v (.bool _), .v (.int _ _), .v (.int _ _), .v (.int _ _)]) rfl rfl rfl rfl rfl rfl rfl rfl rfl) ?_
      refine OkOps.nil ?_
      exact Less.mk' ⟨rfl, rfl, rfl, rfl, rfl, trivial⟩ ⟨(by rw [sel_f h2]; rfl), rfl, rfl, rfl, trivial⟩ rfl
    show Ok _ _ _ _ ⟨[(2, .s (.c (.loc 0 0))), (3, .s (.c (.loc 1 0))), (4, .s (.c (.loc 2 0))), (5, .s (.c (.v (.int _ _)))), (6, .s (.c (.loc 3 0)))], [(3, .blk [.v (.int .i64 (sel m1 ((wr (wr (t1 + 4) - t2)).tmod 4) ((wr (t1 + t2)).tmod 4))), .v (.bool (!(m1 == m2))), .v (.int .i64 (wr (s1 * s2))), .v (.int .i64 0), .v (.int .i64 0)] 25), (0, .blk [.v (.int _ _), .v (.bool _), .v (.int _ _), .v (.int _ _), .v (.int _ _)] _), (1, .blk [.v (.int _ _), .v (.bool _), .v (.int _ _), .v (.int _ _), .v (.int _ _)] _), (2, .blk [.v (.int _ _), .v (.bool _), .v (.int _ _), .v (.int _ _), .v (.int _ _)] _)], 4⟩
    refine Ok.seq ?_
    refine Ok.region ?_
    refine OkOps.q (triQ (x := .agg [.v (.int _ _), .v (.bool _), .v (.int _ _), .v (.int _ _), .v (.int _ _)]) rfl trivial rfl) ?_
    refine OkOps.q (triQ (x := .c (.loc 1 3)) rfl trivial rfl) ?_
    refine OkOps.q (triQ (x := .c (.v (.int _ _))) rfl trivial rfl) ?_
    refine OkOps.q (triQ (x := .c (.loc 1 4)) rfl trivial rfl) ?_
    refine OkOps.q (triQ (x := .c (.v (.int _ _))) rfl trivial rfl) ?_
    refine OkOps.q (triCallP (x := .tup [.c (.v (.int _ _)), .c (.v (.int _ _))]) rfl trivial entry38 (corner_p _ _ _ _ _ _ _ (by omega)) rfl rfl) ?_
    refine OkOps.q (triMv (v := .tup [.c (.v (.int _ _)), .c (.v (.int _ _))]) rfl rfl) ?_
    refine OkOps.q (triQ (x := .c (.v (.int _ _))) rfl trivial rfl) ?_
    refine OkOps.q (triQ (x := .c (.v (.int _ _))) rfl trivial rfl) ?_
    refine OkOps.q (triQ (x := .c (.loc 3 3)) rfl trivial rfl) ?_
    refine OkOps.w (triStore (cs' := [.v (.int _ _), .v (.bool _), .v (.int _ _), .v (.int _ _), .v (.int _ _)]) rfl rfl rfl rfl rfl rfl rfl rfl rfl) ?_
    refine OkOps.q (triQ (x := .c (.loc 3 4)) rfl trivial rfl) ?_
    refine OkOps.w (triStore (cs' := [.v (.int _ _), .v (.bool _), .v (.int _ _), .v (.int _ _), .v (.int _ _)]) rfl rfl rfl rfl rfl rfl rfl rfl rfl) ?_
    refine OkOps.nil ?_
    refine Ok.seq ?_
    refine Ok.seq ?_
    refine Ok.region ?_
    refine OkOps.q (triQ (x := .agg [.v (.int _ _), .v (.bool _), .v (.int _ _), .v (.int _ _), .v (.int _ _)]) rfl trivial rfl) ?_
    refine OkOps.q (triCallP (x := .s (.c (.v (.bool _)))) rfl trivial entry18 (ValidTransform_p _ _ _ _ _) rfl rfl) ?_
    refine OkOps.q (triQ (x := .c (.v (.bool _))) rfl trivial rfl) ?_
    refine OkOps.nil ?_
    refine Ok.cond rfl (fun h3 => ?_) (fun h3 => ?_)
    · refine Ok.seq ?_
      refine Ok.region ?_
      refine OkOps.q (triQ (x := .agg [.v (.int _ _), .v (.bool _), .v (.int _ _), .v (.int _ _), .v (.int _ _)]) rfl trivial rfl) ?_
      refine OkOps.w (triStore (cs' := [.v (.int _ _), .v (.bool _), .v (.int _ _), .v (.int _ _), .v (.int _ _)]) rfl rfl rfl rfl rfl rfl rfl rfl rfl) ?_
      refine OkOps.q (triQ (x := .c (.v (.int _ _))) rfl trivial rfl) ?_
      refine OkOps.nil ?_
      refine Ok.ret ?_
      exact ⟨_, rfl, by show _ = ofR _; rw [combR2 (a := (t1, m1, s1, x1, y1)) (b := (t2, m2, s2, x2, y2)) h1 h3]; rfl⟩
    · refine Ok.skip ?_
      refine Ok.seq ?_
      refine Ok.region ?_
      refine OkOps.q (triQ (x := .agg [.v (.int _ _), .v (.bool _), .v (.int _ _), .v (.int _ _), .v (.int _ _)]) rfl trivial rfl) ?_
      refine OkOps.w (triStore (cs' := [.v (.int _ _), .v (.bool _), .v (.int _ _), .v (.int _ _), .v (.int _ _)]) rfl rfl rfl rfl rfl rfl rfl rfl rfl) ?_
      refine OkOps.q (triQ (x := .c (.v (.int _ _))) rfl trivial rfl) ?_
      refine OkOps.nil ?_
      refine Ok.ret ?_
      exact ⟨_, rfl, by show _ = ofR _; rw [combR3 (a := (t1, m1, s1, x1, y1)) (b := (t2, m2, s2, x2, y2)) h1 h3]; rfl⟩
theorem entry16 : Entry Try.prog 16 := ⟨_, Try.func16, by kernel_rfl, by kernel_rfl⟩
theorem rApply_p (t : Int) (m : Bool) (s dx dy x y u v : Int) : Pure Try.prog 19 [.agg #[.int .i64 t, .bool m, .int .i64 s, .int .i64 dx, .int .i64 dy], .agg #[.int .i64 x, .int .i64 y, .int .i64 u, .int .i64 v]] (.agg #[.int .i64 (appR t m s dx dy (x, y, u, v)).1, .int .i64 (appR t m s dx dy (x, y, u, v)).2.1, .int .i64 (appR t m s dx dy (x, y, u, v)).2.2.1, .int .i64 (appR t m s dx dy (x, y, u, v)).2.2.2]) := by
  refine Pure.of_ok 63 [.cell 4 23] [(0, .s (.agg [.v (.int .i64 t), .v (.bool m), .v (.int .i64 s), .v (.int .i64 dx), .v (.int .i64 dy)])), (1, .s (.agg [.v (.int .i64 x), .v (.int .i64 y), .v (.int .i64 u), .v (.int .i64 v)]))] Try.func19 rfl rfl rfl rfl rfl fun w => ?_
  refine Ok.seq ?_
  refine Ok.region ?_
  refine OkOps.m 1 (triBox (j := 0) (cs := [.v (.int _ _), .v (.bool _), .v (.int _ _), .v (.int _ _), .v (.int _ _)]) rfl rfl rfl rfl rfl) ?_
  refine OkOps.m 2 (triBox (j := 1) (cs := [.v (.int _ _), .v (.int _ _), .v (.int _ _), .v (.int _ _)]) rfl rfl rfl rfl rfl) ?_
  refine OkOps.m 3 (triAlloc (j := 2) (cs := [.v (.int _ _), .v (.int _ _), .v (.int _ _), .v (.int _ _)]) rfl rfl rfl rfl) ?_
  refine OkOps.nil ?_
  refine Ok.seq ?_
  refine Ok.seq ?_
  refine Ok.region ?_
  refine OkOps.q (triQ (x := .agg [.v (.int _ _), .v (.bool _), .v (.int _ _), .v (.int _ _), .v (.int _ _)]) rfl trivial rfl) ?_
  refine OkOps.q (triCallP (x := .s (.c (.v (.bool _)))) rfl trivial entry18 (ValidTransform_p _ _ _ _ _) rfl rfl) ?_
  refine OkOps.q (triQ (x := .c (.v (.bool _))) rfl trivial rfl) ?_
  refine OkOps.q (triQ (x := .c (.v (.bool _))) rfl trivial rfl) ?_
  refine OkOps.q (triQG (x := .agg [.v (.int _ _), .v (.int _ _), .v (.int _ _), .v (.int _ _)]) rfl rfl trivial rfl) ?_
  refine OkOps.q (triCallPG (x := .c (.v (.bool _))) rfl rfl ⟨fun h => h, trivial⟩ entry26 (fun _ => ValidRect_p _ _ _ _) rfl rfl) ?_
  refine OkOps.q (triQG (x := .c (.v (.bool _))) rfl rfl ⟨fun h => h, trivial⟩ rfl) ?_
  refine OkOps.q (triOr rfl rfl (fun h => by rw [h]; rfl) rfl) ?_
  refine OkOps.nil ?_
  refine Ok.cond rfl (fun h1 => ?_) (fun h1 => ?_)
  · refine Ok.seq ?_
    refine Ok.region ?_
    refine OkOps.q (triQ (x := .agg [.v (.int _ _), .v (.int _ _), .v (.int _ _), .v (.int _ _)]) rfl trivial rfl) ?_
    refine OkOps.w (triStore (cs' := [.v (.int _ _), .v (.int _ _), .v (.int _ _), .v (.int _ _)]) rfl rfl rfl rfl rfl rfl rfl rfl rfl) ?_
    refine OkOps.nil ?_
    refine Ok.ret ?_
    exact ⟨_, rfl, by show _ = ofR _; rw [show appR t m s dx dy (x, y, u, v) = _ from selQ_t h1 _ _]; rfl⟩
  · have hb := okT_t (notOkT h1)
    refine Ok.skip ?_
    refine Ok.seq ?_
    refine Ok.region ?_
    refine OkOps.q (triQ (x := .agg [.v (.int _ _), .v (.bool _), .v (.int _ _), .v (.int _ _), .v (.int _ _)]) rfl trivial rfl) ?_
    refine OkOps.q (triQ (x := .c (.loc 1 0)) rfl trivial rfl) ?_
    refine OkOps.q (triQ (x := .c (.v (.int _ _))) rfl trivial rfl) ?_
    refine OkOps.q (triQ (x := .c (.loc 1 1)) rfl trivial rfl) ?_
    refine OkOps.q (triQ (x := .c (.v (.int _ _))) rfl trivial rfl) ?_
    refine OkOps.q (triCallP (x := .tup [.c (.v (.int _ _)), .c (.v (.int _ _))]) rfl trivial entry38 (corner_p _ _ _ _ _ _ _ (by omega)) rfl rfl) ?_
    refine OkOps.q (triMv (v := .tup [.c (.v (.int _ _)), .c (.v (.int _ _))]) rfl rfl) ?_
    refine OkOps.q (triQ (x := .c (.v (.int _ _))) rfl trivial rfl) ?_
    refine OkOps.q (triQ (x := .c (.v (.int _ _))) rfl trivial rfl) ?_
    refine OkOps.q (triQ (x := .c (.v (.int _ _))) rfl trivial rfl) ?_
    refine OkOps.q (triQ (x := .c (.v (.int _ _))) rfl trivial rfl) ?_
    refine OkOps.nil ?_
    refine Ok.seq ?_
    refine Ok.region ?_
    refine OkOps.q (triQ (x := .agg [.v (.int _ _), .v (.bool _), .v (.int _ _), .v (.int _ _), .v (.int _ _)]) rfl trivial rfl) ?_
    refine OkOps.q (triQ (x := .c (.loc 1 0)) rfl trivial rfl) ?_
    refine OkOps.q (triQ (x := .c (.v (.int _ _))) rfl trivial rfl) ?_
    refine OkOps.q (triQ (x := .c (.loc 1 2)) rfl trivial rfl) ?_
    refine OkOps.q (triQ (x := .c (.v (.int _ _))) rfl trivial rfl) ?_
    refine OkOps.q (triQ (x := .c (.v (.int _ _))) rfl trivial rfl) ?_
    refine OkOps.q (triQ (x := .c (.loc 1 1)) rfl trivial rfl) ?_
    refine OkOps.q (triQ (x := .c (.v (.int _ _))) rfl trivial rfl) ?_
    refine OkOps.q (triQ (x := .c (.loc 1 3)) rfl trivial rfl) ?_
    refine OkOps.q (triQ (x := .c (.v (.int _ _))) rfl trivial rfl) ?_
    refine OkOps.q (triQ (x := .c (.v (.int _ _))) rfl trivial rfl) ?_
    refine OkOps.q (triCallP (x := .tup [.c (.v (.int _ _)), .c (.v (.int _ _))]) rfl trivial entry38 (corner_p _ _ _ _ _ _ _ (by omega)) rfl rfl) ?_
    refine OkOps.q (triMv (v := .tup [.c (.v (.int _ _)), .c (.v (.int _ _))]) rfl rfl) ?_
    refine OkOps.q (triQ (x := .c (.v (.int _ _))) rfl trivial rfl) ?_
    refine OkOps.q (triQ (x := .c (.v (.int _ _))) rfl trivial rfl) ?_
    refine OkOps.q (triQ (x := .c (.v (.int _ _))) rfl trivial rfl) ?_
    refine OkOps.q (triQ (x := .c (.v (.int _ _))) rfl trivial rfl) ?_
    refine OkOps.nil ?_
    refine Ok.seq ?_
    refine Ok.region ?_
    refine OkOps.q (triQ (x := .c (.v (.int _ _))) rfl trivial rfl) ?_
    refine OkOps.q (triQ (x := .c (.v (.int _ _))) rfl trivial rfl) ?_
    refine OkOps.q (triQ (x := .c (.v (.int _ _))) rfl trivial rfl) ?_
    refine OkOps.q (triQ (x := .c (.v (.int _ _))) rfl trivial rfl) ?_
    refine OkOps.q (triQ (x := .c (.v (.int _ _))) rfl trivial rfl) ?_
    refine OkOps.q (triQ (x := .c (.v (.int _ _))) rfl trivial rfl) ?_
    refine OkOps.q (triQ (x := .c (.v (.int _ _))) rfl trivial rfl) ?_
    refine OkOps.q (triQ (x := .c (.v (.int _ _))) rfl trivial rfl) ?_
    refine OkOps.q (triQ (x := .c (.v (.int _ _))) rfl trivial rfl) ?_
    refine OkOps.q (triQ (x := .c (.v (.int _ _))) rfl trivial rfl) ?_
    refine OkOps.q (triQ (x := .c (.v (.int _ _))) rfl trivial rfl) ?_
    refine OkOps.q (triQ (x := .c (.v (.int _ _))) rfl trivial rfl) ?_
    refine OkOps.q (triQ (x := .c (.v (.int _ _))) rfl trivial rfl) ?_
    refine OkOps.q (triQ (x := .c (.v (.int _ _))) rfl trivial rfl) ?_
    refine OkOps.q (triQ (x := .c (.v (.int _ _))) rfl trivial rfl) ?_
    refine OkOps.q (triQ (x := .c (.v (.int _ _))) rfl trivial rfl) ?_
    refine OkOps.q (triQ (x := .c (.v (.int _ _))) rfl trivial rfl) ?_
    refine OkOps.q (triQ (x := .c (.v (.int _ _))) rfl trivial rfl) ?_
    refine OkOps.q (triQ (x := .c (.v (.int _ _))) rfl trivial rfl) ?_
    refine OkOps.q (triQ (x := .c (.v (.int _ _))) rfl trivial rfl) ?_
    refine OkOps.q (triQ (x := .agg [.v (.int _ _), .v (.int _ _), .v (.int _ _), .v (.int _ _)]) rfl trivial rfl) ?_
    refine OkOps.w (triStore (cs' := [.v (.int _ _), .v (.int _ _), .v (.int _ _), .v (.int _ _)]) rfl rfl rfl rfl rfl rfl rfl rfl rfl) ?_
    refine OkOps.nil ?_
    refine Ok.ret ?_
    exact ⟨_, rfl, by show _ = ofR _; rw [show appR t m s dx dy (x, y, u, v) = _ from selQ_f h1 _ _]; rfl⟩
theorem entry19 : Entry Try.prog 19 := ⟨_, Try.func19, by kernel_rfl, by kernel_rfl⟩
theorem small_p (a b c d : Int) (m : Bool) : Pure Try.prog 10 [.int .i64 a, .int .i64 b, .int .i64 c, .int .i64 d, .bool m] (.agg #[.int .i64 (smallT a b c d m).1, .bool (smallT a b c d m).2.1, .int .i64 (smallT a b c d m).2.2.1, .int .i64 (smallT a b c d m).2.2.2.1, .int .i64 (smallT a b c d m).2.2.2.2]) := by
  refine Pure.of_ok 22 [.cell 10 25] [(0, .s (.c (.v (.int .i64 a)))), (1, .s (.c (.v (.int .i64 b)))), (2, .s (.c (.v (.int .i64 c)))), (3, .s (.c (.v (.int .i64 d)))), (4, .s (.c (.v (.bool m))))] Try.func10 rfl rfl rfl rfl rfl fun w => ?_
  refine Ok.seq ?_
  refine Ok.region ?_
  refine OkOps.m 1 (triAlloc (j := 0) (cs := [.v (.int _ _), .v (.bool _), .v (.int _ _), .v (.int _ _), .v (.int _ _)]) rfl rfl rfl rfl) ?_
  refine OkOps.nil ?_
  refine Ok.seq ?_
  refine Ok.region ?_
  refine OkOps.q (triQ (x := .c (.v (.int _ _))) rfl trivial rfl) ?_
  refine OkOps.q (triQ (x := .c (.v (.int _ _))) rfl trivial rfl) ?_
  refine OkOps.q (triQ (x := .c (.v (.bool _))) rfl trivial rfl) ?_
  refine OkOps.q (triQ (x := .c (.v (.int _ _))) rfl trivial rfl) ?_
  refine OkOps.q (triQ (x := .c (.v (.int _ _))) rfl trivial rfl) ?_
  refine OkOps.q (triQ (x := .c (.v (.int _ _))) rfl trivial rfl) ?_
  refine OkOps.q (triQ (x := .c (.v (.int _ _))) rfl trivial rfl) ?_
  refine OkOps.q (triQ (x := .c (.v (.int _ _))) rfl trivial rfl) ?_
  refine OkOps.q (triQ (x := .c (.v (.int _ _))) rfl trivial rfl) ?_
  refine OkOps.q (triQ (x := .c (.v (.int _ _))) rfl trivial rfl) ?_
  refine OkOps.q (triQ (x := .agg [.v (.int _ _), .v (.bool _), .v (.int _ _), .v (.int _ _), .v (.int _ _)]) rfl trivial rfl) ?_
  refine OkOps.w (triStore (cs' := [.v (.int _ _), .v (.bool _), .v (.int _ _), .v (.int _ _), .v (.int _ _)]) rfl rfl rfl rfl rfl rfl rfl rfl rfl) ?_
  refine OkOps.nil ?_
  refine Ok.ret ?_
  exact ⟨_, rfl, rfl⟩
theorem entry10 : Entry Try.prog 10 := ⟨_, Try.func10, by kernel_rfl, by kernel_rfl⟩
theorem awake_p  : Pure Try.prog 12 [] (.bool true) := by
  refine Pure.of_ok 15 [.tmp 0] [] Try.func12 rfl rfl rfl rfl rfl fun w => ?_
  refine Ok.seq ?_
  refine Ok.region ?_
  refine OkOps.q (triQ (x := .c (.v (.bool _))) rfl trivial rfl) ?_
  refine OkOps.nil ?_
  refine Ok.seq ?_
  refine Ok.region ?_
  refine OkOps.q (triQ (x := .agg [.v (.int _ _), .v (.bool _), .v (.int _ _), .v (.int _ _), .v (.int _ _)]) rfl trivial rfl) ?_
  refine OkOps.m 1 (triAlloc (j := 0) (cs := [.v (.int _ _), .v (.bool _), .v (.int _ _), .v (.int _ _), .v (.int _ _)]) rfl rfl rfl rfl) ?_
  refine OkOps.w (triStore (cs' := [.v (.int _ _), .v (.bool _), .v (.int _ _), .v (.int _ _), .v (.int _ _)]) rfl rfl rfl rfl rfl rfl rfl rfl rfl) ?_
  refine OkOps.nil ?_
  refine Ok.seq ?_
  refine Ok.region ?_
  refine OkOps.q (triQ (x := .agg [.v (.int _ _), .v (.bool _), .v (.int _ _), .v (.int _ _), .v (.int _ _)]) rfl trivial rfl) ?_
  refine OkOps.q (triQ (x := .agg [.v (.int _ _), .v (.int _ _), .v (.int _ _), .v (.int _ _)]) rfl trivial rfl) ?_
  refine OkOps.q (triCallP (x := .s (.agg [.v (.int _ _), .v (.int _ _), .v (.int _ _), .v (.int _ _)])) rfl trivial entry11 (Apply_p _ _ _ _ _ _ _ _ _) rfl rfl) ?_
  refine OkOps.q (triQ (x := .agg [.v (.int _ _), .v (.int _ _), .v (.int _ _), .v (.int _ _)]) rfl trivial rfl) ?_
  refine OkOps.q (triEqS (b := _) rfl rfl eqok23 rfl trivial rfl) ?_
  refine OkOps.q (triQ (x := .c (.v (.bool _))) rfl trivial rfl) ?_
  refine OkOps.q (triQG (x := .agg [.v (.int _ _), .v (.bool _), .v (.int _ _), .v (.int _ _), .v (.int _ _)]) rfl rfl trivial rfl) ?_
  refine OkOps.q (triQG (x := .agg [.v (.int _ _), .v (.int _ _)]) rfl rfl trivial rfl) ?_
  refine OkOps.q (triCallPG (x := .agg [.v (.int _ _), .v (.int _ _)]) rfl rfl ⟨fun h => h, ⟨fun h => h, trivial⟩⟩ entry14 (fun _ => Back_p _ _ _ _ _ _ _) rfl rfl) ?_
  refine OkOps.q (triQG (x := .agg [.v (.int _ _), .v (.int _ _)]) rfl rfl trivial rfl) ?_
  refine OkOps.q (triEqSG (b := _) rfl rfl rfl eqok31 rfl ⟨fun h => h, ⟨fun h => h, trivial⟩⟩ rfl) ?_
  refine OkOps.q (triAnd rfl rfl (fun h => h) rfl) ?_
  refine OkOps.q (triQ (x := .c (.v (.bool _))) rfl trivial rfl) ?_
  refine OkOps.nil ?_
  refine Ok.ret ?_
  exact ⟨_, rfl, bv (by decide +kernel)⟩
theorem entry12 : Entry Try.prog 12 := ⟨_, Try.func12, by kernel_rfl, by kernel_rfl⟩
end Go.Proofs.Ytilglbkpapbkpaa

import Derived.Test.YtilglbkpapbkpaaGa
import Derived.Test.YtilglbkpapbkpaaEvf
import Derived.Laws.BitsLemmas
namespace Go.Proofs.Ytilglbkpapbkpaa
open Go.Ev
theorem wrap_id {x : Int} (h1 : -9223372036854775808 ≤ x) (h2 : x < 9223372036854775808) : IntKind.i64.wrap x = x := by
  rw [IntKind.wrap_i64]; omega
abbrev Quad := Int × Int × Int × Int
def rotA : Nat → Quad → Quad
  | 0, r => r
  | k + 1, r => (wr (wr (0 - (rotA k r).2.1) - (rotA k r).2.2.2), (rotA k r).1, (rotA k r).2.2.2, (rotA k r).2.2.1)
def rotL : Nat → Int → Int → Int × Int
  | 0, p, q => (p, q)
  | k + 1, p, q => (wr (0 - (rotL k p q).2), (rotL k p q).1)
def rotB : Nat → Int → Int → Int × Int
  | 0, p, q => (p, q)
  | k + 1, p, q => ((rotB k p q).2, wr (wr (0 - (rotB k p q).1) - 1))
def floorG (a b : Int) : Int := sel (decide (a.tmod b < 0)) (wr (wr (a.tdiv b) - 1)) (wr (a.tdiv b))
def farB (a b : Int) : Bool := b == 0 || decide (a < -1152921504606846976) || decide (a > 1152921504606846976) || decide (b < -1152921504606846976) || decide (b > 1152921504606846976)
def floorR (a b : Int) : Int := sel (farB a b) 0 (sel (a.tmod b != 0 && !(decide (a < 0) == decide (b < 0))) (wr (wr (a.tdiv b) - 1)) (wr (a.tdiv b)))
def mxI (x y : Int) : Int := if y > x then y else x
def mnI (x y : Int) : Int := if y < x then y else x
def selQ (b : Bool) (p q : Quad) : Quad := if b = true then p else q
theorem selQ_t {b : Bool} (h : b = true) (p q : Quad) : selQ b p q = p := if_pos h
theorem selQ_f {b : Bool} (h : b = false) (p q : Quad) : selQ b p q = q := if_neg (by simp [h])
def vP (r : Quad) : Quad := (sel (badR r.1 r.2.1 r.2.2.1 r.2.2.2) 0 r.1, sel (badR r.1 r.2.1 r.2.2.1 r.2.2.2) 0 r.2.1, sel (badR r.1 r.2.1 r.2.2.1 r.2.2.2) 0 r.2.2.1, sel (badR r.1 r.2.1 r.2.2.1 r.2.2.2) 0 r.2.2.2)
def vR (r : Quad) : Quad := (sel (okR r.1 r.2.1 r.2.2.1 r.2.2.2) r.1 0, sel (okR r.1 r.2.1 r.2.2.1 r.2.2.2) r.2.1 0, sel (okR r.1 r.2.1 r.2.2.1 r.2.2.2) r.2.2.1 0, sel (okR r.1 r.2.1 r.2.2.1 r.2.2.2) r.2.2.2 0)
def btw (l t r b : Int) : Quad := (sel (gap l t r b) 0 l, sel (gap l t r b) 0 t, sel (gap l t r b) 0 (wr (r - l)), sel (gap l t r b) 0 (wr (b - t)))
def interP (a b : Quad) : Quad := btw (mxI (vP a).1 (vP b).1) (mxI (vP a).2.1 (vP b).2.1) (mnI (wr ((vP a).1 + (vP a).2.2.1)) (wr ((vP b).1 + (vP b).2.2.1))) (mnI (wr ((vP a).2.1 + (vP a).2.2.2)) (wr ((vP b).2.1 + (vP b).2.2.2)))
def iw (a b : Quad) : Int := wr (mnI (wr ((vR a).1 + (vR a).2.2.1)) (wr ((vR b).1 + (vR b).2.2.1)) - mxI (vR a).1 (vR b).1)
def ih (a b : Quad) : Int := wr (mnI (wr ((vR a).2.1 + (vR a).2.2.2)) (wr ((vR b).2.1 + (vR b).2.2.2)) - mxI (vR a).2.1 (vR b).2.1)
def interR (a b : Quad) : Quad := selQ (decide (iw a b ≤ 0) || decide (ih a b ≤ 0)) (0, 0, 0, 0) (mxI (vR a).1 (vR b).1, mxI (vR a).2.1 (vR b).2.1, iw a b, ih a b)
def eP (r : Quad) : Bool := emptyP (vP r).1 (vP r).2.1 (vP r).2.2.1 (vP r).2.2.2
def eR (r : Quad) : Bool := emptyR (vR r).1 (vR r).2.1 (vR r).2.2.1 (vR r).2.2.2
def unionP (a b : Quad) : Quad := selQ (eP a && eP b) (0, 0, 0, 0) (selQ (eP a) (vP b) (selQ (eP b) (vP a)
  (btw (mnI (vP a).1 (vP b).1) (mnI (vP a).2.1 (vP b).2.1) (mxI (wr ((vP a).1 + (vP a).2.2.1)) (wr ((vP b).1 + (vP b).2.2.1))) (mxI (wr ((vP a).2.1 + (vP a).2.2.2)) (wr ((vP b).2.1 + (vP b).2.2.2))))))
def unionR (a b : Quad) : Quad := selQ (eR a && eR b) (0, 0, 0, 0) (selQ (eR a) (vR b) (selQ (eR b) (vR a)
  (mnI (vR a).1 (vR b).1, mnI (vR a).2.1 (vR b).2.1, wr (mxI (wr ((vR a).1 + (vR a).2.2.1)) (wr ((vR b).1 + (vR b).2.2.1)) - mnI (vR a).1 (vR b).1), wr (mxI (wr ((vR a).2.1 + (vR a).2.2.2)) (wr ((vR b).2.1 + (vR b).2.2.2)) - mnI (vR a).2.1 (vR b).2.1))))
def offI (n : Int) : Bool := decide (n < 0) || decide (n > 1048576)
def shrP (r i : Quad) : Quad := selQ (offI i.1) (0, 0, 0, 0) (selQ (offI i.2.1) (0, 0, 0, 0) (selQ (offI i.2.2.1) (0, 0, 0, 0) (selQ (offI i.2.2.2) (0, 0, 0, 0)
  (btw (wr ((vP r).1 + i.1)) (wr ((vP r).2.1 + i.2.1)) (wr (wr ((vP r).1 + (vP r).2.2.1) - i.2.2.1)) (wr (wr ((vP r).2.1 + (vP r).2.2.2) - i.2.2.2))))))
def offR (i : Quad) : Bool := decide (i.1 < 0) || decide (i.1 > 1048576) || decide (i.2.1 < 0) || decide (i.2.1 > 1048576) || decide (i.2.2.1 < 0) || decide (i.2.2.1 > 1048576) || decide (i.2.2.2 < 0) || decide (i.2.2.2 > 1048576)
def shrW (r i : Quad) : Int := wr (wr ((vR r).2.2.1 - i.1) - i.2.2.1)
def shrH (r i : Quad) : Int := wr (wr ((vR r).2.2.2 - i.2.1) - i.2.2.2)
def shrR (r i : Quad) : Quad := selQ (offR i) (0, 0, 0, 0) (selQ (decide (shrW r i ≤ 0) || decide (shrH r i ≤ 0)) (0, 0, 0, 0) (wr ((vR r).1 + i.1), wr ((vR r).2.1 + i.2.1), shrW r i, shrH r i))
def shiftP (r : Quad) (dx dy : Int) : Quad := selQ (!within dx 2097152 || !within dy 2097152) (0, 0, 0, 0) (vP (wr ((vP r).1 + dx), wr ((vP r).2.1 + dy), (vP r).2.2.1, (vP r).2.2.2))
def shiftR (r : Quad) (dx dy : Int) : Quad := selQ (!within dx 2097152 || !within dy 2097152) (0, 0, 0, 0) (vR (wr ((vR r).1 + dx), wr ((vR r).2.1 + dy), (vR r).2.2.1, (vR r).2.2.2))
theorem floor_p (a b : Int) (hb : b ≠ 0) : Pure Try.prog 36 [.int .i64 a, .int .i64 b] (.int .i64 (floorG a b)) := by
  refine Pure.of_ok 16 [.tmp 4] [(0, .s (.c (.v (.int .i64 a)))), (1, .s (.c (.v (.int .i64 b))))] Try.func36 rfl rfl rfl rfl rfl fun w => ?_
  refine Ok.seq ?_
  refine Ok.region ?_
  refine OkOps.q (triQ (x := .c (.v (.int _ _))) rfl trivial rfl) ?_
  refine OkOps.nil ?_
  refine Ok.seq ?_
  refine Ok.region ?_
  refine OkOps.q (triQ (x := .c (.v (.int _ _))) rfl trivial rfl) ?_
  refine OkOps.q (triQ (x := .c (.v (.int _ _))) rfl trivial rfl) ?_
  refine OkOps.q (triQuo rfl rfl trivial (by omega) rfl) ?_
  refine OkOps.q (triQ (x := .c (.v (.int _ _))) rfl trivial rfl) ?_
  refine OkOps.nil ?_
  refine Ok.seq ?_
  refine Ok.seq ?_
  refine Ok.region ?_
  refine OkOps.q (triQ (x := .c (.v (.int _ _))) rfl trivial rfl) ?_
  refine OkOps.q (triQ (x := .c (.v (.int _ _))) rfl trivial rfl) ?_
  refine OkOps.q (triRem rfl rfl trivial (by omega) rfl) ?_
  refine OkOps.q (triQ (x := .c (.v (.bool _))) rfl trivial rfl) ?_
  refine OkOps.nil ?_
  refine Ok.join [4] [] [(5, .s (.c (.v (.int .i64 (floorG a b)))))] [] 0 rfl (fun h1 => ?_) (fun h1 => ?_) ?_
  · refine Ok.region ?_
    refine OkOps.q (triQ (x := .c (.v (.int _ _))) rfl trivial rfl) ?_
    refine OkOps.q (triQ (x := .c (.v (.int _ _))) rfl trivial rfl) ?_
    refine OkOps.q (triQ (x := .c (.v (.int _ _))) rfl trivial rfl) ?_
    refine OkOps.nil ?_
    exact Less.mk' ⟨(by rw [floorG, sel_t h1]; rfl), rfl, trivial⟩ trivial rfl
  · refine Ok.skip ?_
    exact Less.mk' ⟨(by rw [floorG, sel_f h1]; rfl), rfl, trivial⟩ trivial rfl
  show Ok _ _ _ _ ⟨[(5, .s (.c (.v (.int .i64 (floorG a b))))), (4, .s (.c (.v (.int _ _))))], [], 0⟩
  refine Ok.seq ?_
  refine Ok.region ?_
  refine OkOps.q (triQ (x := .c (.v (.int _ _))) rfl trivial rfl) ?_
  refine OkOps.q (triQ (x := .c (.v (.int _ _))) rfl trivial rfl) ?_
  refine OkOps.nil ?_
  refine Ok.ret ?_
  exact ⟨_, rfl, rfl⟩
theorem entry36 : Entry Try.prog 36 := ⟨_, Try.func36, by kernel_rfl, by kernel_rfl⟩
theorem rFloor_p (a b : Int) : Pure Try.prog 41 [.int .i64 a, .int .i64 b] (.int .i64 (floorR a b)) := by
  refine Pure.of_ok 41 [.tmp 4] [(0, .s (.c (.v (.int .i64 a)))), (1, .s (.c (.v (.int .i64 b))))] Try.func41 rfl rfl rfl rfl rfl fun w => ?_
  refine Ok.seq ?_
  refine Ok.region ?_
  refine OkOps.q (triQ (x := .c (.v (.int _ _))) rfl trivial rfl) ?_
  refine OkOps.nil ?_
  refine Ok.seq ?_
  refine Ok.seq ?_
  refine Ok.region ?_
  refine OkOps.q (triQ (x := .c (.v (.int _ _))) rfl trivial rfl) ?_
  refine OkOps.q (triQ (x := .c (.v (.bool _))) rfl trivial rfl) ?_
  refine OkOps.q (triQ (x := .c (.v (.bool _))) rfl trivial rfl) ?_
  refine OkOps.q (triQG (x := .c (.v (.int _ _))) rfl rfl trivial rfl) ?_
  refine OkOps.q (triQG (x := .c (.v (.bool _))) rfl rfl ⟨fun h => h, trivial⟩ rfl) ?_
  refine OkOps.q (triOr rfl rfl (fun h => by rw [h]; rfl) rfl) ?_
  refine OkOps.q (triQ (x := .c (.v (.bool _))) rfl trivial rfl) ?_
  refine OkOps.q (triQG (x := .c (.v (.int _ _))) rfl rfl trivial rfl) ?_
  refine OkOps.q (triQG (x := .c (.v (.bool _))) rfl rfl ⟨fun h => h, trivial⟩ rfl) ?_
  refine OkOps.q (triOr rfl rfl (fun h => by rw [h]; rfl) rfl) ?_
  refine OkOps.q (triQ (x := .c (.v (.bool _))) rfl trivial rfl) ?_
  refine OkOps.q (triQG (x := .c (.v (.int _ _))) rfl rfl trivial rfl) ?_
  refine OkOps.q (triQG (x := .c (.v (.bool _))) rfl rfl ⟨fun h => h, trivial⟩ rfl) ?_
  refine OkOps.q (triOr rfl rfl (fun h => by rw [h]; rfl) rfl) ?_
  refine OkOps.q (triQ (x := .c (.v (.bool _))) rfl trivial rfl) ?_
  refine OkOps.q (triQG (x := .c (.v (.int _ _))) rfl rfl trivial rfl) ?_
  refine OkOps.q (triQG (x := .c (.v (.bool _))) rfl rfl ⟨fun h => h, trivial⟩ rfl) ?_
  refine OkOps.q (triOr rfl rfl (fun h => by rw [h]; rfl) rfl) ?_
  refine OkOps.nil ?_
  refine Ok.cond rfl (fun h1 => ?_) (fun h1 => ?_)
  · refine Ok.seq ?_
    refine Ok.region ?_
    refine OkOps.q (triQ (x := .c (.v (.int _ _))) rfl trivial rfl) ?_
    refine OkOps.nil ?_
    refine Ok.ret ?_
    exact ⟨_, rfl, by show _ = ofR _; rw [floorR, sel_t (show farB a b = true from h1)]; rfl⟩
  · have hb : b ≠ 0 := fun e => by subst e; exact absurd h1 (by simp)
    refine Ok.skip ?_
    refine Ok.seq ?_
    refine Ok.region ?_
    refine OkOps.q (triQ (x := .c (.v (.int _ _))) rfl trivial rfl) ?_
    refine OkOps.q (triQ (x := .c (.v (.int _ _))) rfl trivial rfl) ?_
    refine OkOps.q (triQuo rfl rfl trivial hb rfl) ?_
    refine OkOps.q (triQ (x := .c (.v (.int _ _))) rfl trivial rfl) ?_
    refine OkOps.nil ?_
    refine Ok.seq ?_
    refine Ok.seq ?_
    refine Ok.region ?_
    refine OkOps.q (triQ (x := .c (.v (.int _ _))) rfl trivial rfl) ?_
    refine OkOps.q (triQ (x := .c (.v (.int _ _))) rfl trivial rfl) ?_
    refine OkOps.q (triRem rfl rfl trivial hb rfl) ?_
    refine OkOps.q (triQ (x := .c (.v (.bool _))) rfl trivial rfl) ?_
    refine OkOps.q (triQ (x := .c (.v (.bool _))) rfl trivial rfl) ?_
    refine OkOps.q (triQG (x := .c (.v (.int _ _))) rfl rfl trivial rfl) ?_
    refine OkOps.q (triQG (x := .c (.v (.bool _))) rfl rfl ⟨fun h => h, trivial⟩ rfl) ?_
    refine OkOps.q (triQG (x := .c (.v (.int _ _))) rfl rfl trivial rfl) ?_
    refine OkOps.q (triQG (x := .c (.v (.bool _))) rfl rfl ⟨fun h => h, trivial⟩ rfl) ?_
    refine OkOps.q (triQG (x := .c (.v (.bool _))) rfl rfl ⟨fun h => h, ⟨fun h => h, trivial⟩⟩ rfl) ?_
    refine OkOps.q (triAnd rfl rfl (fun h => h) rfl) ?_
    refine OkOps.nil ?_
    refine Ok.join [4] [] [(5, .s (.c (.v (.int .i64 (sel (a.tmod b != 0 && !(decide (a < 0) == decide (b < 0))) (wr (wr (a.tdiv b) - 1)) (wr (a.tdiv b)))))))] [] 0 rfl (fun h2 => ?_) (fun h2 => ?_) ?_
    · refine Ok.region ?_
      refine OkOps.q (triQ (x := .c (.v (.int _ _))) rfl trivial rfl) ?_
      refine OkOps.q (triQ (x := .c (.v (.int _ _))) rfl trivial rfl) ?_
      refine OkOps.q (triQ (x := .c (.v (.int _ _))) rfl trivial rfl) ?_
      refine OkOps.nil ?_
      exact Less.mk' ⟨(by rw [sel_t h2]; rfl), rfl, trivial⟩ trivial rfl
    · refine Ok.skip ?_
      exact Less.mk' ⟨(by rw [sel_f h2]; rfl), rfl, trivial⟩ trivial rfl
    show Ok _ _ _ _ ⟨[(5, .s (.c (.v (.int .i64 (sel (a.tmod b != 0 && !(decide (a < 0) == decide (b < 0))) (wr (wr (a.tdiv b) - 1)) (wr (a.tdiv b))))))), (4, .s (.c (.v (.int _ _))))], [], 0⟩
    refine Ok.seq ?_
    refine Ok.region ?_
    refine OkOps.q (triQ (x := .c (.v (.int _ _))) rfl trivial rfl) ?_
    refine OkOps.q (triQ (x := .c (.v (.int _ _))) rfl trivial rfl) ?_
    refine OkOps.nil ?_
    refine Ok.ret ?_
    exact ⟨_, rfl, by show _ = ofR _; rw [floorR, sel_f (show farB a b = false from h1)]; rfl⟩
theorem entry41 : Entry Try.prog 41 := ⟨_, Try.func41, by kernel_rfl, by kernel_rfl⟩
theorem linear_p (t : Int) (m : Bool) (s x y p q : Int) (ht : 0 ≤ t ∧ t ≤ 3) : Pure Try.prog 37 [.agg #[.int .i64 t, .bool m, .int .i64 s, .int .i64 x, .int .i64 y], .agg #[.int .i64 p, .int .i64 q]] (.agg #[.int .i64 (wr ((rotL t.toNat (sel m (wr (0 - p)) p) q).1 * s)), .int .i64 (wr ((rotL t.toNat (sel m (wr (0 - p)) p) q).2 * s))]) := by
  obtain ⟨ht, ht3⟩ := ht
  refine Pure.of_ok 35 [.cell 4 31] [(0, .s (.agg [.v (.int .i64 t), .v (.bool m), .v (.int .i64 s), .v (.int .i64 x), .v (.int .i64 y)])), (1, .s (.agg [.v (.int .i64 p), .v (.int .i64 q)]))] Try.func37 rfl rfl rfl rfl rfl fun w => ?_
  refine Ok.seq ?_
  refine Ok.region ?_
  refine OkOps.m 1 (triBox (j := 0) (cs := [.v (.int _ _), .v (.bool _), .v (.int _ _), .v (.int _ _), .v (.int _ _)]) rfl rfl rfl rfl rfl) ?_
  refine OkOps.m 2 (triBox (j := 1) (cs := [.v (.int _ _), .v (.int _ _)]) rfl rfl rfl rfl rfl) ?_
  refine OkOps.m 3 (triAlloc (j := 2) (cs := [.v (.int _ _), .v (.int _ _)]) rfl rfl rfl rfl) ?_
  refine OkOps.nil ?_
  refine Ok.seq ?_
  refine Ok.seq ?_
  refine Ok.region ?_
  refine OkOps.q (triQ (x := .c (.loc 0 1)) rfl trivial rfl) ?_
  refine OkOps.q (triQ (x := .c (.v (.bool _))) rfl trivial rfl) ?_
  refine OkOps.nil ?_
  refine Ok.join [2, 3, 4] [0, 2] [] [(1, .blk [.v (.int .i64 (sel m (wr (0 - p)) p)), .v (.int .i64 q)] 31)] 3 rfl (fun h1 => ?_) (fun h1 => ?_) ?_
  · refine Ok.region ?_
    refine OkOps.q (triQ (x := .c (.loc 1 0)) rfl trivial rfl) ?_
    refine OkOps.q (triQ (x := .c (.v (.int _ _))) rfl trivial rfl) ?_
    refine OkOps.q (triQ (x := .c (.v (.int _ _))) rfl trivial rfl) ?_
    refine OkOps.q (triQ (x := .c (.loc 1 0)) rfl trivial rfl) ?_
    refine OkOps.w (triStore (cs' := [.v (.int _ _), .v (.int _ _)]) rfl rfl rfl rfl rfl rfl rfl rfl rfl) ?_
    refine OkOps.nil ?_
    exact Less.mk' ⟨rfl, rfl, rfl, trivial⟩ ⟨(by rw [sel_t h1]; rfl), rfl, rfl, trivial⟩ rfl
  · refine Ok.skip ?_
    exact Less.mk' ⟨rfl, rfl, rfl, trivial⟩ ⟨(by rw [sel_f h1]; rfl), rfl, rfl, trivial⟩ rfl
  show Ok _ _ _ _ ⟨[(2, .s (.c (.loc 0 0))), (3, .s (.c (.loc 1 0))), (4, .s (.c (.loc 2 0)))], [(1, .blk [.v (.int .i64 (sel m (wr (0 - p)) p)), .v (.int .i64 q)] 31), (0, .blk [.v (.int _ _), .v (.bool _), .v (.int _ _), .v (.int _ _), .v (.int _ _)] _), (2, .blk [.v (.int _ _), .v (.int _ _)] _)], 3⟩
  refine Ok.seq ?_
  refine Ok.seq ?_
  refine Ok.region ?_
  refine OkOps.q (triQ (x := .c (.v (.int _ _))) rfl trivial rfl) ?_
  refine OkOps.nil ?_
  refine Ok.block ?_
  refine Ok.loopK (X := Nat) [2, 3, 4] [0, 2] (fun k => [(5, .s (.c (.v (.int .i64 ((k : Nat) : Int)))))]) (fun k => [(1, .blk [.v (.int .i64 (rotL k (sel m (wr (0 - p)) p) q).1), .v (.int .i64 (rotL k (sel m (wr (0 - p)) p) q).2)] 31)]) (fun k => (k : Int) ≤ t) (fun k => t.toNat - k) 0 (by simpa using ht) (Less.mk' ⟨rfl, rfl, rfl, rfl, trivial⟩ ⟨rfl, rfl, rfl, trivial⟩ rfl) (fun k hI => ?_)
  show Ok _ _ _ _ ⟨[(5, .s (.c (.v (.int .i64 ((k : Nat) : Int))))), (2, .s (.c (.loc 0 0))), (3, .s (.c (.loc 1 0))), (4, .s (.c (.loc 2 0)))], [(1, .blk [.v (.int .i64 (rotL k (sel m (wr (0 - p)) p) q).1), .v (.int .i64 (rotL k (sel m (wr (0 - p)) p) q).2)] 31), (0, .blk [.v (.int _ _), .v (.bool _), .v (.int _ _), .v (.int _ _), .v (.int _ _)] _), (2, .blk [.v (.int _ _), .v (.int _ _)] _)], 3⟩
  have hI : (k : Int) ≤ t := hI
  refine Ok.seq ?_
  refine Ok.seq ?_
  refine Ok.region ?_
  refine OkOps.q (triQ (x := .c (.v (.int _ _))) rfl trivial rfl) ?_
  refine OkOps.q (triQ (x := .c (.loc 0 0)) rfl trivial rfl) ?_
  refine OkOps.q (triQ (x := .c (.v (.int _ _))) rfl trivial rfl) ?_
  refine OkOps.q (triQ (x := .c (.v (.bool _))) rfl trivial rfl) ?_
  refine OkOps.nil ?_
  refine Ok.cond rfl (fun h2 => ?_) (fun h2 => ?_)
  · refine Ok.skip ?_
    refine Ok.seq ?_
    refine Ok.block ?_
    refine Ok.region ?_
    refine OkOps.q (triQ (x := .c (.loc 1 1)) rfl trivial rfl) ?_
    refine OkOps.q (triQ (x := .c (.v (.int _ _))) rfl trivial rfl) ?_
    refine OkOps.q (triQ (x := .c (.v (.int _ _))) rfl trivial rfl) ?_
    refine OkOps.q (triQ (x := .c (.loc 1 0)) rfl trivial rfl) ?_
    refine OkOps.q (triQ (x := .c (.v (.int _ _))) rfl trivial rfl) ?_
    refine OkOps.q (triQ (x := .agg [.v (.int _ _), .v (.int _ _)]) rfl trivial rfl) ?_
    refine OkOps.w (triStore (cs' := [.v (.int _ _), .v (.int _ _)]) rfl rfl rfl rfl rfl rfl rfl rfl rfl) ?_
    refine OkOps.nil ?_
    refine Ok.region ?_
    refine OkOps.q (triQ (x := .c (.v (.int _ _))) rfl trivial rfl) ?_
    refine OkOps.q (triQ (x := .c (.v (.int _ _))) rfl trivial rfl) ?_
    refine OkOps.q (triQ (x := .c (.v (.int _ _))) rfl trivial rfl) ?_
    refine OkOps.nil ?_
    exact ⟨k + 1, by simp at h2; omega, by simp at h2; omega, Less.mk' ⟨(by rw [show ((k + 1 : Nat) : Int) = IntKind.i64.wrap ((k : Int) + 1) from by rw [wrap_id (by omega) (by simp at h2; omega)]; omega]; rfl), rfl, rfl, rfl, trivial⟩ ⟨rfl, rfl, rfl, trivial⟩ rfl⟩
  · obtain rfl : k = t.toNat := by simp at h2; omega
    refine Ok.exit ?_
    refine Ok.seq ?_
    refine Ok.region ?_
    refine OkOps.q (triQ (x := .c (.loc 1 0)) rfl trivial rfl) ?_
    refine OkOps.q (triQ (x := .c (.v (.int _ _))) rfl trivial rfl) ?_
    refine OkOps.q (triQ (x := .c (.loc 0 2)) rfl trivial rfl) ?_
    refine OkOps.q (triQ (x := .c (.v (.int _ _))) rfl trivial rfl) ?_
    refine OkOps.q (triQ (x := .c (.v (.int _ _))) rfl trivial rfl) ?_
    refine OkOps.q (triQ (x := .c (.loc 1 1)) rfl trivial rfl) ?_
    refine OkOps.q (triQ (x := .c (.v (.int _ _))) rfl trivial rfl) ?_
    refine OkOps.q (triQ (x := .c (.loc 0 2)) rfl trivial rfl) ?_
    refine OkOps.q (triQ (x := .c (.v (.int _ _))) rfl trivial rfl) ?_
    refine OkOps.q (triQ (x := .c (.v (.int _ _))) rfl trivial rfl) ?_
    refine OkOps.q (triQ (x := .agg [.v (.int _ _), .v (.int _ _)]) rfl trivial rfl) ?_
    refine OkOps.w (triStore (cs' := [.v (.int _ _), .v (.int _ _)]) rfl rfl rfl rfl rfl rfl rfl rfl rfl) ?_
    refine OkOps.nil ?_
    refine Ok.ret ?_
    exact ⟨_, rfl, rfl⟩
theorem entry37 : Entry Try.prog 37 := ⟨_, Try.func37, by kernel_rfl, by kernel_rfl⟩
theorem corner_p (t : Int) (m : Bool) (s x y p q : Int) (ht : 0 ≤ t ∧ t ≤ 3) : Pure Try.prog 38 [.agg #[.int .i64 t, .bool m, .int .i64 s, .int .i64 x, .int .i64 y], .int .i64 p, .int .i64 q] (.tuple #[.int .i64 (wr (wr ((rotL t.toNat (sel m (wr (0 - p)) p) q).1 * s) + x)), .int .i64 (wr (wr ((rotL t.toNat (sel m (wr (0 - p)) p) q).2 * s) + y))]) := by
  obtain ⟨ht, ht3⟩ := ht
  refine Pure.of_ok 36 [.tmp 6, .tmp 7] [(0, .s (.agg [.v (.int .i64 t), .v (.bool m), .v (.int .i64 s), .v (.int .i64 x), .v (.int .i64 y)])), (1, .s (.c (.v (.int .i64 p)))), (2, .s (.c (.v (.int .i64 q))))] Try.func38 rfl rfl rfl rfl rfl fun w => ?_
  refine Ok.seq ?_
  refine Ok.region ?_
  refine OkOps.m 1 (triBox (j := 0) (cs := [.v (.int _ _), .v (.bool _), .v (.int _ _), .v (.int _ _), .v (.int _ _)]) rfl rfl rfl rfl rfl) ?_
  refine OkOps.q (triQ (x := .c (.v (.int _ _))) rfl trivial rfl) ?_
  refine OkOps.q (triQ (x := .c (.v (.int _ _))) rfl trivial rfl) ?_
  refine OkOps.nil ?_
  refine Ok.seq ?_
  refine Ok.seq ?_
  refine Ok.region ?_
  refine OkOps.q (triQ (x := .c (.loc 0 1)) rfl trivial rfl) ?_
  refine OkOps.q (triQ (x := .c (.v (.bool _))) rfl trivial rfl) ?_
  refine OkOps.nil ?_
  refine Ok.join [2, 3, 6, 7] [0] [(1, .s (.c (.v (.int .i64 (sel m (wr (0 - p)) p)))))] [] 1 rfl (fun h1 => ?_) (fun h1 => ?_) ?_
  · refine Ok.region ?_
    refine OkOps.q (triQ (x := .c (.v (.int _ _))) rfl trivial rfl) ?_
    refine OkOps.q (triQ (x := .c (.v (.int _ _))) rfl trivial rfl) ?_
    refine OkOps.q (triQ (x := .c (.v (.int _ _))) rfl trivial rfl) ?_
    refine OkOps.nil ?_
    exact Less.mk' ⟨(by rw [sel_t h1]; rfl), rfl, rfl, rfl, rfl, trivial⟩ ⟨rfl, trivial⟩ rfl
  · refine Ok.skip ?_
    exact Less.mk' ⟨(by rw [sel_f h1]; rfl), rfl, rfl, rfl, rfl, trivial⟩ ⟨rfl, trivial⟩ rfl
  show Ok _ _ _ _ ⟨[(1, .s (.c (.v (.int .i64 (sel m (wr (0 - p)) p))))), (2, .s (.c (.v (.int _ _)))), (3, .s (.c (.loc 0 0))), (6, .s (.c (.v (.int _ _)))), (7, .s (.c (.v (.int _ _))))], [(0, .blk [.v (.int _ _), .v (.bool _), .v (.int _ _), .v (.int _ _), .v (.int _ _)] _)], 1⟩
  refine Ok.seq ?_
  refine Ok.seq ?_
  refine Ok.region ?_
  refine OkOps.q (triQ (x := .c (.v (.int _ _))) rfl trivial rfl) ?_
  refine OkOps.nil ?_
  refine Ok.block ?_
  refine Ok.loopK (X := Nat) [3, 6, 7] [0] (fun k => [(1, .s (.c (.v (.int .i64 (rotL k (sel m (wr (0 - p)) p) q).1)))), (2, .s (.c (.v (.int .i64 (rotL k (sel m (wr (0 - p)) p) q).2)))), (8, .s (.c (.v (.int .i64 ((k : Nat) : Int)))))]) (fun k => []) (fun k => (k : Int) ≤ t) (fun k => t.toNat - k) 0 (by simpa using ht) (Less.mk' ⟨rfl, rfl, rfl, rfl, rfl, rfl, trivial⟩ ⟨rfl, trivial⟩ rfl) (fun k hI => ?_)
  show Ok _ _ _ _ ⟨[(1, .s (.c (.v (.int .i64 (rotL k (sel m (wr (0 - p)) p) q).1)))), (2, .s (.c (.v (.int .i64 (rotL k (sel m (wr (0 - p)) p) q).2)))), (8, .s (.c (.v (.int .i64 ((k : Nat) : Int))))), (3, .s (.c (.loc 0 0))), (6, .s (.c (.v (.int _ _)))), (7, .s (.c (.v (.int _ _))))], [(0, .blk [.v (.int _ _), .v (.bool _), .v (.int _ _), .v (.int _ _), .v (.int _ _)] _)], 1⟩
  have hI : (k : Int) ≤ t := hI
  refine Ok.seq ?_
  refine Ok.seq ?_
  refine Ok.region ?_
  refine OkOps.q (triQ (x := .c (.v (.int _ _))) rfl trivial rfl) ?_
  refine OkOps.q (triQ (x := .c (.loc 0 0)) rfl trivial rfl) ?_
  refine OkOps.q (triQ (x := .c (.v (.int _ _))) rfl trivial rfl) ?_
  refine OkOps.q (triQ (x := .c (.v (.bool _))) rfl trivial rfl) ?_
  refine OkOps.nil ?_
  refine Ok.cond rfl (fun h2 => ?_) (fun h2 => ?_)
  · refine Ok.skip ?_
    refine Ok.seq ?_
    refine Ok.block ?_
    refine Ok.region ?_
    refine OkOps.q (triQ (x := .c (.v (.int _ _))) rfl trivial rfl) ?_
    refine OkOps.q (triQ (x := .c (.v (.int _ _))) rfl trivial rfl) ?_
    refine OkOps.q (triQ (x := .c (.v (.int _ _))) rfl trivial rfl) ?_
    refine OkOps.q (triQ (x := .c (.v (.int _ _))) rfl trivial rfl) ?_
    refine OkOps.q (triQ (x := .c (.v (.int _ _))) rfl trivial rfl) ?_
    refine OkOps.nil ?_
    refine Ok.region ?_
    refine OkOps.q (triQ (x := .c (.v (.int _ _))) rfl trivial rfl) ?_
    refine OkOps.q (triQ (x := .c (.v (.int _ _))) rfl trivial rfl) ?_
    refine OkOps.q (triQ (x := .c (.v (.int _ _))) rfl trivial rfl) ?_
    refine OkOps.nil ?_
    exact ⟨k + 1, by simp at h2; omega, by simp at h2; omega, Less.mk' ⟨rfl, rfl, (by rw [show ((k + 1 : Nat) : Int) = IntKind.i64.wrap ((k : Int) + 1) from by rw [wrap_id (by omega) (by simp at h2; omega)]; omega]; rfl), rfl, rfl, rfl, trivial⟩ ⟨rfl, trivial⟩ rfl⟩
  · obtain rfl : k = t.toNat := by simp at h2; omega
    refine Ok.exit ?_
    refine Ok.seq ?_
    refine Ok.regionD (by kernel_rfl) ?_
    refine OkD.q (triQ (x := .c (.v (.int _ _))) rfl trivial rfl) ?_
    refine OkD.q (triQ (x := .c (.loc 0 2)) rfl trivial rfl) ?_
    refine OkD.q (triQ (x := .c (.v (.int _ _))) rfl trivial rfl) ?_
    refine OkD.q (triQ (x := .c (.v (.int _ _))) rfl trivial rfl) ?_
    refine OkD.q (triQ (x := .c (.loc 0 3)) rfl trivial rfl) ?_
    refine OkD.q (triQ (x := .c (.v (.int _ _))) rfl trivial rfl) ?_
    refine OkD.q (triQ (x := .c (.v (.int _ _))) rfl trivial rfl) ?_
    refine OkD.q (triQ (x := .c (.v (.int _ _))) rfl trivial rfl) ?_
    refine OkD.q (triQ (x := .c (.loc 0 2)) rfl trivial rfl) ?_
    refine OkD.q (triQ (x := .c (.v (.int _ _))) rfl trivial rfl) ?_
    refine OkD.q (triQ (x := .c (.v (.int _ _))) rfl trivial rfl) ?_
    refine OkD.q (triQ (x := .c (.loc 0 4)) rfl trivial rfl) ?_
    refine OkD.q (triQ (x := .c (.v (.int _ _))) rfl trivial rfl) ?_
    refine OkD.q (triQ (x := .c (.v (.int _ _))) rfl trivial rfl) ?_
    refine OkD.q (triQ (x := .c (.v (.int _ _))) rfl trivial rfl) ?_
    refine OkD.q (triQ (x := .c (.v (.int _ _))) rfl trivial rfl) ?_
    refine OkD.nil (by kernel_rfl) ?_
    refine Ok.ret ?_
    exact ⟨_, rfl, rfl⟩
theorem entry38 : Entry Try.prog 38 := ⟨_, Try.func38, by kernel_rfl, by kernel_rfl⟩
def appP (t : Int) (m : Bool) (s dx dy : Int) (r : Quad) : Quad := selQ (sel (badT t s dx dy) 1 0 != 0 || sel (badR r.1 r.2.1 r.2.2.1 r.2.2.2) 1 0 != 0) (0, 0, 0, 0)
  (wr (wr ((rotA t.toNat (sel m (wr (wr (0 - r.1) - r.2.2.1)) r.1, r.2.1, r.2.2.1, r.2.2.2)).1 * s) + dx), wr (wr ((rotA t.toNat (sel m (wr (wr (0 - r.1) - r.2.2.1)) r.1, r.2.1, r.2.2.1, r.2.2.2)).2.1 * s) + dy), wr ((rotA t.toNat (sel m (wr (wr (0 - r.1) - r.2.2.1)) r.1, r.2.1, r.2.2.1, r.2.2.2)).2.2.1 * s), wr ((rotA t.toNat (sel m (wr (wr (0 - r.1) - r.2.2.1)) r.1, r.2.1, r.2.2.1, r.2.2.2)).2.2.2 * s))
theorem notBadT {t s x y : Int} {c : Bool} (h : (sel (badT t s x y) 1 0 != 0 || c) = false) : badT t s x y = false := by
  cases hb : badT t s x y with
  | false => rfl
  | true => rw [hb] at h; simp [sel] at h
theorem badT_f {t s x y : Int} (h : badT t s x y = false) : 0 ≤ t ∧ t ≤ 3 ∧ 1 ≤ s ∧ s ≤ 16 ∧ -1048576 ≤ x ∧ x ≤ 1048576 ∧ -1048576 ≤ y ∧ y ≤ 1048576 := by
  simp only [badT, within, Bool.or_eq_false_iff, decide_eq_false_iff_not, Bool.not_eq_false', Bool.and_eq_true, decide_eq_true_eq] at h
  have e : wr (0 - 1048576) = -1048576 := by decide
  rw [e] at h
  omega
theorem okT_t {t s x y : Int} (h : okT t s x y = true) : 0 ≤ t ∧ t ≤ 3 ∧ 1 ≤ s ∧ s ≤ 16 ∧ -1048576 ≤ x ∧ x ≤ 1048576 ∧ -1048576 ≤ y ∧ y ≤ 1048576 := by
  simp only [okT, within, Bool.and_eq_true, decide_eq_true_eq] at h
  have e : wr (0 - 1048576) = -1048576 := by decide
  rw [e] at h
  omega
theorem notOkT {t s x y : Int} {c : Bool} (h : (!okT t s x y || c) = false) : okT t s x y = true := by
  cases hb : okT t s x y with
  | true => rfl
  | false => rw [hb] at h; simp at h
theorem Apply_p (t : Int) (m : Bool) (s dx dy x y u v : Int) : Pure Try.prog 11 [.agg #[.int .i64 t, .bool m, .int .i64 s, .int .i64 dx, .int .i64 dy], .agg #[.int .i64 x, .int .i64 y, .int .i64 u, .int .i64 v]] (.agg #[.int .i64 (appP t m s dx dy (x, y, u, v)).1, .int .i64 (appP t m s dx dy (x, y, u, v)).2.1, .int .i64 (appP t m s dx dy (x, y, u, v)).2.2.1, .int .i64 (appP t m s dx dy (x, y, u, v)).2.2.2]) := by
  refine Pure.of_ok 70 [.cell 4 23] [(0, .s (.agg [.v (.int .i64 t), .v (.bool m), .v (.int .i64 s), .v (.int .i64 dx), .v (.int .i64 dy)])), (1, .s (.agg [.v (.int .i64 x), .v (.int .i64 y), .v (.int .i64 u), .v (.int .i64 v)]))] Try.func11 rfl rfl rfl rfl rfl fun w => ?_
  refine Ok.seq ?_
  refine Ok.region ?_
  refine OkOps.m 1 (triBox (j := 0) (cs := [.v (.int _ _), .v (.bool _), .v (.int _ _), .v (.int _ _), .v (.int _ _)]) rfl rfl rfl rfl rfl) ?_
  refine OkOps.m 2 (triBox (j := 1) (cs := [.v (.int _ _), .v (.int _ _), .v (.int _ _), .v (.int _ _)]) rfl rfl rfl rfl rfl) ?_
  refine OkOps.m 3 (triAlloc (j := 2) (cs := [.v (.int _ _), .v (.int _ _), .v (.int _ _), .v (.int _ _)]) rfl rfl rfl rfl) ?_
  refine OkOps.nil ?_
  refine Ok.seq ?_
  refine Ok.seq ?_
  refine Ok.region ?_
  refine OkOps.q (triQ (x := .agg [.v (.int _ _), .v (.bool _), .v (.int _ _), .v (.int _ _), .v (.int _ _)]) rfl trivial rfl) ?_
  refine OkOps.q (triCallP (x := .s (.c (.v (.int _ _)))) rfl trivial entry17 (Check_p _ _ _ _ _) rfl rfl) ?_
  refine OkOps.q (triQ (x := .c (.v (.bool _))) rfl trivial rfl) ?_
  refine OkOps.q (triQ (x := .c (.v (.bool _))) rfl trivial rfl) ?_
  refine OkOps.q (triQG (x := .agg [.v (.int _ _), .v (.int _ _), .v (.int _ _), .v (.int _ _)]) rfl rfl trivial rfl) ?_
  refine OkOps.q (triCallPG (x := .c (.v (.int _ _))) rfl rfl ⟨fun h => h, trivial⟩ entry25 (fun _ => Validate_p _ _ _ _) rfl rfl) ?_
  refine OkOps.q (triQG (x := .c (.v (.bool _))) rfl rfl ⟨fun h => h, trivial⟩ rfl) ?_
  refine OkOps.q (triOr rfl rfl (fun h => by rw [h]; rfl) rfl) ?_
  refine OkOps.nil ?_
  refine Ok.cond rfl (fun h1 => ?_) (fun h1 => ?_)
  · refine Ok.seq ?_
    refine Ok.region ?_
    refine OkOps.q (triQ (x := .agg [.v (.int _ _), .v (.int _ _), .v (.int _ _), .v (.int _ _)]) rfl trivial rfl) ?_
    refine OkOps.w (triStore (cs' := [.v (.int _ _), .v (.int _ _), .v (.int _ _), .v (.int _ _)]) rfl rfl rfl rfl rfl rfl rfl rfl rfl) ?_
    refine OkOps.nil ?_
    refine Ok.ret ?_
    exact ⟨_, rfl, by show _ = ofR _; rw [show appP t m s dx dy (x, y, u, v) = _ from selQ_t h1 _ _]; rfl⟩
  · have ht := (badT_f (notBadT h1)).1
    have ht3 := (badT_f (notBadT h1)).2.1
    refine Ok.skip ?_
    refine Ok.seq ?_
    refine Ok.seq ?_
    refine Ok.region ?_
    refine OkOps.q (triQ (x := .c (.loc 0 1)) rfl trivial rfl) ?_
    refine OkOps.q (triQ (x := .c (.v (.bool _))) rfl trivial rfl) ?_
    refine OkOps.nil ?_
    refine Ok.join [2, 3, 4] [0, 2] [] [(1, .blk [.v (.int .i64 (sel m (wr (wr (0 - x) - u)) x)), .v (.int .i64 y), .v (.int .i64 u), .v (.int .i64 v)] 23)] 3 rfl (fun h2 => ?_) (fun h2 => ?_) ?_
    · refine Ok.region ?_
      refine OkOps.q (triQ (x := .c (.loc 1 0)) rfl trivial rfl) ?_
      refine OkOps.q (triQ (x := .c (.v (.int _ _))) rfl trivial rfl) ?_
      refine OkOps.q (triQ (x := .c (.v (.int _ _))) rfl trivial rfl) ?_
      refine OkOps.q (triQ (x := .c (.loc 1 2)) rfl trivial rfl) ?_
      refine OkOps.q (triQ (x := .c (.v (.int _ _))) rfl trivial rfl) ?_
      refine OkOps.q (triQ (x := .c (.v (.int _ _))) rfl trivial rfl) ?_
      refine OkOps.q (triQ (x := .c (.loc 1 0)) rfl trivial rfl) ?_
      refine OkOps.w (triStore (cs' := [.v (.int _ _), .v (.int _ _), .v (.int _ _), .v (.int _ _)]) rfl rfl rfl rfl rfl rfl rfl rfl rfl) ?_
      refine OkOps.nil ?_
      exact Less.mk' ⟨rfl, rfl, rfl, trivial⟩ ⟨(by rw [sel_t h2]; rfl), rfl, rfl, trivial⟩ rfl
    · refine Ok.skip ?_
      exact Less.mk' ⟨rfl, rfl, rfl, trivial⟩ ⟨(by rw [sel_f h2]; rfl), rfl, rfl, trivial⟩ rfl
    show Ok _ _ _ _ ⟨[(2, .s (.c (.loc 0 0))), (3, .s (.c (.loc 1 0))), (4, .s (.c (.loc 2 0)))], [(1, .blk [.v (.int .i64 (sel m (wr (wr (0 - x) - u)) x)), .v (.int .i64 y), .v (.int .i64 u), .v (.int .i64 v)] 23), (0, .blk [.v (.int _ _), .v (.bool _), .v (.int _ _), .v (.int _ _), .v (.int _ _)] _), (2, .blk [.v (.int _ _), .v (.int _ _), .v (.int _ _), .v (.int _ _)] _)], 3⟩
    refine Ok.seq ?_
    refine Ok.seq ?_
    refine Ok.region ?_
    refine OkOps.q (triQ (x := .c (.v (.int _ _))) rfl trivial rfl) ?_
    refine OkOps.nil ?_
    refine Ok.block ?_
    refine Ok.loopK (X := Nat) [2, 3, 4] [0, 2] (fun k => [(5, .s (.c (.v (.int .i64 ((k : Nat) : Int)))))]) (fun k => [(1, .blk [.v (.int .i64 (rotA k (sel m (wr (wr (0 - x) - u)) x, y, u, v)).1), .v (.int .i64 (rotA k (sel m (wr (wr (0 - x) - u)) x, y, u, v)).2.1), .v (.int .i64 (rotA k (sel m (wr (wr (0 - x) - u)) x, y, u, v)).2.2.1), .v (.int .i64 (rotA k (sel m (wr (wr (0 - x) - u)) x, y, u, v)).2.2.2)] 23)]) (fun k => (k : Int) ≤ t) (fun k => t.toNat - k) 0 (by simpa using ht) (Less.mk' ⟨rfl, rfl, rfl, rfl, trivial⟩ ⟨rfl, rfl, rfl, trivial⟩ rfl) (fun k hI => ?_)
    show Ok _ _ _ _ ⟨[(5, .s (.c (.v (.int .i64 ((k : Nat) : Int))))), (2, .s (.c (.loc 0 0))), (3, .s (.c (.loc 1 0))), (4, .s (.c (.loc 2 0)))], [(1, .blk [.v (.int .i64 (rotA k (sel m (wr (wr (0 - x) - u)) x, y, u, v)).1), .v (.int .i64 (rotA k (sel m (wr (wr (0 - x) - u)) x, y, u, v)).2.1), .v (.int .i64 (rotA k (sel m (wr (wr (0 - x) - u)) x, y, u, v)).2.2.1), .v (.int .i64 (rotA k (sel m (wr (wr (0 - x) - u)) x, y, u, v)).2.2.2)] 23), (0, .blk [.v (.int _ _), .v (.bool _), .v (.int _ _), .v (.int _ _), .v (.int _ _)] _), (2, .blk [.v (.int _ _), .v (.int _ _), .v (.int _ _), .v (.int _ _)] _)], 3⟩
    have hI : (k : Int) ≤ t := hI
    refine Ok.seq ?_
    refine Ok.seq ?_
    refine Ok.region ?_
    refine OkOps.q (triQ (x := .c (.v (.int _ _))) rfl trivial rfl) ?_
    refine OkOps.q (triQ (x := .c (.loc 0 0)) rfl trivial rfl) ?_
    refine OkOps.q (triQ (x := .c (.v (.int _ _))) rfl trivial rfl) ?_
    refine OkOps.q (triQ (x := .c (.v (.bool _))) rfl trivial rfl) ?_
    refine OkOps.nil ?_
    refine Ok.cond rfl (fun h3 => ?_) (fun h3 => ?_)
    · refine Ok.skip ?_
      refine Ok.seq ?_
      refine Ok.block ?_
      refine Ok.region ?_
      refine OkOps.q (triQ (x := .c (.loc 1 1)) rfl trivial rfl) ?_
      refine OkOps.q (triQ (x := .c (.v (.int _ _))) rfl trivial rfl) ?_
      refine OkOps.q (triQ (x := .c (.v (.int _ _))) rfl trivial rfl) ?_
      refine OkOps.q (triQ (x := .c (.loc 1 3)) rfl trivial rfl) ?_
      refine OkOps.q (triQ (x := .c (.v (.int _ _))) rfl trivial rfl) ?_
      refine OkOps.q (triQ (x := .c (.v (.int _ _))) rfl trivial rfl) ?_
      refine OkOps.q (triQ (x := .c (.loc 1 0)) rfl trivial rfl) ?_
      refine OkOps.q (triQ (x := .c (.v (.int _ _))) rfl trivial rfl) ?_
      refine OkOps.q (triQ (x := .c (.loc 1 3)) rfl trivial rfl) ?_
      refine OkOps.q (triQ (x := .c (.v (.int _ _))) rfl trivial rfl) ?_
      refine OkOps.q (triQ (x := .c (.loc 1 2)) rfl trivial rfl) ?_
      refine OkOps.q (triQ (x := .c (.v (.int _ _))) rfl trivial rfl) ?_
      refine OkOps.q (triQ (x := .agg [.v (.int _ _), .v (.int _ _), .v (.int _ _), .v (.int _ _)]) rfl trivial rfl) ?_
      refine OkOps.w (triStore (cs' := [.v (.int _ _), .v (.int _ _), .v (.int _ _), .v (.int _ _)]) rfl rfl rfl rfl rfl rfl rfl rfl rfl) ?_
      refine OkOps.nil ?_
      refine Ok.region ?_
      refine OkOps.q (triQ (x := .c (.v (.int _ _))) rfl trivial rfl) ?_
      refine OkOps.q (triQ (x := .c (.v (.int _ _))) rfl trivial rfl) ?_
      refine OkOps.q (triQ (x := .c (.v (.int _ _))) rfl trivial rfl) ?_
      refine OkOps.nil ?_
      exact ⟨k + 1, by simp at h3; omega, by simp at h3; omega, Less.mk' ⟨(by rw [show ((k + 1 : Nat) : Int) = IntKind.i64.wrap ((k : Int) + 1) from by rw [wrap_id (by omega) (by simp at h3; omega)]; omega]; rfl), rfl, rfl, rfl, trivial⟩ ⟨rfl, rfl, rfl, trivial⟩ rfl⟩
    · obtain rfl : k = t.toNat := by simp at h3; omega
      refine Ok.exit ?_
      refine Ok.seq ?_
      refine Ok.region ?_
      refine OkOps.q (triQ (x := .c (.loc 1 0)) rfl trivial rfl) ?_
      refine OkOps.q (triQ (x := .c (.v (.int _ _))) rfl trivial rfl) ?_
      refine OkOps.q (triQ (x := .c (.loc 0 2)) rfl trivial rfl) ?_
      refine OkOps.q (triQ (x := .c (.v (.int _ _))) rfl trivial rfl) ?_
      refine OkOps.q (triQ (x := .c (.v (.int _ _))) rfl trivial rfl) ?_
      refine OkOps.q (triQ (x := .c (.loc 0 3)) rfl trivial rfl) ?_
      refine OkOps.q (triQ (x := .c (.v (.int _ _))) rfl trivial rfl) ?_
      refine OkOps.q (triQ (x := .c (.v (.int _ _))) rfl trivial rfl) ?_
      refine OkOps.q (triQ (x := .c (.loc 1 1)) rfl trivial rfl) ?_
      refine OkOps.q (triQ (x := .c (.v (.int _ _))) rfl trivial rfl) ?_
      refine OkOps.q (triQ (x := .c (.loc 0 2)) rfl trivial rfl) ?_
      refine OkOps.q (triQ (x := .c (.v (.int _ _))) rfl trivial rfl) ?_
      refine OkOps.q (triQ (x := .c (.v (.int _ _))) rfl trivial rfl) ?_
      refine OkOps.q (triQ (x := .c (.loc 0 4)) rfl trivial rfl) ?_
      refine OkOps.q (triQ (x := .c (.v (.int _ _))) rfl trivial rfl) ?_
      refine OkOps.q (triQ (x := .c (.v (.int _ _))) rfl trivial rfl) ?_
      refine OkOps.q (triQ (x := .c (.loc 1 2)) rfl trivial rfl) ?_
      refine OkOps.q (triQ (x := .c (.v (.int _ _))) rfl trivial rfl) ?_
      refine OkOps.q (triQ (x := .c (.loc 0 2)) rfl trivial rfl) ?_
      refine OkOps.q (triQ (x := .c (.v (.int _ _))) rfl trivial rfl) ?_
      refine OkOps.q (triQ (x := .c (.v (.int _ _))) rfl trivial rfl) ?_
      refine OkOps.q (triQ (x := .c (.loc 1 3)) rfl trivial rfl) ?_
      refine OkOps.q (triQ (x := .c (.v (.int _ _))) rfl trivial rfl) ?_
      refine OkOps.q (triQ (x := .c (.loc 0 2)) rfl trivial rfl) ?_
      refine OkOps.q (triQ (x := .c (.v (.int _ _))) rfl trivial rfl) ?_
      refine OkOps.q (triQ (x := .c (.v (.int _ _))) rfl trivial rfl) ?_
      refine OkOps.q (triQ (x := .agg [.v (.int _ _), .v (.int _ _), .v (.int _ _), .v (.int _ _)]) rfl trivial rfl) ?_
      refine OkOps.w (triStore (cs' := [.v (.int _ _), .v (.int _ _), .v (.int _ _), .v (.int _ _)]) rfl rfl rfl rfl rfl rfl rfl rfl rfl) ?_
      refine OkOps.nil ?_
      refine Ok.ret ?_
      exact ⟨_, rfl, by show _ = ofR _; rw [show appP t m s dx dy (x, y, u, v) = _ from selQ_f h1 _ _]; rfl⟩
theorem entry11 : Entry Try.prog 11 := ⟨_, Try.func11, by kernel_rfl, by kernel_rfl⟩
def backP (t : Int) (m : Bool) (s dx dy p q : Int) : Int × Int := if (sel (badT t s dx dy) 1 0 != 0 || !within p 2097152 || !within q 2097152) = true then (0, 0) else
  (sel m (wr (wr (0 - (rotB t.toNat (floorG (wr (p - dx)) s) (floorG (wr (q - dy)) s)).1) - 1)) (rotB t.toNat (floorG (wr (p - dx)) s) (floorG (wr (q - dy)) s)).1, (rotB t.toNat (floorG (wr (p - dx)) s) (floorG (wr (q - dy)) s)).2)
def backR (t : Int) (m : Bool) (s dx dy p q : Int) : Int × Int := if (!okT t s dx dy || !(within p 2097152 && within q 2097152)) = true then (0, 0) else
  (sel m (wr (wr (0 - (rotB t.toNat (floorR (wr (p - dx)) s) (floorR (wr (q - dy)) s)).1) - 1)) (rotB t.toNat (floorR (wr (p - dx)) s) (floorR (wr (q - dy)) s)).1, (rotB t.toNat (floorR (wr (p - dx)) s) (floorR (wr (q - dy)) s)).2)
theorem Back_p (t : Int) (m : Bool) (s dx dy p q : Int) : Pure Try.prog 14 [.agg #[.int .i64 t, .bool m, .int .i64 s, .int .i64 dx, .int .i64 dy], .agg #[.int .i64 p, .int .i64 q]] (.agg #[.int .i64 (backP t m s dx dy p q).1, .int .i64 (backP t m s dx dy p q).2]) := by
  refine Pure.of_ok 61 [.cell 4 31] [(0, .s (.agg [.v (.int .i64 t), .v (.bool m), .v (.int .i64 s), .v (.int .i64 dx), .v (.int .i64 dy)])), (1, .s (.agg [.v (.int .i64 p), .v (.int .i64 q)]))] Try.func14 rfl rfl rfl rfl rfl fun w => ?_
  refine Ok.seq ?_
  refine Ok.region ?_
  refine OkOps.m 1 (triBox (j := 0) (cs := [.v (.int _ _), .v (.bool _), .v (.int _ _), .v (.int _ _), .v (.int _ _)]) rfl rfl rfl rfl rfl) ?_
  refine OkOps.m 2 (triBox (j := 1) (cs := [.v (.int _ _), .v (.int _ _)]) rfl rfl rfl rfl rfl) ?_
  refine OkOps.m 3 (triAlloc (j := 2) (cs := [.v (.int _ _), .v (.int _ _)]) rfl rfl rfl rfl) ?_
  refine OkOps.nil ?_
  refine Ok.seq ?_
  refine Ok.seq ?_
  refine Ok.region ?_
  refine OkOps.q (triQ (x := .agg [.v (.int _ _), .v (.bool _), .v (.int _ _), .v (.int _ _), .v (.int _ _)]) rfl trivial rfl) ?_
  refine OkOps.q (triCallP (x := .s (.c (.v (.int _ _)))) rfl trivial entry17 (Check_p _ _ _ _ _) rfl rfl) ?_
  refine OkOps.q (triQ (x := .c (.v (.bool _))) rfl trivial rfl) ?_
  refine OkOps.q (triQ (x := .c (.v (.bool _))) rfl trivial rfl) ?_
  refine OkOps.q (triQG (x := .c (.loc 1 0)) rfl rfl trivial rfl) ?_
  refine OkOps.q (triQG (x := .c (.v (.int _ _))) rfl rfl ⟨fun h => h, trivial⟩ rfl) ?_
  refine OkOps.q (triCallPG (x := .c (.v (.bool _))) rfl rfl ⟨fun h => h, trivial⟩ entry35 (fun _ => within_p _ _) rfl rfl) ?_
  refine OkOps.q (triQG (x := .c (.v (.bool _))) rfl rfl ⟨fun h => h, trivial⟩ rfl) ?_
  refine OkOps.q (triOr rfl rfl (fun h => by rw [h]; rfl) rfl) ?_
  refine OkOps.q (triQ (x := .c (.v (.bool _))) rfl trivial rfl) ?_
  refine OkOps.q (triQG (x := .c (.loc 1 1)) rfl rfl trivial rfl) ?_
  refine OkOps.q (triQG (x := .c (.v (.int _ _))) rfl rfl ⟨fun h => h, trivial⟩ rfl) ?_
  refine OkOps.q (triCallPG (x := .c (.v (.bool _))) rfl rfl ⟨fun h => h, trivial⟩ entry35 (fun _ => within_p _ _) rfl rfl) ?_
  refine OkOps.q (triQG (x := .c (.v (.bool _))) rfl rfl ⟨fun h => h, trivial⟩ rfl) ?_
  refine OkOps.q (triOr rfl rfl (fun h => by rw [h]; rfl) rfl) ?_
  refine OkOps.nil ?_
  refine Ok.cond rfl (fun h1 => ?_) (fun h1 => ?_)
  · refine Ok.seq ?_
    refine Ok.region ?_
    refine OkOps.q (triQ (x := .agg [.v (.int _ _), .v (.int _ _)]) rfl trivial rfl) ?_
    refine OkOps.w (triStore (cs' := [.v (.int _ _), .v (.int _ _)]) rfl rfl rfl rfl rfl rfl rfl rfl rfl) ?_
    refine OkOps.nil ?_
    refine Ok.ret ?_
    exact ⟨_, rfl, by show _ = ofR _; rw [show backP t m s dx dy p q = _ from if_pos h1]; rfl⟩
  · have hb := badT_f (notBadT (c := !within p 2097152 || !within q 2097152) (by rw [← Bool.or_assoc]; exact h1))
    have ht := hb.1
    have ht3 := hb.2.1
    have hs := hb.2.2.1
    refine Ok.skip ?_
    refine Ok.seq ?_
    refine Ok.regionD (by kernel_rfl) ?_
    refine OkD.q (triQ (x := .c (.loc 1 0)) rfl trivial rfl) ?_
    refine OkD.q (triQ (x := .c (.v (.int _ _))) rfl trivial rfl) ?_
    refine OkD.q (triQ (x := .c (.loc 0 3)) rfl trivial rfl) ?_
    refine OkD.q (triQ (x := .c (.v (.int _ _))) rfl trivial rfl) ?_
    refine OkD.q (triQ (x := .c (.v (.int _ _))) rfl trivial rfl) ?_
    refine OkD.q (triQ (x := .c (.loc 0 2)) rfl trivial rfl) ?_
    refine OkD.q (triQ (x := .c (.v (.int _ _))) rfl trivial rfl) ?_
    refine OkD.q (triCallP (x := .s (.c (.v (.int _ _)))) rfl trivial entry36 (floor_p _ _ (by omega)) rfl rfl) ?_
    refine OkD.q (triQ (x := .c (.loc 1 1)) rfl trivial rfl) ?_
    refine OkD.q (triQ (x := .c (.v (.int _ _))) rfl trivial rfl) ?_
    refine OkD.q (triQ (x := .c (.loc 0 4)) rfl trivial rfl) ?_
    refine OkD.q (triQ (x := .c (.v (.int _ _))) rfl trivial rfl) ?_
    refine OkD.q (triQ (x := .c (.v (.int _ _))) rfl trivial rfl) ?_
    refine OkD.q (triQ (x := .c (.loc 0 2)) rfl trivial rfl) ?_
    refine OkD.q (triQ (x := .c (.v (.int _ _))) rfl trivial rfl) ?_
    refine OkD.q (triCallP (x := .s (.c (.v (.int _ _)))) rfl trivial entry36 (floor_p _ _ (by omega)) rfl rfl) ?_
    refine OkD.q (triQ (x := .agg [.v (.int _ _), .v (.int _ _)]) rfl trivial rfl) ?_
    refine OkD.m 4 (triAlloc (j := 3) (cs := [.v (.int _ _), .v (.int _ _)]) rfl rfl rfl rfl) ?_
    refine OkD.w (triStore (cs' := [.v (.int _ _), .v (.int _ _)]) rfl rfl rfl rfl rfl rfl rfl rfl rfl) ?_
    refine OkD.nil (by kernel_rfl) ?_
    refine Ok.seq ?_
    refine Ok.seq ?_
    refine Ok.region ?_
    refine OkOps.q (triQ (x := .c (.v (.int _ _))) rfl trivial rfl) ?_
    refine OkOps.nil ?_
    refine Ok.block ?_
    refine Ok.loopK (X := Nat) [2, 4, 5] [0, 2] (fun k => [(6, .s (.c (.v (.int .i64 ((k : Nat) : Int)))))]) (fun k => [(3, .blk [.v (.int .i64 (rotB k (floorG (wr (p - dx)) s) (floorG (wr (q - dy)) s)).1), .v (.int .i64 (rotB k (floorG (wr (p - dx)) s) (floorG (wr (q - dy)) s)).2)] 31)]) (fun k => (k : Int) ≤ t) (fun k => t.toNat - k) 0 (by simpa using ht) (Less.mk' ⟨rfl, rfl, rfl, rfl, trivial⟩ ⟨rfl, rfl, rfl, trivial⟩ rfl) (fun k hI => ?_)
    show Ok _ _ _ _ ⟨[(6, .s (.c (.v (.int .i64 ((k : Nat) : Int))))), (2, .s (.c (.loc 0 0))), (4, .s (.c (.loc 2 0))), (5, .s (.c (.loc 3 0)))], [(3, .blk [.v (.int .i64 (rotB k (floorG (wr (p - dx)) s) (floorG (wr (q - dy)) s)).1), .v (.int .i64 (rotB k (floorG (wr (p - dx)) s) (floorG (wr (q - dy)) s)).2)] 31), (0, .blk [.v (.int _ _), .v (.bool _), .v (.int _ _), .v (.int _ _), .v (.int _ _)] _), (2, .blk [.v (.int _ _), .v (.int _ _)] _)], 4⟩
    have hI : (k : Int) ≤ t := hI
    refine Ok.seq ?_
    refine Ok.seq ?_
    refine Ok.region ?_
    refine OkOps.q (triQ (x := .c (.v (.int _ _))) rfl trivial rfl) ?_
    refine OkOps.q (triQ (x := .c (.loc 0 0)) rfl trivial rfl) ?_
    refine OkOps.q (triQ (x := .c (.v (.int _ _))) rfl trivial rfl) ?_
    refine OkOps.q (triQ (x := .c (.v (.bool _))) rfl trivial rfl) ?_
    refine OkOps.nil ?_
    refine Ok.cond rfl (fun h2 => ?_) (fun h2 => ?_)
    · refine Ok.skip ?_
      refine Ok.seq ?_
      refine Ok.block ?_
      refine Ok.region ?_
      refine OkOps.q (triQ (x := .c (.loc 3 1)) rfl trivial rfl) ?_
      refine OkOps.q (triQ (x := .c (.v (.int _ _))) rfl trivial rfl) ?_
      refine OkOps.q (triQ (x := .c (.loc 3 0)) rfl trivial rfl) ?_
      refine OkOps.q (triQ (x := .c (.v (.int _ _))) rfl trivial rfl) ?_
      refine OkOps.q (triQ (x := .c (.v (.int _ _))) rfl trivial rfl) ?_
      refine OkOps.q (triQ (x := .c (.v (.int _ _))) rfl trivial rfl) ?_
      refine OkOps.q (triQ (x := .agg [.v (.int _ _), .v (.int _ _)]) rfl trivial rfl) ?_
      refine OkOps.w (triStore (cs' := [.v (.int _ _), .v (.int _ _)]) rfl rfl rfl rfl rfl rfl rfl rfl rfl) ?_
      refine OkOps.nil ?_
      refine Ok.region ?_
      refine OkOps.q (triQ (x := .c (.v (.int _ _))) rfl trivial rfl) ?_
      refine OkOps.q (triQ (x := .c (.v (.int _ _))) rfl trivial rfl) ?_
      refine OkOps.q (triQ (x := .c (.v (.int _ _))) rfl trivial rfl) ?_
      refine OkOps.nil ?_
      exact ⟨k + 1, by simp at h2; omega, by simp at h2; omega, Less.mk' ⟨(by rw [show ((k + 1 : Nat) : Int) = IntKind.i64.wrap ((k : Int) + 1) from by rw [wrap_id (by omega) (by simp at h2; omega)]; omega]; rfl), rfl, rfl, rfl, trivial⟩ ⟨rfl, rfl, rfl, trivial⟩ rfl⟩
    · obtain rfl : k = t.toNat := by simp at h2; omega
      refine Ok.exit ?_
      refine Ok.seq ?_
      refine Ok.seq ?_
      refine Ok.region ?_
      refine OkOps.q (triQ (x := .c (.loc 0 1)) rfl trivial rfl) ?_
      refine OkOps.q (triQ (x := .c (.v (.bool _))) rfl trivial rfl) ?_
      refine OkOps.nil ?_
      refine Ok.join [4, 5] [2] [] [(3, .blk [.v (.int .i64 (sel m (wr (wr (0 - (rotB t.toNat (floorG (wr (p - dx)) s) (floorG (wr (q - dy)) s)).1) - 1)) (rotB t.toNat (floorG (wr (p - dx)) s) (floorG (wr (q - dy)) s)).1)), .v (.int .i64 (rotB t.toNat (floorG (wr (p - dx)) s) (floorG (wr (q - dy)) s)).2)] 31)] 4 rfl (fun h3 => ?_) (fun h3 => ?_) ?_
      · refine Ok.region ?_
        refine OkOps.q (triQ (x := .c (.loc 3 0)) rfl trivial rfl) ?_
        refine OkOps.q (triQ (x := .c (.v (.int _ _))) rfl trivial rfl) ?_
        refine OkOps.q (triQ (x := .c (.v (.int _ _))) rfl trivial rfl) ?_
        refine OkOps.q (triQ (x := .c (.v (.int _ _))) rfl trivial rfl) ?_
        refine OkOps.q (triQ (x := .c (.loc 3 0)) rfl trivial rfl) ?_
        refine OkOps.w (triStore (cs' := [.v (.int _ _), .v (.int _ _)]) rfl rfl rfl rfl rfl rfl rfl rfl rfl) ?_
        refine OkOps.nil ?_
        exact Less.mk' ⟨rfl, rfl, trivial⟩ ⟨(by rw [sel_t h3]; rfl), rfl, trivial⟩ rfl
      · refine Ok.skip ?_
        exact Less.mk' ⟨rfl, rfl, trivial⟩ ⟨(by rw [sel_f h3]; rfl), rfl, trivial⟩ rfl
      show Ok _ _ _ _ ⟨[(4, .s (.c (.loc 2 0))), (5, .s (.c (.loc 3 0)))], [(3, .blk [.v (.int .i64 (sel m (wr (wr (0 - (rotB t.toNat (floorG (wr (p - dx)) s) (floorG (wr (q - dy)) s)).1) - 1)) (rotB t.toNat (floorG (wr (p - dx)) s) (floorG (wr (q - dy)) s)).1)), .v (.int .i64 (rotB t.toNat (floorG (wr (p - dx)) s) (floorG (wr (q - dy)) s)).2)] 31), (2, .blk [.v (.int _ _), .v (.int _ _)] _)], 4⟩
      refine Ok.seq ?_
      refine Ok.region ?_
      refine OkOps.q (triQ (x := .agg [.v (.int _ _), .v (.int _ _)]) rfl trivial rfl) ?_
      refine OkOps.w (triStore (cs' := [.v (.int _ _), .v (.int _ _)]) rfl rfl rfl rfl rfl rfl rfl rfl rfl) ?_
      refine OkOps.nil ?_
      refine Ok.ret ?_
      exact ⟨_, rfl, by show _ = ofR _; rw [show backP t m s dx dy p q = _ from if_neg (by rw [h1]; simp)]; rfl⟩
theorem entry14 : Entry Try.prog 14 := ⟨_, Try.func14, by kernel_rfl, by kernel_rfl⟩
theorem rBack_p (t : Int) (m : Bool) (s dx dy p q : Int) : Pure Try.prog 20 [.agg #[.int .i64 t, .bool m, .int .i64 s, .int .i64 dx, .int .i64 dy], .agg #[.int .i64 p, .int .i64 q]] (.agg #[.int .i64 (backR t m s dx dy p q).1, .int .i64 (backR t m s dx dy p q).2]) := by
  refine Pure.of_ok 51 [.cell 4 31] [(0, .s (.agg [.v (.int .i64 t), .v (.bool m), .v (.int .i64 s), .v (.int .i64 dx), .v (.int .i64 dy)])), (1, .s (.agg [.v (.int .i64 p), .v (.int .i64 q)]))] Try.func20 rfl rfl rfl rfl rfl fun w => ?_
  refine Ok.seq ?_
  refine Ok.region ?_
  refine OkOps.m 1 (triBox (j := 0) (cs := [.v (.int _ _), .v (.bool _), .v (.int _ _), .v (.int _ _), .v (.int _ _)]) rfl rfl rfl rfl rfl) ?_
  refine OkOps.m 2 (triBox (j := 1) (cs := [.v (.int _ _), .v (.int _ _)]) rfl rfl rfl rfl rfl) ?_
  refine OkOps.m 3 (triAlloc (j := 2) (cs := [.v (.int _ _), .v (.int _ _)]) rfl rfl rfl rfl) ?_
  refine OkOps.nil ?_
  refine Ok.seq ?_
  refine Ok.seq ?_
  refine Ok.region ?_
  refine OkOps.q (triQ (x := .agg [.v (.int _ _), .v (.bool _), .v (.int _ _), .v (.int _ _), .v (.int _ _)]) rfl trivial rfl) ?_
  refine OkOps.q (triCallP (x := .s (.c (.v (.bool _)))) rfl trivial entry18 (ValidTransform_p _ _ _ _ _) rfl rfl) ?_
  refine OkOps.q (triQ (x := .c (.v (.bool _))) rfl trivial rfl) ?_
  refine OkOps.q (triQ (x := .c (.v (.bool _))) rfl trivial rfl) ?_
  refine OkOps.q (triQG (x := .agg [.v (.int _ _), .v (.int _ _)]) rfl rfl trivial rfl) ?_
  refine OkOps.q (triCallPG (x := .c (.v (.bool _))) rfl rfl ⟨fun h => h, trivial⟩ entry40 (fun _ => ValidPoint_p _ _) rfl rfl) ?_
  refine OkOps.q (triQG (x := .c (.v (.bool _))) rfl rfl ⟨fun h => h, trivial⟩ rfl) ?_
  refine OkOps.q (triOr rfl rfl (fun h => by rw [h]; rfl) rfl) ?_
  refine OkOps.nil ?_
  refine Ok.cond rfl (fun h1 => ?_) (fun h1 => ?_)
  · refine Ok.seq ?_
    refine Ok.region ?_
    refine OkOps.q (triQ (x := .agg [.v (.int _ _), .v (.int _ _)]) rfl trivial rfl) ?_
    refine OkOps.w (triStore (cs' := [.v (.int _ _), .v (.int _ _)]) rfl rfl rfl rfl rfl rfl rfl rfl rfl) ?_
    refine OkOps.nil ?_
    refine Ok.ret ?_
    exact ⟨_, rfl, by show _ = ofR _; rw [show backR t m s dx dy p q = _ from if_pos h1]; rfl⟩
  · have hb := okT_t (notOkT h1)
    have ht := hb.1
    have ht3 := hb.2.1
    have hs := hb.2.2.1
    refine Ok.skip ?_
    refine Ok.seq ?_
    refine Ok.regionD (by kernel_rfl) ?_
    refine OkD.q (triQ (x := .c (.loc 1 0)) rfl trivial rfl) ?_
    refine OkD.q (triQ (x := .c (.v (.int _ _))) rfl trivial rfl) ?_
    refine OkD.q (triQ (x := .c (.loc 0 3)) rfl trivial rfl) ?_
    refine OkD.q (triQ (x := .c (.v (.int _ _))) rfl trivial rfl) ?_
    refine OkD.q (triQ (x := .c (.v (.int _ _))) rfl trivial rfl) ?_
    refine OkD.q (triQ (x := .c (.loc 0 2)) rfl trivial rfl) ?_
    refine OkD.q (triQ (x := .c (.v (.int _ _))) rfl trivial rfl) ?_
    refine OkD.q (triCallP (x := .s (.c (.v (.int _ _)))) rfl trivial entry41 (rFloor_p _ _) rfl rfl) ?_
    refine OkD.q (triQ (x := .c (.loc 1 1)) rfl trivial rfl) ?_
    refine OkD.q (triQ (x := .c (.v (.int _ _))) rfl trivial rfl) ?_
    refine OkD.q (triQ (x := .c (.loc 0 4)) rfl trivial rfl) ?_
    refine OkD.q (triQ (x := .c (.v (.int _ _))) rfl trivial rfl) ?_
    refine OkD.q (triQ (x := .c (.v (.int _ _))) rfl trivial rfl) ?_
    refine OkD.q (triQ (x := .c (.loc 0 2)) rfl trivial rfl) ?_
    refine OkD.q (triQ (x := .c (.v (.int _ _))) rfl trivial rfl) ?_
    refine OkD.q (triCallP (x := .s (.c (.v (.int _ _)))) rfl trivial entry41 (rFloor_p _ _) rfl rfl) ?_
    refine OkD.q (triQ (x := .c (.v (.int _ _))) rfl trivial rfl) ?_
    refine OkD.q (triQ (x := .c (.v (.int _ _))) rfl trivial rfl) ?_
    refine OkD.nil (by kernel_rfl) ?_
    refine Ok.seq ?_
    refine Ok.seq ?_
    refine Ok.region ?_
    refine OkOps.q (triQ (x := .c (.v (.int _ _))) rfl trivial rfl) ?_
    refine OkOps.nil ?_
    refine Ok.block ?_
    refine Ok.loopK (X := Nat) [2, 4] [0, 2] (fun k => [(5, .s (.c (.v (.int .i64 (rotB k (floorR (wr (p - dx)) s) (floorR (wr (q - dy)) s)).1)))), (6, .s (.c (.v (.int .i64 (rotB k (floorR (wr (p - dx)) s) (floorR (wr (q - dy)) s)).2)))), (7, .s (.c (.v (.int .i64 ((k : Nat) : Int)))))]) (fun k => []) (fun k => (k : Int) ≤ t) (fun k => t.toNat - k) 0 (by simpa using ht) (Less.mk' ⟨rfl, rfl, rfl, rfl, rfl, trivial⟩ ⟨rfl, rfl, trivial⟩ rfl) (fun k hI => ?_)
    show Ok _ _ _ _ ⟨[(5, .s (.c (.v (.int .i64 (rotB k (floorR (wr (p - dx)) s) (floorR (wr (q - dy)) s)).1)))), (6, .s (.c (.v (.int .i64 (rotB k (floorR (wr (p - dx)) s) (floorR (wr (q - dy)) s)).2)))), (7, .s (.c (.v (.int .i64 ((k : Nat) : Int))))), (2, .s (.c (.loc 0 0))), (4, .s (.c (.loc 2 0)))], [(0, .blk [.v (.int _ _), .v (.bool _), .v (.int _ _), .v (.int _ _), .v (.int _ _)] _), (2, .blk [.v (.int _ _), .v (.int _ _)] _)], 3⟩
    have hI : (k : Int) ≤ t := hI
    refine Ok.seq ?_
    refine Ok.seq ?_
    refine Ok.region ?_
    refine OkOps.q (triQ (x := .c (.v (.int _ _))) rfl trivial rfl) ?_
    refine OkOps.q (triQ (x := .c (.loc 0 0)) rfl trivial rfl) ?_
    refine OkOps.q (triQ (x := .c (.v (.int _ _))) rfl trivial rfl) ?_
    refine OkOps.q (triQ (x := .c (.v (.bool _))) rfl trivial rfl) ?_
    refine OkOps.nil ?_
    refine Ok.cond rfl (fun h2 => ?_) (fun h2 => ?_)
    · refine Ok.skip ?_
      refine Ok.seq ?_
      refine Ok.block ?_
      refine Ok.region ?_
      refine OkOps.q (triQ (x := .c (.v (.int _ _))) rfl trivial rfl) ?_
      refine OkOps.q (triQ (x := .c (.v (.int _ _))) rfl trivial rfl) ?_
      refine OkOps.q (triQ (x := .c (.v (.int _ _))) rfl trivial rfl) ?_
      refine OkOps.q (triQ (x := .c (.v (.int _ _))) rfl trivial rfl) ?_
      refine OkOps.q (triQ (x := .c (.v (.int _ _))) rfl trivial rfl) ?_
      refine OkOps.q (triQ (x := .c (.v (.int _ _))) rfl trivial rfl) ?_
      refine OkOps.nil ?_
      refine Ok.region ?_
      refine OkOps.q (triQ (x := .c (.v (.int _ _))) rfl trivial rfl) ?_
      refine OkOps.q (triQ (x := .c (.v (.int _ _))) rfl trivial rfl) ?_
      refine OkOps.q (triQ (x := .c (.v (.int _ _))) rfl trivial rfl) ?_
      refine OkOps.nil ?_
      exact ⟨k + 1, by simp at h2; omega, by simp at h2; omega, Less.mk' ⟨rfl, rfl, (by rw [show ((k + 1 : Nat) : Int) = IntKind.i64.wrap ((k : Int) + 1) from by rw [wrap_id (by omega) (by simp at h2; omega)]; omega]; rfl), rfl, rfl, trivial⟩ ⟨rfl, rfl, trivial⟩ rfl⟩
    · obtain rfl : k = t.toNat := by simp at h2; omega
      refine Ok.exit ?_
      refine Ok.seq ?_
      refine Ok.seq ?_
      refine Ok.region ?_
      refine OkOps.q (triQ (x := .c (.loc 0 1)) rfl trivial rfl) ?_
      refine OkOps.q (triQ (x := .c (.v (.bool _))) rfl trivial rfl) ?_
      refine OkOps.nil ?_
      refine Ok.join [4, 6] [2] [(5, .s (.c (.v (.int .i64 (sel m (wr (wr (0 - (rotB t.toNat (floorR (wr (p - dx)) s) (floorR (wr (q - dy)) s)).1) - 1)) (rotB t.toNat (floorR (wr (p - dx)) s) (floorR (wr (q - dy)) s)).1)))))] [] 3 rfl (fun h3 => ?_) (fun h3 => ?_) ?_
      · refine Ok.region ?_
        refine OkOps.q (triQ (x := .c (.v (.int _ _))) rfl trivial rfl) ?_
        refine OkOps.q (triQ (x := .c (.v (.int _ _))) rfl trivial rfl) ?_
        refine OkOps.q (triQ (x := .c (.v (.int _ _))) rfl trivial rfl) ?_
        refine OkOps.q (triQ (x := .c (.v (.int _ _))) rfl trivial rfl) ?_
        refine OkOps.nil ?_
        exact Less.mk' ⟨(by rw [sel_t h3]; rfl), rfl, rfl, trivial⟩ ⟨rfl, trivial⟩ rfl
      · refine Ok.skip ?_
        exact Less.mk' ⟨(by rw [sel_f h3]; rfl), rfl, rfl, trivial⟩ ⟨rfl, trivial⟩ rfl
      show Ok _ _ _ _ ⟨[(5, .s (.c (.v (.int .i64 (sel m (wr (wr (0 - (rotB t.toNat (floorR (wr (p - dx)) s) (floorR (wr (q - dy)) s)).1) - 1)) (rotB t.toNat (floorR (wr (p - dx)) s) (floorR (wr (q - dy)) s)).1))))), (4, .s (.c (.loc 2 0))), (6, .s (.c (.v (.int _ _))))], [(2, .blk [.v (.int _ _), .v (.int _ _)] _)], 3⟩
      refine Ok.seq ?_
      refine Ok.region ?_
      refine OkOps.q (triQ (x := .c (.v (.int _ _))) rfl trivial rfl) ?_
      refine OkOps.q (triQ (x := .c (.v (.int _ _))) rfl trivial rfl) ?_
      refine OkOps.q (triQ (x := .agg [.v (.int _ _), .v (.int _ _)]) rfl trivial rfl) ?_
      refine OkOps.w (triStore (cs' := [.v (.int _ _), .v (.int _ _)]) rfl rfl rfl rfl rfl rfl rfl rfl rfl) ?_
      refine OkOps.nil ?_
      refine Ok.ret ?_
      exact ⟨_, rfl, by show _ = ofR _; rw [show backR t m s dx dy p q = _ from if_neg (by rw [h1]; simp)]; rfl⟩
theorem entry20 : Entry Try.prog 20 := ⟨_, Try.func20, by kernel_rfl, by kernel_rfl⟩
end Go.Proofs.Ytilglbkpapbkpaa

import Derived.Test.YtilglbkpapbkpaaEve
import Derived.Test.YtilglbkpapbkpaaProg
import Derived.KernelRfl
namespace Go.Proofs.Ytilglbkpapbkpaa
open Go.Ev
abbrev wr (x : Int) : Int := IntKind.i64.wrap x
def within (a b : Int) : Bool := decide (wr (0 - b) ≤ a) && decide (a ≤ b)
def badR (x y u v : Int) : Bool := !within x 1048576 || !within y 1048576 || decide (u < 0) || decide (u > 1048576) || decide (v < 0) || decide (v > 1048576)
def okR (x y u v : Int) : Bool := within x 1048576 && within y 1048576 && decide (u ≥ 0) && decide (u ≤ 1048576) && decide (v ≥ 0) && decide (v ≤ 1048576)
def badT (t s x y : Int) : Bool := decide (t < 0) || decide (t > 3) || decide (s < 1) || decide (s > 16) || !within x 1048576 || !within y 1048576
def okT (t s x y : Int) : Bool := decide (t ≥ 0) && decide (t ≤ 3) && decide (s ≥ 1) && decide (s ≤ 16) && within x 1048576 && within y 1048576
def sel (b : Bool) (x y : Int) : Int := if b = true then x else y
theorem sel_t {b : Bool} (h : b = true) (x y : Int) : sel b x y = x := if_pos h
theorem sel_f {b : Bool} (h : b = false) (x y : Int) : sel b x y = y := if_neg (by simp [h])
def emptyP (x y u v : Int) : Bool := sel (badR x y u v) 0 u == 0 || sel (badR x y u v) 0 v == 0
def emptyR (x y u v : Int) : Bool := !okR x y u v || u == 0 || v == 0
def contP (x y u v p q : Int) : Bool := decide (sel (badR x y u v) 0 x ≤ p) && decide (p < wr (sel (badR x y u v) 0 x + sel (badR x y u v) 0 u)) && decide (sel (badR x y u v) 0 y ≤ q) && decide (q < wr (sel (badR x y u v) 0 y + sel (badR x y u v) 0 v))
def contR (x y u v p q : Int) : Bool := okR x y u v && decide (x ≤ p) && decide (p < wr (x + u)) && decide (y ≤ q) && decide (q < wr (y + v))
def gap (l t r b : Int) : Bool := decide (r ≤ l) || decide (b ≤ t)
theorem within_p (a b : Int) : Pure Try.prog 35 [.int .i64 a, .int .i64 b] (.bool (within a b)) := by
  refine Pure.of_ok 14 [.tmp 4] [(0, .s (.c (.v (.int .i64 a)))), (1, .s (.c (.v (.int .i64 b))))] Try.func35 rfl rfl rfl rfl rfl fun w => ?_
  refine Ok.seq ?_
  refine Ok.region ?_
  refine OkOps.q (triQ (x := .c (.v (.bool _))) rfl trivial rfl) ?_
  refine OkOps.nil ?_
  refine Ok.seq ?_
  refine Ok.region ?_
  refine OkOps.q (triQ (x := .c (.v (.int _ _))) rfl trivial rfl) ?_
  refine OkOps.q (triQ (x := .c (.v (.int _ _))) rfl trivial rfl) ?_
  refine OkOps.q (triQ (x := .c (.v (.int _ _))) rfl trivial rfl) ?_
  refine OkOps.q (triQ (x := .c (.v (.bool _))) rfl trivial rfl) ?_
  refine OkOps.q (triQ (x := .c (.v (.bool _))) rfl trivial rfl) ?_
  refine OkOps.q (triQG (x := .c (.v (.int _ _))) rfl rfl trivial rfl) ?_
  refine OkOps.q (triQG (x := .c (.v (.int _ _))) rfl rfl trivial rfl) ?_
  refine OkOps.q (triQG (x := .c (.v (.bool _))) rfl rfl ⟨fun h => h, ⟨fun h => h, trivial⟩⟩ rfl) ?_
  refine OkOps.q (triAnd rfl rfl (fun h => h) rfl) ?_
  refine OkOps.q (triQ (x := .c (.v (.bool _))) rfl trivial rfl) ?_
  refine OkOps.nil ?_
  refine Ok.ret ?_
  exact ⟨_, rfl, rfl⟩
theorem entry35 : Entry Try.prog 35 := ⟨_, Try.func35, by kernel_rfl, by kernel_rfl⟩
theorem rwithin_p (a b : Int) : Pure Try.prog 39 [.int .i64 a, .int .i64 b] (.bool (within a b)) := by
  refine Pure.of_ok 14 [.tmp 4] [(0, .s (.c (.v (.int .i64 a)))), (1, .s (.c (.v (.int .i64 b))))] Try.func39 rfl rfl rfl rfl rfl fun w => ?_
  refine Ok.seq ?_
  refine Ok.region ?_
  refine OkOps.q (triQ (x := .c (.v (.bool _))) rfl trivial rfl) ?_
  refine OkOps.nil ?_
  refine Ok.seq ?_
  refine Ok.region ?_
  refine OkOps.q (triQ (x := .c (.v (.int _ _))) rfl trivial rfl) ?_
  refine OkOps.q (triQ (x := .c (.v (.int _ _))) rfl trivial rfl) ?_
  refine OkOps.q (triQ (x := .c (.v (.int _ _))) rfl trivial rfl) ?_
  refine OkOps.q (triQ (x := .c (.v (.bool _))) rfl trivial rfl) ?_
  refine OkOps.q (triQ (x := .c (.v (.bool _))) rfl trivial rfl) ?_
  refine OkOps.q (triQG (x := .c (.v (.int _ _))) rfl rfl trivial rfl) ?_
  refine OkOps.q (triQG (x := .c (.v (.int _ _))) rfl rfl trivial rfl) ?_
  refine OkOps.q (triQG (x := .c (.v (.bool _))) rfl rfl ⟨fun h => h, ⟨fun h => h, trivial⟩⟩ rfl) ?_
  refine OkOps.q (triAnd rfl rfl (fun h => h) rfl) ?_
  refine OkOps.q (triQ (x := .c (.v (.bool _))) rfl trivial rfl) ?_
  refine OkOps.nil ?_
  refine Ok.ret ?_
  exact ⟨_, rfl, rfl⟩
theorem entry39 : Entry Try.prog 39 := ⟨_, Try.func39, by kernel_rfl, by kernel_rfl⟩
theorem Validate_p (x y u v : Int) : Pure Try.prog 25 [.agg #[.int .i64 x, .int .i64 y, .int .i64 u, .int .i64 v]] (.int .i64 (sel (badR x y u v) 1 0)) := by
  refine Pure.of_ok 33 [.tmp 2] [(0, .s (.agg [.v (.int .i64 x), .v (.int .i64 y), .v (.int .i64 u), .v (.int .i64 v)]))] Try.func25 rfl rfl rfl rfl rfl fun w => ?_
  refine Ok.seq ?_
  refine Ok.region ?_
  refine OkOps.m 1 (triBox (j := 0) (cs := [.v (.int _ _), .v (.int _ _), .v (.int _ _), .v (.int _ _)]) rfl rfl rfl rfl rfl) ?_
  refine OkOps.q (triQ (x := .c (.v (.int _ _))) rfl trivial rfl) ?_
  refine OkOps.nil ?_
  refine Ok.seq ?_
  refine Ok.seq ?_
  refine Ok.region ?_
  refine OkOps.q (triQ (x := .c (.loc 0 0)) rfl trivial rfl) ?_
  refine OkOps.q (triQ (x := .c (.v (.int _ _))) rfl trivial rfl) ?_
  refine OkOps.q (triCallP (x := .s (.c (.v (.bool _)))) rfl trivial entry35 (within_p _ _) rfl rfl) ?_
  refine OkOps.q (triQ (x := .c (.v (.bool _))) rfl trivial rfl) ?_
  refine OkOps.q (triQ (x := .c (.v (.bool _))) rfl trivial rfl) ?_
  refine OkOps.q (triQG (x := .c (.loc 0 1)) rfl rfl trivial rfl) ?_
  refine OkOps.q (triQG (x := .c (.v (.int _ _))) rfl rfl ⟨fun h => h, trivial⟩ rfl) ?_
  refine OkOps.q (triCallPG (x := .c (.v (.bool _))) rfl rfl ⟨fun h => h, trivial⟩ entry35 (fun _ => within_p _ _) rfl rfl) ?_
  refine OkOps.q (triQG (x := .c (.v (.bool _))) rfl rfl ⟨fun h => h, trivial⟩ rfl) ?_
  refine OkOps.q (triOr rfl rfl (fun h => by rw [h]; rfl) rfl) ?_
  refine OkOps.q (triQ (x := .c (.v (.bool _))) rfl trivial rfl) ?_
  refine OkOps.q (triQG (x := .c (.loc 0 2)) rfl rfl trivial rfl) ?_
  refine OkOps.q (triQG (x := .c (.v (.int _ _))) rfl rfl ⟨fun h => h, trivial⟩ rfl) ?_
  refine OkOps.q (triQG (x := .c (.v (.bool _))) rfl rfl ⟨fun h => h, trivial⟩ rfl) ?_
  refine OkOps.q (triOr rfl rfl (fun h => by rw [h]; rfl) rfl) ?_
  refine OkOps.q (triQ (x := .c (.v (.bool _))) rfl trivial rfl) ?_
  refine OkOps.q (triQG (x := .c (.loc 0 2)) rfl rfl trivial rfl) ?_
  refine OkOps.q (triQG (x := .c (.v (.int _ _))) rfl rfl ⟨fun h => h, trivial⟩ rfl) ?_
  refine OkOps.q (triQG (x := .c (.v (.bool _))) rfl rfl ⟨fun h => h, trivial⟩ rfl) ?_
  refine OkOps.q (triOr rfl rfl (fun h => by rw [h]; rfl) rfl) ?_
  refine OkOps.q (triQ (x := .c (.v (.bool _))) rfl trivial rfl) ?_
  refine OkOps.q (triQG (x := .c (.loc 0 3)) rfl rfl trivial rfl) ?_
  refine OkOps.q (triQG (x := .c (.v (.int _ _))) rfl rfl ⟨fun h => h, trivial⟩ rfl) ?_
  refine OkOps.q (triQG (x := .c (.v (.bool _))) rfl rfl ⟨fun h => h, trivial⟩ rfl) ?_
  refine OkOps.q (triOr rfl rfl (fun h => by rw [h]; rfl) rfl) ?_
  refine OkOps.q (triQ (x := .c (.v (.bool _))) rfl trivial rfl) ?_
  refine OkOps.q (triQG (x := .c (.loc 0 3)) rfl rfl trivial rfl) ?_
  refine OkOps.q (triQG (x := .c (.v (.int _ _))) rfl rfl ⟨fun h => h, trivial⟩ rfl) ?_
  refine OkOps.q (triQG (x := .c (.v (.bool _))) rfl rfl ⟨fun h => h, trivial⟩ rfl) ?_
  refine OkOps.q (triOr rfl rfl (fun h => by rw [h]; rfl) rfl) ?_
  refine OkOps.nil ?_
  refine Ok.cond rfl (fun h1 => ?_) (fun h1 => ?_)
  · refine Ok.seq ?_
    refine Ok.region ?_
    refine OkOps.q (triQ (x := .c (.v (.int _ _))) rfl trivial rfl) ?_
    refine OkOps.nil ?_
    refine Ok.ret ?_
    exact ⟨_, rfl, by show _ = ofR _; simp only [sel_t (show badR x y u v = true from h1)]; rfl⟩
  · refine Ok.skip ?_
    refine Ok.seq ?_
    refine Ok.region ?_
    refine OkOps.q (triQ (x := .c (.v (.int _ _))) rfl trivial rfl) ?_
    refine OkOps.nil ?_
    refine Ok.ret ?_
    exact ⟨_, rfl, by show _ = ofR _; simp only [sel_f (show badR x y u v = false from h1)]; rfl⟩
theorem entry25 : Entry Try.prog 25 := ⟨_, Try.func25, by kernel_rfl, by kernel_rfl⟩
theorem Check_p (t : Int) (m : Bool) (s x y : Int) : Pure Try.prog 17 [.agg #[.int .i64 t, .bool m, .int .i64 s, .int .i64 x, .int .i64 y]] (.int .i64 (sel (badT t s x y) 1 0)) := by
  refine Pure.of_ok 33 [.tmp 2] [(0, .s (.agg [.v (.int .i64 t), .v (.bool m), .v (.int .i64 s), .v (.int .i64 x), .v (.int .i64 y)]))] Try.func17 rfl rfl rfl rfl rfl fun w => ?_
  refine Ok.seq ?_
  refine Ok.region ?_
  refine OkOps.m 1 (triBox (j := 0) (cs := [.v (.int _ _), .v (.bool _), .v (.int _ _), .v (.int _ _), .v (.int _ _)]) rfl rfl rfl rfl rfl) ?_
  refine OkOps.q (triQ (x := .c (.v (.int _ _))) rfl trivial rfl) ?_
  refine OkOps.nil ?_
  refine Ok.seq ?_
  refine Ok.seq ?_
  refine Ok.region ?_
  refine OkOps.q (triQ (x := .c (.loc 0 0)) rfl trivial rfl) ?_
  refine OkOps.q (triQ (x := .c (.v (.int _ _))) rfl trivial rfl) ?_
  refine OkOps.q (triQ (x := .c (.v (.bool _))) rfl trivial rfl) ?_
  refine OkOps.q (triQ (x := .c (.v (.bool _))) rfl trivial rfl) ?_
  refine OkOps.q (triQG (x := .c (.loc 0 0)) rfl rfl trivial rfl) ?_
  refine OkOps.q (triQG (x := .c (.v (.int _ _))) rfl rfl ⟨fun h => h, trivial⟩ rfl) ?_
  refine OkOps.q (triQG (x := .c (.v (.bool _))) rfl rfl ⟨fun h => h, trivial⟩ rfl) ?_
  refine OkOps.q (triOr rfl rfl (fun h => by rw [h]; rfl) rfl) ?_
  refine OkOps.q (triQ (x := .c (.v (.bool _))) rfl trivial rfl) ?_
  refine OkOps.q (triQG (x := .c (.loc 0 2)) rfl rfl trivial rfl) ?_
  refine OkOps.q (triQG (x := .c (.v (.int _ _))) rfl rfl ⟨fun h => h, trivial⟩ rfl) ?_
  refine OkOps.q (triQG (x := .c (.v (.bool _))) rfl rfl ⟨fun h => h, trivial⟩ rfl) ?_
  refine OkOps.q (triOr rfl rfl (fun h => by rw [h]; rfl) rfl) ?_
  refine OkOps.q (triQ (x := .c (.v (.bool _))) rfl trivial rfl) ?_
  refine OkOps.q (triQG (x := .c (.loc 0 2)) rfl rfl trivial rfl) ?_
  refine OkOps.q (triQG (x := .c (.v (.int _ _))) rfl rfl ⟨fun h => h, trivial⟩ rfl) ?_
  refine OkOps.q (triQG (x := .c (.v (.bool _))) rfl rfl ⟨fun h => h, trivial⟩ rfl) ?_
  refine OkOps.q (triOr rfl rfl (fun h => by rw [h]; rfl) rfl) ?_
  refine OkOps.q (triQ (x := .c (.v (.bool _))) rfl trivial rfl) ?_
  refine OkOps.q (triQG (x := .c (.loc 0 3)) rfl rfl trivial rfl) ?_
  refine OkOps.q (triQG (x := .c (.v (.int _ _))) rfl rfl ⟨fun h => h, trivial⟩ rfl) ?_
  refine OkOps.q (triCallPG (x := .c (.v (.bool _))) rfl rfl ⟨fun h => h, trivial⟩ entry35 (fun _ => within_p _ _) rfl rfl) ?_
  refine OkOps.q (triQG (x := .c (.v (.bool _))) rfl rfl ⟨fun h => h, trivial⟩ rfl) ?_
  refine OkOps.q (triOr rfl rfl (fun h => by rw [h]; rfl) rfl) ?_
  refine OkOps.q (triQ (x := .c (.v (.bool _))) rfl trivial rfl) ?_
  refine OkOps.q (triQG (x := .c (.loc 0 4)) rfl rfl trivial rfl) ?_
  refine OkOps.q (triQG (x := .c (.v (.int _ _))) rfl rfl ⟨fun h => h, trivial⟩ rfl) ?_
  refine OkOps.q (triCallPG (x := .c (.v (.bool _))) rfl rfl ⟨fun h => h, trivial⟩ entry35 (fun _ => within_p _ _) rfl rfl) ?_
  refine OkOps.q (triQG (x := .c (.v (.bool _))) rfl rfl ⟨fun h => h, trivial⟩ rfl) ?_
  refine OkOps.q (triOr rfl rfl (fun h => by rw [h]; rfl) rfl) ?_
  refine OkOps.nil ?_
  refine Ok.cond rfl (fun h1 => ?_) (fun h1 => ?_)
  · refine Ok.seq ?_
    refine Ok.region ?_
    refine OkOps.q (triQ (x := .c (.v (.int _ _))) rfl trivial rfl) ?_
    refine OkOps.nil ?_
    refine Ok.ret ?_
    exact ⟨_, rfl, by show _ = ofR _; simp only [sel_t (show badT t s x y = true from h1)]; rfl⟩
  · refine Ok.skip ?_
    refine Ok.seq ?_
    refine Ok.region ?_
    refine OkOps.q (triQ (x := .c (.v (.int _ _))) rfl trivial rfl) ?_
    refine OkOps.nil ?_
    refine Ok.ret ?_
    exact ⟨_, rfl, by show _ = ofR _; simp only [sel_f (show badT t s x y = false from h1)]; rfl⟩
theorem entry17 : Entry Try.prog 17 := ⟨_, Try.func17, by kernel_rfl, by kernel_rfl⟩
theorem valid_p (x y u v : Int) : Pure Try.prog 34 [.agg #[.int .i64 x, .int .i64 y, .int .i64 u, .int .i64 v]] (.agg #[.int .i64 (sel (badR x y u v) 0 x), .int .i64 (sel (badR x y u v) 0 y), .int .i64 (sel (badR x y u v) 0 u), .int .i64 (sel (badR x y u v) 0 v)]) := by
  refine Pure.of_ok 8 [.cell 2 23] [(0, .s (.agg [.v (.int .i64 x), .v (.int .i64 y), .v (.int .i64 u), .v (.int .i64 v)]))] Try.func34 rfl rfl rfl rfl rfl fun w => ?_
  refine Ok.seq ?_
  refine Ok.region ?_
  refine OkOps.m 1 (triBox (j := 0) (cs := [.v (.int _ _), .v (.int _ _), .v (.int _ _), .v (.int _ _)]) rfl rfl rfl rfl rfl) ?_
  refine OkOps.m 2 (triAlloc (j := 1) (cs := [.v (.int _ _), .v (.int _ _), .v (.int _ _), .v (.int _ _)]) rfl rfl rfl rfl) ?_
  refine OkOps.nil ?_
  refine Ok.seq ?_
  refine Ok.seq ?_
  refine Ok.region ?_
  refine OkOps.q (triQ (x := .agg [.v (.int _ _), .v (.int _ _), .v (.int _ _), .v (.int _ _)]) rfl trivial rfl) ?_
  refine OkOps.q (triCallP (x := .s (.c (.v (.int _ _)))) rfl trivial entry25 (Validate_p _ _ _ _) rfl rfl) ?_
  refine OkOps.q (triQ (x := .c (.v (.bool _))) rfl trivial rfl) ?_
  refine OkOps.nil ?_
  refine Ok.cond rfl (fun h1 => ?_) (fun h1 => ?_)
  · refine Ok.seq ?_
    refine Ok.region ?_
    refine OkOps.q (triQ (x := .agg [.v (.int _ _), .v (.int _ _), .v (.int _ _), .v (.int _ _)]) rfl trivial rfl) ?_
    refine OkOps.w (triStore (cs' := [.v (.int _ _), .v (.int _ _), .v (.int _ _), .v (.int _ _)]) rfl rfl rfl rfl rfl rfl rfl rfl rfl) ?_
    refine OkOps.nil ?_
    refine Ok.ret ?_
    exact ⟨_, rfl, by show _ = ofR _; cases hb : badR x y u v <;> simp [hb, sel] at h1 ⊢ <;> rfl⟩
  · refine Ok.skip ?_
    refine Ok.seq ?_
    refine Ok.region ?_
    refine OkOps.q (triQ (x := .agg [.v (.int _ _), .v (.int _ _), .v (.int _ _), .v (.int _ _)]) rfl trivial rfl) ?_
    refine OkOps.w (triStore (cs' := [.v (.int _ _), .v (.int _ _), .v (.int _ _), .v (.int _ _)]) rfl rfl rfl rfl rfl rfl rfl rfl rfl) ?_
    refine OkOps.nil ?_
    refine Ok.ret ?_
    exact ⟨_, rfl, by show _ = ofR _; cases hb : badR x y u v <;> simp [hb, sel] at h1 ⊢ <;> rfl⟩
theorem entry34 : Entry Try.prog 34 := ⟨_, Try.func34, by kernel_rfl, by kernel_rfl⟩
theorem Empty_p (x y u v : Int) : Pure Try.prog 27 [.agg #[.int .i64 x, .int .i64 y, .int .i64 u, .int .i64 v]] (.bool (emptyP x y u v)) := by
  refine Pure.of_ok 13 [.tmp 2] [(0, .s (.agg [.v (.int .i64 x), .v (.int .i64 y), .v (.int .i64 u), .v (.int .i64 v)]))] Try.func27 rfl rfl rfl rfl rfl fun w => ?_
  refine Ok.seq ?_
  refine Ok.region ?_
  refine OkOps.m 1 (triBox (j := 0) (cs := [.v (.int _ _), .v (.int _ _), .v (.int _ _), .v (.int _ _)]) rfl rfl rfl rfl rfl) ?_
  refine OkOps.q (triQ (x := .c (.v (.bool _))) rfl trivial rfl) ?_
  refine OkOps.nil ?_
  refine Ok.seq ?_
  refine Ok.region ?_
  refine OkOps.q (triQ (x := .agg [.v (.int _ _), .v (.int _ _), .v (.int _ _), .v (.int _ _)]) rfl trivial rfl) ?_
  refine OkOps.q (triCallP (x := .s (.agg [.v (.int _ _), .v (.int _ _), .v (.int _ _), .v (.int _ _)])) rfl trivial entry34 (valid_p _ _ _ _) rfl rfl) ?_
  refine OkOps.w (triStore (cs' := [.v (.int _ _), .v (.int _ _), .v (.int _ _), .v (.int _ _)]) rfl rfl rfl rfl rfl rfl rfl rfl rfl) ?_
  refine OkOps.nil ?_
  refine Ok.seq ?_
  refine Ok.region ?_
  refine OkOps.q (triQ (x := .c (.loc 0 2)) rfl trivial rfl) ?_
  refine OkOps.q (triQ (x := .c (.v (.int _ _))) rfl trivial rfl) ?_
  refine OkOps.q (triQ (x := .c (.v (.bool _))) rfl trivial rfl) ?_
  refine OkOps.q (triQ (x := .c (.v (.bool _))) rfl trivial rfl) ?_
  refine OkOps.q (triQG (x := .c (.loc 0 3)) rfl rfl trivial rfl) ?_
  refine OkOps.q (triQG (x := .c (.v (.int _ _))) rfl rfl ⟨fun h => h, trivial⟩ rfl) ?_
  refine OkOps.q (triQG (x := .c (.v (.bool _))) rfl rfl ⟨fun h => h, trivial⟩ rfl) ?_
  refine OkOps.q (triOr rfl rfl (fun h => by rw [h]; rfl) rfl) ?_
  refine OkOps.q (triQ (x := .c (.v (.bool _))) rfl trivial rfl) ?_
  refine OkOps.nil ?_
  refine Ok.ret ?_
  exact ⟨_, rfl, rfl⟩
theorem entry27 : Entry Try.prog 27 := ⟨_, Try.func27, by kernel_rfl, by kernel_rfl⟩
theorem Contains_p (x y u v p q : Int) : Pure Try.prog 13 [.agg #[.int .i64 x, .int .i64 y, .int .i64 u, .int .i64 v], .agg #[.int .i64 p, .int .i64 q]] (.bool (contP x y u v p q)) := by
  refine Pure.of_ok 39 [.tmp 4] [(0, .s (.agg [.v (.int .i64 x), .v (.int .i64 y), .v (.int .i64 u), .v (.int .i64 v)])), (1, .s (.agg [.v (.int .i64 p), .v (.int .i64 q)]))] Try.func13 rfl rfl rfl rfl rfl fun w => ?_
  refine Ok.seq ?_
  refine Ok.region ?_
  refine OkOps.m 1 (triBox (j := 0) (cs := [.v (.int _ _), .v (.int _ _), .v (.int _ _), .v (.int _ _)]) rfl rfl rfl rfl rfl) ?_
  refine OkOps.m 2 (triBox (j := 1) (cs := [.v (.int _ _), .v (.int _ _)]) rfl rfl rfl rfl rfl) ?_
  refine OkOps.q (triQ (x := .c (.v (.bool _))) rfl trivial rfl) ?_
  refine OkOps.nil ?_
  refine Ok.seq ?_
  refine Ok.region ?_
  refine OkOps.q (triQ (x := .agg [.v (.int _ _), .v (.int _ _), .v (.int _ _), .v (.int _ _)]) rfl trivial rfl) ?_
  refine OkOps.q (triCallP (x := .s (.agg [.v (.int _ _), .v (.int _ _), .v (.int _ _), .v (.int _ _)])) rfl trivial entry34 (valid_p _ _ _ _) rfl rfl) ?_
  refine OkOps.w (triStore (cs' := [.v (.int _ _), .v (.int _ _), .v (.int _ _), .v (.int _ _)]) rfl rfl rfl rfl rfl rfl rfl rfl rfl) ?_
  refine OkOps.nil ?_
  refine Ok.seq ?_
  refine Ok.region ?_
  refine OkOps.q (triQ (x := .c (.loc 0 0)) rfl trivial rfl) ?_
  refine OkOps.q (triQ (x := .c (.v (.int _ _))) rfl trivial rfl) ?_
  refine OkOps.q (triQ (x := .c (.loc 1 0)) rfl trivial rfl) ?_
  refine OkOps.q (triQ (x := .c (.v (.int _ _))) rfl trivial rfl) ?_
  refine OkOps.q (triQ (x := .c (.v (.bool _))) rfl trivial rfl) ?_
  refine OkOps.q (triQ (x := .c (.v (.bool _))) rfl trivial rfl) ?_
  refine OkOps.q (triQG (x := .c (.loc 1 0)) rfl rfl trivial rfl) ?_
  refine OkOps.q (triQG (x := .c (.v (.int _ _))) rfl rfl ⟨fun h => h, trivial⟩ rfl) ?_
  refine OkOps.q (triQG (x := .c (.loc 0 0)) rfl rfl trivial rfl) ?_
  refine OkOps.q (triQG (x := .c (.v (.int _ _))) rfl rfl ⟨fun h => h, trivial⟩ rfl) ?_
  refine OkOps.q (triQG (x := .c (.loc 0 2)) rfl rfl trivial rfl) ?_
  refine OkOps.q (triQG (x := .c (.v (.int _ _))) rfl rfl ⟨fun h => h, trivial⟩ rfl) ?_
  refine OkOps.q (triQG (x := .c (.v (.int _ _))) rfl rfl ⟨fun h => h, ⟨fun h => h, trivial⟩⟩ rfl) ?_
  refine OkOps.q (triQG (x := .c (.v (.bool _))) rfl rfl ⟨fun h => h, ⟨fun h => h, trivial⟩⟩ rfl) ?_
  refine OkOps.q (triAnd rfl rfl (fun h => h) rfl) ?_
  refine OkOps.q (triQ (x := .c (.v (.bool _))) rfl trivial rfl) ?_
  refine OkOps.q (triQG (x := .c (.loc 0 1)) rfl rfl trivial rfl) ?_
  refine OkOps.q (triQG (x := .c (.v (.int _ _))) rfl rfl ⟨fun h => h, trivial⟩ rfl) ?_
  refine OkOps.q (triQG (x := .c (.loc 1 1)) rfl rfl trivial rfl) ?_
  refine OkOps.q (triQG (x := .c (.v (.int _ _))) rfl rfl ⟨fun h => h, trivial⟩ rfl) ?_
  refine OkOps.q (triQG (x := .c (.v (.bool _))) rfl rfl ⟨fun h => h, ⟨fun h => h, trivial⟩⟩ rfl) ?_
  refine OkOps.q (triAnd rfl rfl (fun h => h) rfl) ?_
  refine OkOps.q (triQ (x := .c (.v (.bool _))) rfl trivial rfl) ?_
  refine OkOps.q (triQG (x := .c (.loc 1 1)) rfl rfl trivial rfl) ?_
  refine OkOps.q (triQG (x := .c (.v (.int _ _))) rfl rfl ⟨fun h => h, trivial⟩ rfl) ?_
  refine OkOps.q (triQG (x := .c (.loc 0 1)) rfl rfl trivial rfl) ?_
  refine OkOps.q (triQG (x := .c (.v (.int _ _))) rfl rfl ⟨fun h => h, trivial⟩ rfl) ?_
  refine OkOps.q (triQG (x := .c (.loc 0 3)) rfl rfl trivial rfl) ?_
  refine OkOps.q (triQG (x := .c (.v (.int _ _))) rfl rfl ⟨fun h => h, trivial⟩ rfl) ?_
  refine OkOps.q (triQG (x := .c (.v (.int _ _))) rfl rfl ⟨fun h => h, ⟨fun h => h, trivial⟩⟩ rfl) ?_
  refine OkOps.q (triQG (x := .c (.v (.bool _))) rfl rfl ⟨fun h => h, ⟨fun h => h, trivial⟩⟩ rfl) ?_
  refine OkOps.q (triAnd rfl rfl (fun h => h) rfl) ?_
  refine OkOps.q (triQ (x := .c (.v (.bool _))) rfl trivial rfl) ?_
  refine OkOps.nil ?_
  refine Ok.ret ?_
  exact ⟨_, rfl, rfl⟩
theorem entry13 : Entry Try.prog 13 := ⟨_, Try.func13, by kernel_rfl, by kernel_rfl⟩
theorem between_p (l t r b : Int) : Pure Try.prog 42 [.int .i64 l, .int .i64 t, .int .i64 r, .int .i64 b] (.agg #[.int .i64 (sel (gap l t r b) 0 l), .int .i64 (sel (gap l t r b) 0 t), .int .i64 (sel (gap l t r b) 0 (wr (r - l))), .int .i64 (sel (gap l t r b) 0 (wr (b - t)))]) := by
  refine Pure.of_ok 27 [.cell 8 23] [(0, .s (.c (.v (.int .i64 l)))), (1, .s (.c (.v (.int .i64 t)))), (2, .s (.c (.v (.int .i64 r)))), (3, .s (.c (.v (.int .i64 b))))] Try.func42 rfl rfl rfl rfl rfl fun w => ?_
  refine Ok.seq ?_
  refine Ok.region ?_
  refine OkOps.m 1 (triAlloc (j := 0) (cs := [.v (.int _ _), .v (.int _ _), .v (.int _ _), .v (.int _ _)]) rfl rfl rfl rfl) ?_
  refine OkOps.nil ?_
  refine Ok.seq ?_
  refine Ok.seq ?_
  refine Ok.region ?_
  refine OkOps.q (triQ (x := .c (.v (.int _ _))) rfl trivial rfl) ?_
  refine OkOps.q (triQ (x := .c (.v (.int _ _))) rfl trivial rfl) ?_
  refine OkOps.q (triQ (x := .c (.v (.bool _))) rfl trivial rfl) ?_
  refine OkOps.q (triQ (x := .c (.v (.bool _))) rfl trivial rfl) ?_
  refine OkOps.q (triQG (x := .c (.v (.int _ _))) rfl rfl trivial rfl) ?_
  refine OkOps.q (triQG (x := .c (.v (.int _ _))) rfl rfl trivial rfl) ?_
  refine OkOps.q (triQG (x := .c (.v (.bool _))) rfl rfl ⟨fun h => h, ⟨fun h => h, trivial⟩⟩ rfl) ?_
  refine OkOps.q (triOr rfl rfl (fun h => by rw [h]; rfl) rfl) ?_
  refine OkOps.nil ?_
  refine Ok.cond rfl (fun h1 => ?_) (fun h1 => ?_)
  · refine Ok.seq ?_
    refine Ok.region ?_
    refine OkOps.q (triQ (x := .agg [.v (.int _ _), .v (.int _ _), .v (.int _ _), .v (.int _ _)]) rfl trivial rfl) ?_
    refine OkOps.w (triStore (cs' := [.v (.int _ _), .v (.int _ _), .v (.int _ _), .v (.int _ _)]) rfl rfl rfl rfl rfl rfl rfl rfl rfl) ?_
    refine OkOps.nil ?_
    refine Ok.ret ?_
    exact ⟨_, rfl, by show _ = ofR _; simp only [sel_t (show gap l t r b = true from h1)]; rfl⟩
  · refine Ok.skip ?_
    refine Ok.seq ?_
    refine Ok.region ?_
    refine OkOps.q (triQ (x := .c (.v (.int _ _))) rfl trivial rfl) ?_
    refine OkOps.q (triQ (x := .c (.v (.int _ _))) rfl trivial rfl) ?_
    refine OkOps.q (triQ (x := .c (.v (.int _ _))) rfl trivial rfl) ?_
    refine OkOps.q (triQ (x := .c (.v (.int _ _))) rfl trivial rfl) ?_
    refine OkOps.q (triQ (x := .c (.v (.int _ _))) rfl trivial rfl) ?_
    refine OkOps.q (triQ (x := .c (.v (.int _ _))) rfl trivial rfl) ?_
    refine OkOps.q (triQ (x := .c (.v (.int _ _))) rfl trivial rfl) ?_
    refine OkOps.q (triQ (x := .c (.v (.int _ _))) rfl trivial rfl) ?_
    refine OkOps.q (triQ (x := .agg [.v (.int _ _), .v (.int _ _), .v (.int _ _), .v (.int _ _)]) rfl trivial rfl) ?_
    refine OkOps.w (triStore (cs' := [.v (.int _ _), .v (.int _ _), .v (.int _ _), .v (.int _ _)]) rfl rfl rfl rfl rfl rfl rfl rfl rfl) ?_
    refine OkOps.nil ?_
    refine Ok.ret ?_
    exact ⟨_, rfl, by show _ = ofR _; simp only [sel_f (show gap l t r b = false from h1)]; rfl⟩
theorem entry42 : Entry Try.prog 42 := ⟨_, Try.func42, by kernel_rfl, by kernel_rfl⟩
theorem ValidRect_p (x y u v : Int) : Pure Try.prog 26 [.agg #[.int .i64 x, .int .i64 y, .int .i64 u, .int .i64 v]] (.bool (okR x y u v)) := by
  refine Pure.of_ok 31 [.tmp 2] [(0, .s (.agg [.v (.int .i64 x), .v (.int .i64 y), .v (.int .i64 u), .v (.int .i64 v)]))] Try.func26 rfl rfl rfl rfl rfl fun w => ?_
  refine Ok.seq ?_
  refine Ok.region ?_
  refine OkOps.m 1 (triBox (j := 0) (cs := [.v (.int _ _), .v (.int _ _), .v (.int _ _), .v (.int _ _)]) rfl rfl rfl rfl rfl) ?_
  refine OkOps.q (triQ (x := .c (.v (.bool _))) rfl trivial rfl) ?_
  refine OkOps.nil ?_
  refine Ok.seq ?_
  refine Ok.region ?_
  refine OkOps.q (triQ (x := .c (.loc 0 0)) rfl trivial rfl) ?_
  refine OkOps.q (triQ (x := .c (.v (.int _ _))) rfl trivial rfl) ?_
  refine OkOps.q (triCallP (x := .s (.c (.v (.bool _)))) rfl trivial entry39 (rwithin_p _ _) rfl rfl) ?_
  refine OkOps.q (triQ (x := .c (.v (.bool _))) rfl trivial rfl) ?_
  refine OkOps.q (triQG (x := .c (.loc 0 1)) rfl rfl trivial rfl) ?_
  refine OkOps.q (triQG (x := .c (.v (.int _ _))) rfl rfl ⟨fun h => h, trivial⟩ rfl) ?_
  refine OkOps.q (triCallPG (x := .c (.v (.bool _))) rfl rfl ⟨fun h => h, trivial⟩ entry39 (fun _ => rwithin_p _ _) rfl rfl) ?_
  refine OkOps.q (triAnd rfl rfl (fun h => h) rfl) ?_
  refine OkOps.q (triQ (x := .c (.v (.bool _))) rfl trivial rfl) ?_
  refine OkOps.q (triQG (x := .c (.loc 0 2)) rfl rfl trivial rfl) ?_
  refine OkOps.q (triQG (x := .c (.v (.int _ _))) rfl rfl ⟨fun h => h, trivial⟩ rfl) ?_
  refine OkOps.q (triQG (x := .c (.v (.bool _))) rfl rfl ⟨fun h => h, trivial⟩ rfl) ?_
  refine OkOps.q (triAnd rfl rfl (fun h => h) rfl) ?_
  refine OkOps.q (triQ (x := .c (.v (.bool _))) rfl trivial rfl) ?_
  refine OkOps.q (triQG (x := .c (.loc 0 2)) rfl rfl trivial rfl) ?_
  refine OkOps.q (triQG (x := .c (.v (.int _ _))) rfl rfl ⟨fun h => h, trivial⟩ rfl) ?_
  refine OkOps.q (triQG (x := .c (.v (.bool _))) rfl rfl ⟨fun h => h, trivial⟩ rfl) ?_
  refine OkOps.q (triAnd rfl rfl (fun h => h) rfl) ?_
  refine OkOps.q (triQ (x := .c (.v (.bool _))) rfl trivial rfl) ?_
  refine OkOps.q (triQG (x := .c (.loc 0 3)) rfl rfl trivial rfl) ?_
  refine OkOps.q (triQG (x := .c (.v (.int _ _))) rfl rfl ⟨fun h => h, trivial⟩ rfl) ?_
  refine OkOps.q (triQG (x := .c (.v (.bool _))) rfl rfl ⟨fun h => h, trivial⟩ rfl) ?_
  refine OkOps.q (triAnd rfl rfl (fun h => h) rfl) ?_
  refine OkOps.q (triQ (x := .c (.v (.bool _))) rfl trivial rfl) ?_
  refine OkOps.q (triQG (x := .c (.loc 0 3)) rfl rfl trivial rfl) ?_
  refine OkOps.q (triQG (x := .c (.v (.int _ _))) rfl rfl ⟨fun h => h, trivial⟩ rfl) ?_
  refine OkOps.q (triQG (x := .c (.v (.bool _))) rfl rfl ⟨fun h => h, trivial⟩ rfl) ?_
  refine OkOps.q (triAnd rfl rfl (fun h => h) rfl) ?_
  refine OkOps.q (triQ (x := .c (.v (.bool _))) rfl trivial rfl) ?_
  refine OkOps.nil ?_
  refine Ok.ret ?_
  exact ⟨_, rfl, rfl⟩
theorem entry26 : Entry Try.prog 26 := ⟨_, Try.func26, by kernel_rfl, by kernel_rfl⟩
theorem ValidPoint_p (p q : Int) : Pure Try.prog 40 [.agg #[.int .i64 p, .int .i64 q]] (.bool (within p 2097152 && within q 2097152)) := by
  refine Pure.of_ok 11 [.tmp 2] [(0, .s (.agg [.v (.int .i64 p), .v (.int .i64 q)]))] Try.func40 rfl rfl rfl rfl rfl fun w => ?_
  refine Ok.seq ?_
  refine Ok.region ?_
  refine OkOps.m 1 (triBox (j := 0) (cs := [.v (.int _ _), .v (.int _ _)]) rfl rfl rfl rfl rfl) ?_
  refine OkOps.q (triQ (x := .c (.v (.bool _))) rfl trivial rfl) ?_
  refine OkOps.nil ?_
  refine Ok.seq ?_
  refine Ok.region ?_
  refine OkOps.q (triQ (x := .c (.loc 0 0)) rfl trivial rfl) ?_
  refine OkOps.q (triQ (x := .c (.v (.int _ _))) rfl trivial rfl) ?_
  refine OkOps.q (triCallP (x := .s (.c (.v (.bool _)))) rfl trivial entry39 (rwithin_p _ _) rfl rfl) ?_
  refine OkOps.q (triQ (x := .c (.v (.bool _))) rfl trivial rfl) ?_
  refine OkOps.q (triQG (x := .c (.loc 0 1)) rfl rfl trivial rfl) ?_
  refine OkOps.q (triQG (x := .c (.v (.int _ _))) rfl rfl ⟨fun h => h, trivial⟩ rfl) ?_
  refine OkOps.q (triCallPG (x := .c (.v (.bool _))) rfl rfl ⟨fun h => h, trivial⟩ entry39 (fun _ => rwithin_p _ _) rfl rfl) ?_
  refine OkOps.q (triAnd rfl rfl (fun h => h) rfl) ?_
  refine OkOps.q (triQ (x := .c (.v (.bool _))) rfl trivial rfl) ?_
  refine OkOps.nil ?_
  refine Ok.ret ?_
  exact ⟨_, rfl, rfl⟩
theorem entry40 : Entry Try.prog 40 := ⟨_, Try.func40, by kernel_rfl, by kernel_rfl⟩
theorem rEmpty_p (x y u v : Int) : Pure Try.prog 28 [.agg #[.int .i64 x, .int .i64 y, .int .i64 u, .int .i64 v]] (.bool (emptyR x y u v)) := by
  refine Pure.of_ok 16 [.tmp 2] [(0, .s (.agg [.v (.int .i64 x), .v (.int .i64 y), .v (.int .i64 u), .v (.int .i64 v)]))] Try.func28 rfl rfl rfl rfl rfl fun w => ?_
  refine Ok.seq ?_
  refine Ok.region ?_
  refine OkOps.m 1 (triBox (j := 0) (cs := [.v (.int _ _), .v (.int _ _), .v (.int _ _), .v (.int _ _)]) rfl rfl rfl rfl rfl) ?_
  refine OkOps.q (triQ (x := .c (.v (.bool _))) rfl trivial rfl) ?_
  refine OkOps.nil ?_
  refine Ok.seq ?_
  refine Ok.region ?_
  refine OkOps.q (triQ (x := .agg [.v (.int _ _), .v (.int _ _), .v (.int _ _), .v (.int _ _)]) rfl trivial rfl) ?_
  refine OkOps.q (triCallP (x := .s (.c (.v (.bool _)))) rfl trivial entry26 (ValidRect_p _ _ _ _) rfl rfl) ?_
  refine OkOps.q (triQ (x := .c (.v (.bool _))) rfl trivial rfl) ?_
  refine OkOps.q (triQ (x := .c (.v (.bool _))) rfl trivial rfl) ?_
  refine OkOps.q (triQG (x := .c (.loc 0 2)) rfl rfl trivial rfl) ?_
  refine OkOps.q (triQG (x := .c (.v (.int _ _))) rfl rfl ⟨fun h => h, trivial⟩ rfl) ?_
  refine OkOps.q (triQG (x := .c (.v (.bool _))) rfl rfl ⟨fun h => h, trivial⟩ rfl) ?_
  refine OkOps.q (triOr rfl rfl (fun h => by rw [h]; rfl) rfl) ?_
  refine OkOps.q (triQ (x := .c (.v (.bool _))) rfl trivial rfl) ?_
  refine OkOps.q (triQG (x := .c (.loc 0 3)) rfl rfl trivial rfl) ?_
  refine OkOps.q (triQG (x := .c (.v (.int _ _))) rfl rfl ⟨fun h => h, trivial⟩ rfl) ?_
  refine OkOps.q (triQG (x := .c (.v (.bool _))) rfl rfl ⟨fun h => h, trivial⟩ rfl) ?_
  refine OkOps.q (triOr rfl rfl (fun h => by rw [h]; rfl) rfl) ?_
  refine OkOps.q (triQ (x := .c (.v (.bool _))) rfl trivial rfl) ?_
  refine OkOps.nil ?_
  refine Ok.ret ?_
  exact ⟨_, rfl, rfl⟩
theorem entry28 : Entry Try.prog 28 := ⟨_, Try.func28, by kernel_rfl, by kernel_rfl⟩
theorem rContains_p (x y u v p q : Int) : Pure Try.prog 29 [.agg #[.int .i64 x, .int .i64 y, .int .i64 u, .int .i64 v], .agg #[.int .i64 p, .int .i64 q]] (.bool (contR x y u v p q)) := by
  refine Pure.of_ok 41 [.tmp 4] [(0, .s (.agg [.v (.int .i64 x), .v (.int .i64 y), .v (.int .i64 u), .v (.int .i64 v)])), (1, .s (.agg [.v (.int .i64 p), .v (.int .i64 q)]))] Try.func29 rfl rfl rfl rfl rfl fun w => ?_
  refine Ok.seq ?_
  refine Ok.region ?_
  refine OkOps.m 1 (triBox (j := 0) (cs := [.v (.int _ _), .v (.int _ _), .v (.int _ _), .v (.int _ _)]) rfl rfl rfl rfl rfl) ?_
  refine OkOps.m 2 (triBox (j := 1) (cs := [.v (.int _ _), .v (.int _ _)]) rfl rfl rfl rfl rfl) ?_
  refine OkOps.q (triQ (x := .c (.v (.bool _))) rfl trivial rfl) ?_
  refine OkOps.nil ?_
  refine Ok.seq ?_
  refine Ok.region ?_
  refine OkOps.q (triQ (x := .agg [.v (.int _ _), .v (.int _ _), .v (.int _ _), .v (.int _ _)]) rfl trivial rfl) ?_
  refine OkOps.q (triCallP (x := .s (.c (.v (.bool _)))) rfl trivial entry26 (ValidRect_p _ _ _ _) rfl rfl) ?_
  refine OkOps.q (triQ (x := .c (.v (.bool _))) rfl trivial rfl) ?_
  refine OkOps.q (triQG (x := .c (.loc 0 0)) rfl rfl trivial rfl) ?_
  refine OkOps.q (triQG (x := .c (.v (.int _ _))) rfl rfl ⟨fun h => h, trivial⟩ rfl) ?_
  refine OkOps.q (triQG (x := .c (.loc 1 0)) rfl rfl trivial rfl) ?_
  refine OkOps.q (triQG (x := .c (.v (.int _ _))) rfl rfl ⟨fun h => h, trivial⟩ rfl) ?_
  refine OkOps.q (triQG (x := .c (.v (.bool _))) rfl rfl ⟨fun h => h, ⟨fun h => h, trivial⟩⟩ rfl) ?_
  refine OkOps.q (triAnd rfl rfl (fun h => h) rfl) ?_
  refine OkOps.q (triQ (x := .c (.v (.bool _))) rfl trivial rfl) ?_
  refine OkOps.q (triQG (x := .c (.loc 1 0)) rfl rfl trivial rfl) ?_
  refine OkOps.q (triQG (x := .c (.v (.int _ _))) rfl rfl ⟨fun h => h, trivial⟩ rfl) ?_
  refine OkOps.q (triQG (x := .c (.loc 0 0)) rfl rfl trivial rfl) ?_
  refine OkOps.q (triQG (x := .c (.v (.int _ _))) rfl rfl ⟨fun h => h, trivial⟩ rfl) ?_
  refine OkOps.q (triQG (x := .c (.loc 0 2)) rfl rfl trivial rfl) ?_
  refine OkOps.q (triQG (x := .c (.v (.int _ _))) rfl rfl ⟨fun h => h, trivial⟩ rfl) ?_
  refine OkOps.q (triQG (x := .c (.v (.int _ _))) rfl rfl ⟨fun h => h, ⟨fun h => h, trivial⟩⟩ rfl) ?_
  refine OkOps.q (triQG (x := .c (.v (.bool _))) rfl rfl ⟨fun h => h, ⟨fun h => h, trivial⟩⟩ rfl) ?_
  refine OkOps.q (triAnd rfl rfl (fun h => h) rfl) ?_
  refine OkOps.q (triQ (x := .c (.v (.bool _))) rfl trivial rfl) ?_
  refine OkOps.q (triQG (x := .c (.loc 0 1)) rfl rfl trivial rfl) ?_
  refine OkOps.q (triQG (x := .c (.v (.int _ _))) rfl rfl ⟨fun h => h, trivial⟩ rfl) ?_
  refine OkOps.q (triQG (x := .c (.loc 1 1)) rfl rfl trivial rfl) ?_
  refine OkOps.q (triQG (x := .c (.v (.int _ _))) rfl rfl ⟨fun h => h, trivial⟩ rfl) ?_
  refine OkOps.q (triQG (x := .c (.v (.bool _))) rfl rfl ⟨fun h => h, ⟨fun h => h, trivial⟩⟩ rfl) ?_
  refine OkOps.q (triAnd rfl rfl (fun h => h) rfl) ?_
  refine OkOps.q (triQ (x := .c (.v (.bool _))) rfl trivial rfl) ?_
  refine OkOps.q (triQG (x := .c (.loc 1 1)) rfl rfl trivial rfl) ?_
  refine OkOps.q (triQG (x := .c (.v (.int _ _))) rfl rfl ⟨fun h => h, trivial⟩ rfl) ?_
  refine OkOps.q (triQG (x := .c (.loc 0 1)) rfl rfl trivial rfl) ?_
  refine OkOps.q (triQG (x := .c (.v (.int _ _))) rfl rfl ⟨fun h => h, trivial⟩ rfl) ?_
  refine OkOps.q (triQG (x := .c (.loc 0 3)) rfl rfl trivial rfl) ?_
  refine OkOps.q (triQG (x := .c (.v (.int _ _))) rfl rfl ⟨fun h => h, trivial⟩ rfl) ?_
  refine OkOps.q (triQG (x := .c (.v (.int _ _))) rfl rfl ⟨fun h => h, ⟨fun h => h, trivial⟩⟩ rfl) ?_
  refine OkOps.q (triQG (x := .c (.v (.bool _))) rfl rfl ⟨fun h => h, ⟨fun h => h, trivial⟩⟩ rfl) ?_
  refine OkOps.q (triAnd rfl rfl (fun h => h) rfl) ?_
  refine OkOps.q (triQ (x := .c (.v (.bool _))) rfl trivial rfl) ?_
  refine OkOps.nil ?_
  refine Ok.ret ?_
  exact ⟨_, rfl, rfl⟩
theorem entry29 : Entry Try.prog 29 := ⟨_, Try.func29, by kernel_rfl, by kernel_rfl⟩
theorem rvalid_p (x y u v : Int) : Pure Try.prog 43 [.agg #[.int .i64 x, .int .i64 y, .int .i64 u, .int .i64 v]] (.agg #[.int .i64 (sel (okR x y u v) x 0), .int .i64 (sel (okR x y u v) y 0), .int .i64 (sel (okR x y u v) u 0), .int .i64 (sel (okR x y u v) v 0)]) := by
  refine Pure.of_ok 8 [.cell 2 23] [(0, .s (.agg [.v (.int .i64 x), .v (.int .i64 y), .v (.int .i64 u), .v (.int .i64 v)]))] Try.func43 rfl rfl rfl rfl rfl fun w => ?_
  refine Ok.seq ?_
  refine Ok.region ?_
  refine OkOps.m 1 (triBox (j := 0) (cs := [.v (.int _ _), .v (.int _ _), .v (.int _ _), .v (.int _ _)]) rfl rfl rfl rfl rfl) ?_
  refine OkOps.m 2 (triAlloc (j := 1) (cs := [.v (.int _ _), .v (.int _ _), .v (.int _ _), .v (.int _ _)]) rfl rfl rfl rfl) ?_
  refine OkOps.nil ?_
  refine Ok.seq ?_
  refine Ok.seq ?_
  refine Ok.region ?_
  refine OkOps.q (triQ (x := .agg [.v (.int _ _), .v (.int _ _), .v (.int _ _), .v (.int _ _)]) rfl trivial rfl) ?_
  refine OkOps.q (triCallP (x := .s (.c (.v (.bool _)))) rfl trivial entry26 (ValidRect_p _ _ _ _) rfl rfl) ?_
  refine OkOps.q (triQ (x := .c (.v (.bool _))) rfl trivial rfl) ?_
  refine OkOps.nil ?_
  refine Ok.cond rfl (fun h1 => ?_) (fun h1 => ?_)
  · refine Ok.seq ?_
    refine Ok.region ?_
    refine OkOps.q (triQ (x := .agg [.v (.int _ _), .v (.int _ _), .v (.int _ _), .v (.int _ _)]) rfl trivial rfl) ?_
    refine OkOps.w (triStore (cs' := [.v (.int _ _), .v (.int _ _), .v (.int _ _), .v (.int _ _)]) rfl rfl rfl rfl rfl rfl rfl rfl rfl) ?_
    refine OkOps.nil ?_
    refine Ok.ret ?_
    exact ⟨_, rfl, by show _ = ofR _; cases hb : okR x y u v <;> simp [hb, sel] at h1 ⊢ <;> rfl⟩
  · refine Ok.skip ?_
    refine Ok.seq ?_
    refine Ok.region ?_
    refine OkOps.q (triQ (x := .agg [.v (.int _ _), .v (.int _ _), .v (.int _ _), .v (.int _ _)]) rfl trivial rfl) ?_
    refine OkOps.w (triStore (cs' := [.v (.int _ _), .v (.int _ _), .v (.int _ _), .v (.int _ _)]) rfl rfl rfl rfl rfl rfl rfl rfl rfl) ?_
    refine OkOps.nil ?_
    refine Ok.ret ?_
    exact ⟨_, rfl, by show _ = ofR _; cases hb : okR x y u v <;> simp [hb, sel] at h1 ⊢ <;> rfl⟩
theorem entry43 : Entry Try.prog 43 := ⟨_, Try.func43, by kernel_rfl, by kernel_rfl⟩
theorem ValidTransform_p (t : Int) (m : Bool) (s x y : Int) : Pure Try.prog 18 [.agg #[.int .i64 t, .bool m, .int .i64 s, .int .i64 x, .int .i64 y]] (.bool (okT t s x y)) := by
  refine Pure.of_ok 31 [.tmp 2] [(0, .s (.agg [.v (.int .i64 t), .v (.bool m), .v (.int .i64 s), .v (.int .i64 x), .v (.int .i64 y)]))] Try.func18 rfl rfl rfl rfl rfl fun w => ?_
  refine Ok.seq ?_
  refine Ok.region ?_
  refine OkOps.m 1 (triBox (j := 0) (cs := [.v (.int _ _), .v (.bool _), .v (.int _ _), .v (.int _ _), .v (.int _ _)]) rfl rfl rfl rfl rfl) ?_
  refine OkOps.q (triQ (x := .c (.v (.bool _))) rfl trivial rfl) ?_
  refine OkOps.nil ?_
  refine Ok.seq ?_
  refine Ok.region ?_
  refine OkOps.q (triQ (x := .c (.loc 0 0)) rfl trivial rfl) ?_
  refine OkOps.q (triQ (x := .c (.v (.int _ _))) rfl trivial rfl) ?_
  refine OkOps.q (triQ (x := .c (.v (.bool _))) rfl trivial rfl) ?_
  refine OkOps.q (triQ (x := .c (.v (.bool _))) rfl trivial rfl) ?_
  refine OkOps.q (triQG (x := .c (.loc 0 0)) rfl rfl trivial rfl) ?_
  refine OkOps.q (triQG (x := .c (.v (.int _ _))) rfl rfl ⟨fun h => h, trivial⟩ rfl) ?_
  refine OkOps.q (triQG (x := .c (.v (.bool _))) rfl rfl ⟨fun h => h, trivial⟩ rfl) ?_
  refine OkOps.q (triAnd rfl rfl (fun h => h) rfl) ?_
  refine OkOps.q (triQ (x := .c (.v (.bool _))) rfl trivial rfl) ?_
  refine OkOps.q (triQG (x := .c (.loc 0 2)) rfl rfl trivial rfl) ?_
  refine OkOps.q (triQG (x := .c (.v (.int _ _))) rfl rfl ⟨fun h => h, trivial⟩ rfl) ?_
  refine OkOps.q (triQG (x := .c (.v (.bool _))) rfl rfl ⟨fun h => h, trivial⟩ rfl) ?_
  refine OkOps.q (triAnd rfl rfl (fun h => h) rfl) ?_
  refine OkOps.q (triQ (x := .c (.v (.bool _))) rfl trivial rfl) ?_
  refine OkOps.q (triQG (x := .c (.loc 0 2)) rfl rfl trivial rfl) ?_
  refine OkOps.q (triQG (x := .c (.v (.int _ _))) rfl rfl ⟨fun h => h, trivial⟩ rfl) ?_
  refine OkOps.q (triQG (x := .c (.v (.bool _))) rfl rfl ⟨fun h => h, trivial⟩ rfl) ?_
  refine OkOps.q (triAnd rfl rfl (fun h => h) rfl) ?_
  refine OkOps.q (triQ (x := .c (.v (.bool _))) rfl trivial rfl) ?_
  refine OkOps.q (triQG (x := .c (.loc 0 3)) rfl rfl trivial rfl) ?_
  refine OkOps.q (triQG (x := .c (.v (.int _ _))) rfl rfl ⟨fun h => h, trivial⟩ rfl) ?_
  refine OkOps.q (triCallPG (x := .c (.v (.bool _))) rfl rfl ⟨fun h => h, trivial⟩ entry39 (fun _ => rwithin_p _ _) rfl rfl) ?_
  refine OkOps.q (triAnd rfl rfl (fun h => h) rfl) ?_
  refine OkOps.q (triQ (x := .c (.v (.bool _))) rfl trivial rfl) ?_
  refine OkOps.q (triQG (x := .c (.loc 0 4)) rfl rfl trivial rfl) ?_
  refine OkOps.q (triQG (x := .c (.v (.int _ _))) rfl rfl ⟨fun h => h, trivial⟩ rfl) ?_
  refine OkOps.q (triCallPG (x := .c (.v (.bool _))) rfl rfl ⟨fun h => h, trivial⟩ entry39 (fun _ => rwithin_p _ _) rfl rfl) ?_
  refine OkOps.q (triAnd rfl rfl (fun h => h) rfl) ?_
  refine OkOps.q (triQ (x := .c (.v (.bool _))) rfl trivial rfl) ?_
  refine OkOps.nil ?_
  refine Ok.ret ?_
  exact ⟨_, rfl, rfl⟩
theorem entry18 : Entry Try.prog 18 := ⟨_, Try.func18, by kernel_rfl, by kernel_rfl⟩
end Go.Proofs.Ytilglbkpapbkpaa

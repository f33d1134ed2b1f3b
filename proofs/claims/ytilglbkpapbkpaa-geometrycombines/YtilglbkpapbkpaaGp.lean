import Derived.Test.YtilglbkpapbkpaaGo
import Derived.Test.YtilglbkpapbkpaaGl
namespace Go.Proofs.Ytilglbkpapbkpaa
open Go.Ev
set_option maxRecDepth 4000
theorem comb_e {a b : Tr} (ha : Sm a) (hb : Sm b) : ((combP a b).2 != 0) = false := by rw [comb_ok ha hb]; rfl
theorem comb_app {a b : Tr} (ha : Sm a) (hb : Sm b) {x y u v : Int} (hx : -100 < x ∧ x < 100) (hy : -100 < y ∧ y < 100) (hu : 0 ≤ u ∧ u ≤ 63) (hv : 0 ≤ v ∧ v ≤ 63) :
    appP (combP a b).1.1 (combP a b).1.2.1 (combP a b).1.2.2.1 (combP a b).1.2.2.2.1 (combP a b).1.2.2.2.2 (x, y, u, v) = appP a.1 a.2.1 a.2.2.1 a.2.2.2.1 a.2.2.2.2 (appP b.1 b.2.1 b.2.2.1 b.2.2.2.1 b.2.2.2.2 (x, y, u, v)) := by
  rw [comb_ok ha hb]
  obtain ⟨t1, m1, s1, x1, y1⟩ := a
  obtain ⟨t2, m2, s2, x2, y2⟩ := b
  have hc := (cand_cmb ha hb).2
  obtain ⟨ha1, ha2, ha3⟩ := ha
  obtain ⟨hb1, hb2, hb3⟩ := hb
  simp only at *
  have hr : VR x y u v := by unfold VR; omega
  have hi := img_bd (m := m2) hb1 hb2 hb3 hx hy hu hv
  rw [appP_img _ hc hr, appP_img t2 hb1 hr]
  have e : img t2 m2 s2 x2 y2 x y u v = ((img t2 m2 s2 x2 y2 x y u v).1, (img t2 m2 s2 x2 y2 x y u v).2.1, (img t2 m2 s2 x2 y2 x y u v).2.2.1, (img t2 m2 s2 x2 y2 x y u v).2.2.2) := rfl
  rw [e, appP_img t1 ha1 hi]
  exact img_cmb (by unfold VT at ha1; omega) (by unfold VT at hb1; omega)
theorem src_bd {t s a b : Int} {m : Bool} (ha : -22000 ≤ a ∧ a ≤ 22000) (hb : -22000 ≤ b ∧ b ≤ 22000) (hs : 1 ≤ s) : (-22001 ≤ (src t m (a / s) (b / s)).1 ∧ (src t m (a / s) (b / s)).1 ≤ 22001) ∧ (-22001 ≤ (src t m (a / s) (b / s)).2 ∧ (src t m (a / s) (b / s)).2 ≤ 22001) := by
  have d1 : ∀ a : Int, -22000 ≤ a ∧ a ≤ 22000 → -22000 ≤ a / s ∧ a / s ≤ 22000 := by
    intro a ha
    constructor
    · exact Int.le_ediv_of_mul_le (by omega) (by
        have : (22000 : Int) * 1 ≤ 22000 * s := Int.mul_le_mul_of_nonneg_left (by omega) (by omega)
        omega)
    · rcases Int.lt_or_le a 0 with h0 | h0
      · have := Int.ediv_neg_of_neg_of_pos h0 (by omega : 0 < s)
        omega
      · have := Int.ediv_le_self s h0
        omega
  have k1 := d1 a ha
  have k2 := d1 b hb
  unfold src
  split <;> cases m <;> simp only [sel, Bool.false_eq_true, if_false, if_true] <;> omega
theorem comb_back {a b : Tr} (ha : Sm a) (hb : Sm b) {p q : Int} (hp : -20000 < p ∧ p < 20000) (hq : -20000 < q ∧ q < 20000) :
    backP (combP a b).1.1 (combP a b).1.2.1 (combP a b).1.2.2.1 (combP a b).1.2.2.2.1 (combP a b).1.2.2.2.2 p q = backP b.1 b.2.1 b.2.2.1 b.2.2.2.1 b.2.2.2.2 (backP a.1 a.2.1 a.2.2.1 a.2.2.2.1 a.2.2.2.2 p q).1 (backP a.1 a.2.1 a.2.2.1 a.2.2.2.1 a.2.2.2.2 p q).2 := by
  rw [comb_ok ha hb]
  obtain ⟨t1, m1, s1, x1, y1⟩ := a
  obtain ⟨t2, m2, s2, x2, y2⟩ := b
  have hc := (cand_cmb ha hb).2
  obtain ⟨ha1, ha2, ha3⟩ := ha
  obtain ⟨hb1, hb2, hb3⟩ := hb
  simp only at *
  rw [backP_src hc (by omega) (by omega), backP_src ha1 (by omega) (by omega)]
  have hs1 : 1 ≤ s1 := by unfold VT at ha1; omega
  have hs2 : 1 ≤ s2 := by unfold VT at hb1; omega
  have k := src_bd (t := t1) (m := m1) (a := p - x1) (b := q - y1) (s := s1) (by omega) (by omega) hs1
  rw [backP_src hb1 (by omega) (by omega)]
  exact src_cmb (by unfold VT at ha1; omega) (by unfold VT at hb1; omega) hs1 hs2
theorem beq2 {a b : Int × Int} (h : a = b) : (a.1 == b.1 && a.2 == b.2) = true := by subst h; simp
theorem combines_p (a0 a1 a2 a3 b0 b1 b2 b3 : Int) (m1 m2 : Bool) (x y u v p q : Int) : Pure Try.prog 6 [.agg #[.int .i64 a0, .int .i64 a1, .int .i64 a2, .int .i64 a3], .agg #[.int .i64 b0, .int .i64 b1, .int .i64 b2, .int .i64 b3], .bool m1, .bool m2, .agg #[.int .i64 x, .int .i64 y, .int .i64 u, .int .i64 v], .agg #[.int .i64 p, .int .i64 q]] (.bool true) := by
  have hA := small_sm a0 a1 a2 a3 m1
  have hB := small_sm b0 b1 b2 b3 m2
  refine Pure.of_ok 90 [.tmp 12] [(0, .s (.agg [.v (.int .i64 a0), .v (.int .i64 a1), .v (.int .i64 a2), .v (.int .i64 a3)])), (1, .s (.agg [.v (.int .i64 b0), .v (.int .i64 b1), .v (.int .i64 b2), .v (.int .i64 b3)])), (2, .s (.c (.v (.bool m1)))), (3, .s (.c (.v (.bool m2)))), (4, .s (.agg [.v (.int .i64 x), .v (.int .i64 y), .v (.int .i64 u), .v (.int .i64 v)])), (5, .s (.agg [.v (.int .i64 p), .v (.int .i64 q)]))] Try.func6 rfl rfl rfl rfl rfl fun w => ?_
  refine Ok.seq ?_
  refine Ok.region ?_
  refine OkOps.m 1 (triBox (j := 0) (cs := [.v (.int _ _), .v (.int _ _), .v (.int _ _), .v (.int _ _)]) rfl rfl rfl rfl rfl) ?_
  refine OkOps.m 2 (triBox (j := 1) (cs := [.v (.int _ _), .v (.int _ _), .v (.int _ _), .v (.int _ _)]) rfl rfl rfl rfl rfl) ?_
  refine OkOps.m 3 (triBox (j := 2) (cs := [.v (.int _ _), .v (.int _ _), .v (.int _ _), .v (.int _ _)]) rfl rfl rfl rfl rfl) ?_
  refine OkOps.m 4 (triBox (j := 3) (cs := [.v (.int _ _), .v (.int _ _)]) rfl rfl rfl rfl rfl) ?_
  refine OkOps.q (triQ (x := .c (.v (.bool _))) rfl trivial rfl) ?_
  refine OkOps.nil ?_
  refine Ok.seq ?_
  refine Ok.regionD (by kernel_rfl) ?_
  refine OkD.q (triQ (x := .c (.loc 0 0)) rfl trivial rfl) ?_
  refine OkD.q (triQ (x := .c (.v (.int _ _))) rfl trivial rfl) ?_
  refine OkD.q (triQ (x := .c (.loc 0 1)) rfl trivial rfl) ?_
  refine OkD.q (triQ (x := .c (.v (.int _ _))) rfl trivial rfl) ?_
  refine OkD.q (triQ (x := .c (.loc 0 2)) rfl trivial rfl) ?_
  refine OkD.q (triQ (x := .c (.v (.int _ _))) rfl trivial rfl) ?_
  refine OkD.q (triQ (x := .c (.loc 0 3)) rfl trivial rfl) ?_
  refine OkD.q (triQ (x := .c (.v (.int _ _))) rfl trivial rfl) ?_
  refine OkD.q (triQ (x := .c (.v (.bool _))) rfl trivial rfl) ?_
  refine OkD.q (triCallP (x := .s (.agg [.v (.int _ _), .v (.bool _), .v (.int _ _), .v (.int _ _), .v (.int _ _)])) rfl trivial entry10 (small_p _ _ _ _ _) rfl rfl) ?_
  refine OkD.q (triQ (x := .c (.loc 1 0)) rfl trivial rfl) ?_
  refine OkD.q (triQ (x := .c (.v (.int _ _))) rfl trivial rfl) ?_
  refine OkD.q (triQ (x := .c (.loc 1 1)) rfl trivial rfl) ?_
  refine OkD.q (triQ (x := .c (.v (.int _ _))) rfl trivial rfl) ?_
  refine OkD.q (triQ (x := .c (.loc 1 2)) rfl trivial rfl) ?_
  refine OkD.q (triQ (x := .c (.v (.int _ _))) rfl trivial rfl) ?_
  refine OkD.q (triQ (x := .c (.loc 1 3)) rfl trivial rfl) ?_
  refine OkD.q (triQ (x := .c (.v (.int _ _))) rfl trivial rfl) ?_
  refine OkD.q (triQ (x := .c (.v (.bool _))) rfl trivial rfl) ?_
  refine OkD.q (triCallP (x := .s (.agg [.v (.int _ _), .v (.bool _), .v (.int _ _), .v (.int _ _), .v (.int _ _)])) rfl trivial entry10 (small_p _ _ _ _ _) rfl rfl) ?_
  refine OkD.m 5 (triAlloc (j := 4) (cs := [.v (.int _ _), .v (.bool _), .v (.int _ _), .v (.int _ _), .v (.int _ _)]) rfl rfl rfl rfl) ?_
  refine OkD.m 6 (triAlloc (j := 5) (cs := [.v (.int _ _), .v (.bool _), .v (.int _ _), .v (.int _ _), .v (.int _ _)]) rfl rfl rfl rfl) ?_
  refine OkD.w (triStore (cs' := [.v (.int _ _), .v (.bool _), .v (.int _ _), .v (.int _ _), .v (.int _ _)]) rfl rfl rfl rfl rfl rfl rfl rfl rfl) ?_
  refine OkD.w (triStore (cs' := [.v (.int _ _), .v (.bool _), .v (.int _ _), .v (.int _ _), .v (.int _ _)]) rfl rfl rfl rfl rfl rfl rfl rfl rfl) ?_
  refine OkD.nil (by kernel_rfl) ?_
  refine Ok.seq ?_
  refine Ok.region ?_
  refine OkOps.q (triQ (x := .agg [.v (.int _ _), .v (.bool _), .v (.int _ _), .v (.int _ _), .v (.int _ _)]) rfl trivial rfl) ?_
  refine OkOps.q (triQ (x := .agg [.v (.int _ _), .v (.bool _), .v (.int _ _), .v (.int _ _), .v (.int _ _)]) rfl trivial rfl) ?_
  refine OkOps.q (triCallP (x := .tup [.agg [.v (.int _ _), .v (.bool _), .v (.int _ _), .v (.int _ _), .v (.int _ _)], .c (.v (.int _ _))]) rfl trivial entry15 (Combine_p _ _ _ _ _ _ _ _ _ _) rfl rfl) ?_
  refine OkOps.q (triMv (v := .tup [.agg [.v (.int _ _), .v (.bool _), .v (.int _ _), .v (.int _ _), .v (.int _ _)], .c (.v (.int _ _))]) rfl rfl) ?_
  refine OkOps.q (triQ (x := .agg [.v (.int _ _), .v (.bool _), .v (.int _ _), .v (.int _ _), .v (.int _ _)]) rfl trivial rfl) ?_
  refine OkOps.q (triQ (x := .c (.v (.int _ _))) rfl trivial rfl) ?_
  refine OkOps.m 7 (triAlloc (j := 6) (cs := [.v (.int _ _), .v (.bool _), .v (.int _ _), .v (.int _ _), .v (.int _ _)]) rfl rfl rfl rfl) ?_
  refine OkOps.w (triStore (cs' := [.v (.int _ _), .v (.bool _), .v (.int _ _), .v (.int _ _), .v (.int _ _)]) rfl rfl rfl rfl rfl rfl rfl rfl rfl) ?_
  refine OkOps.q (triQ (x := .c (.v (.int _ _))) rfl trivial rfl) ?_
  refine OkOps.nil ?_
  refine Ok.seq ?_
  refine Ok.seq ?_
  refine Ok.region ?_
  refine OkOps.q (triQ (x := .c (.v (.int _ _))) rfl trivial rfl) ?_
  refine OkOps.q (triQ (x := .c (.v (.bool _))) rfl trivial rfl) ?_
  refine OkOps.nil ?_
  refine Ok.cond rfl (fun h1 => absurd h1 (by rw [show _ = _ from comb_e hA hB]; simp)) (fun h1 => ?_)
  refine Ok.skip ?_
  refine Ok.seq ?_
  refine Ok.region ?_
  refine OkOps.q (triQ (x := .c (.loc 2 0)) rfl trivial rfl) ?_
  refine OkOps.q (triQ (x := .c (.v (.int _ _))) rfl trivial rfl) ?_
  refine OkOps.q (triQ (x := .c (.v (.int _ _))) rfl trivial rfl) ?_
  refine OkOps.q (triQ (x := .c (.loc 2 1)) rfl trivial rfl) ?_
  refine OkOps.q (triQ (x := .c (.v (.int _ _))) rfl trivial rfl) ?_
  refine OkOps.q (triQ (x := .c (.v (.int _ _))) rfl trivial rfl) ?_
  refine OkOps.q (triQ (x := .c (.loc 2 2)) rfl trivial rfl) ?_
  refine OkOps.q (triQ (x := .c (.v (.int _ _))) rfl trivial rfl) ?_
  refine OkOps.q (triQ (x := .c (.v (.int _ _))) rfl trivial rfl) ?_
  refine OkOps.q (triQ (x := .c (.loc 2 3)) rfl trivial rfl) ?_
  refine OkOps.q (triQ (x := .c (.v (.int _ _))) rfl trivial rfl) ?_
  refine OkOps.q (triQ (x := .c (.v (.int _ _))) rfl trivial rfl) ?_
  refine OkOps.q (triQ (x := .agg [.v (.int _ _), .v (.int _ _), .v (.int _ _), .v (.int _ _)]) rfl trivial rfl) ?_
  refine OkOps.m 8 (triAlloc (j := 7) (cs := [.v (.int _ _), .v (.int _ _), .v (.int _ _), .v (.int _ _)]) rfl rfl rfl rfl) ?_
  refine OkOps.w (triStore (cs' := [.v (.int _ _), .v (.int _ _), .v (.int _ _), .v (.int _ _)]) rfl rfl rfl rfl rfl rfl rfl rfl rfl) ?_
  refine OkOps.nil ?_
  refine Ok.seq ?_
  refine Ok.region ?_
  refine OkOps.q (triQ (x := .c (.loc 3 0)) rfl trivial rfl) ?_
  refine OkOps.q (triQ (x := .c (.v (.int _ _))) rfl trivial rfl) ?_
  refine OkOps.q (triQ (x := .c (.v (.int _ _))) rfl trivial rfl) ?_
  refine OkOps.q (triQ (x := .c (.loc 3 1)) rfl trivial rfl) ?_
  refine OkOps.q (triQ (x := .c (.v (.int _ _))) rfl trivial rfl) ?_
  refine OkOps.q (triQ (x := .c (.v (.int _ _))) rfl trivial rfl) ?_
  refine OkOps.q (triQ (x := .agg [.v (.int _ _), .v (.int _ _)]) rfl trivial rfl) ?_
  refine OkOps.m 9 (triAlloc (j := 8) (cs := [.v (.int _ _), .v (.int _ _)]) rfl rfl rfl rfl) ?_
  refine OkOps.w (triStore (cs' := [.v (.int _ _), .v (.int _ _)]) rfl rfl rfl rfl rfl rfl rfl rfl rfl) ?_
  refine OkOps.nil ?_
  refine Ok.seq ?_
  refine Ok.regionD (by kernel_rfl) ?_
  refine OkD.q (triQ (x := .agg [.v (.int _ _), .v (.bool _), .v (.int _ _), .v (.int _ _), .v (.int _ _)]) rfl trivial rfl) ?_
  refine OkD.q (triQ (x := .agg [.v (.int _ _), .v (.int _ _), .v (.int _ _), .v (.int _ _)]) rfl trivial rfl) ?_
  refine OkD.q (triCallP (x := .s (.agg [.v (.int _ _), .v (.int _ _), .v (.int _ _), .v (.int _ _)])) rfl trivial entry11 (Apply_p _ _ _ _ _ _ _ _ _) rfl rfl) ?_
  refine OkD.q (triQ (x := .agg [.v (.int _ _), .v (.bool _), .v (.int _ _), .v (.int _ _), .v (.int _ _)]) rfl trivial rfl) ?_
  refine OkD.q (triQ (x := .agg [.v (.int _ _), .v (.bool _), .v (.int _ _), .v (.int _ _), .v (.int _ _)]) rfl trivial rfl) ?_
  refine OkD.q (triQ (x := .agg [.v (.int _ _), .v (.int _ _), .v (.int _ _), .v (.int _ _)]) rfl trivial rfl) ?_
  refine OkD.q (triCallP (x := .s (.agg [.v (.int _ _), .v (.int _ _), .v (.int _ _), .v (.int _ _)])) rfl trivial entry11 (Apply_p _ _ _ _ _ _ _ _ _) rfl rfl) ?_
  refine OkD.q (triCallP (x := .s (.agg [.v (.int _ _), .v (.int _ _), .v (.int _ _), .v (.int _ _)])) rfl trivial entry11 (Apply_p _ _ _ _ _ _ _ _ _) rfl rfl) ?_
  refine OkD.q (triEqS (b := _) rfl rfl eqok23 rfl trivial rfl) ?_
  refine OkD.q (triQ (x := .c (.v (.bool _))) rfl trivial rfl) ?_
  refine OkD.q (triQG (x := .agg [.v (.int _ _), .v (.bool _), .v (.int _ _), .v (.int _ _), .v (.int _ _)]) rfl rfl trivial rfl) ?_
  refine OkD.q (triQG (x := .agg [.v (.int _ _), .v (.int _ _)]) rfl rfl trivial rfl) ?_
  refine OkD.q (triCallPG (x := .agg [.v (.int _ _), .v (.int _ _)]) rfl rfl ⟨fun h => h, ⟨fun h => h, trivial⟩⟩ entry14 (fun _ => Back_p _ _ _ _ _ _ _) rfl rfl) ?_
  refine OkD.q (triQG (x := .agg [.v (.int _ _), .v (.bool _), .v (.int _ _), .v (.int _ _), .v (.int _ _)]) rfl rfl trivial rfl) ?_
  refine OkD.q (triQG (x := .agg [.v (.int _ _), .v (.bool _), .v (.int _ _), .v (.int _ _), .v (.int _ _)]) rfl rfl trivial rfl) ?_
  refine OkD.q (triQG (x := .agg [.v (.int _ _), .v (.int _ _)]) rfl rfl trivial rfl) ?_
  refine OkD.q (triCallPG (x := .agg [.v (.int _ _), .v (.int _ _)]) rfl rfl ⟨fun h => h, ⟨fun h => h, trivial⟩⟩ entry14 (fun _ => Back_p _ _ _ _ _ _ _) rfl rfl) ?_
  refine OkD.q (triCallPG (x := .agg [.v (.int _ _), .v (.int _ _)]) rfl rfl ⟨fun h => h, ⟨fun h => h, trivial⟩⟩ entry14 (fun _ => Back_p _ _ _ _ _ _ _) rfl rfl) ?_
  refine OkD.q (triEqSG (b := _) rfl rfl rfl eqok31 rfl ⟨fun h => h, ⟨fun h => h, trivial⟩⟩ rfl) ?_
  refine OkD.q (triAnd rfl rfl (fun h => h) rfl) ?_
  refine OkD.q (triQ (x := .c (.v (.bool _))) rfl trivial rfl) ?_
  refine OkD.q (triCallPG (x := .c (.v (.bool _))) rfl rfl trivial entry12 (fun _ => awake_p) rfl rfl) ?_
  refine OkD.q (triAnd rfl rfl (fun h => h) rfl) ?_
  refine OkD.q (triQ (x := .c (.v (.bool _))) rfl trivial rfl) ?_
  refine OkD.nil (by kernel_rfl) ?_
  refine Ok.ret ?_
  have hx := tmod_bd x (n := 100) (by decide)
  have hy := tmod_bd y (n := 100) (by decide)
  have hu := and63 u
  have hv := and63 v
  have hp := tmod_bd p (n := 20000) (by decide)
  have hq := tmod_bd q (n := 20000) (by decide)
  refine ⟨_, rfl, bv ?_⟩
  rw [Bool.and_true, Bool.and_eq_true]
  exact ⟨beq4 (comb_app hA hB hx hy hu hv), beq2 (comb_back hA hB hp hq)⟩
end Go.Proofs.Ytilglbkpapbkpaa

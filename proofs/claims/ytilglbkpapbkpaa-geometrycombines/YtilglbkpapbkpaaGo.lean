/-
  The plain laws of layer 2: combined transforms.
-/
import Derived.Test.YtilglbkpapbkpaaGm
namespace Go.Proofs.Ytilglbkpapbkpaa
open Go.Ev

/-- a small transform -/
def Sm (a : Tr) : Prop := VT a.1 a.2.2.1 a.2.2.2.1 a.2.2.2.2 ∧ a.2.2.1 ≤ 4 ∧ -1000 < a.2.2.2.1 ∧ a.2.2.2.1 < 1000 ∧ -1000 < a.2.2.2.2 ∧ a.2.2.2.2 < 1000
theorem small_sm (a b c d : Int) (m : Bool) : Sm (smallT a b c d m) := by
  have h := small_bd a b c d m
  exact ⟨h.1, h.2.1, h.2.2.2.1, h.2.2.2.2.1, h.2.2.2.2.2⟩
/-- the combined transform, without a limit -/
def cmb (t1 : Int) (m1 : Bool) (s1 x1 y1 t2 : Int) (m2 : Bool) (s2 x2 y2 : Int) : Tr :=
  (sel m1 ((t1 + 4 - t2).tmod 4) ((t1 + t2).tmod 4), !(m1 == m2), s1 * s2,
   (match t1 with | 0 => sel m1 (-x2) x2 | 1 => -y2 | 2 => sel m1 x2 (-x2) | _ => y2) * s1 + x1, (match t1 with | 0 => y2 | 1 => sel m1 (-x2) x2 | 2 => -y2 | _ => sel m1 x2 (-x2)) * s1 + y1)
theorem cand_cmb {t1 s1 x1 y1 t2 s2 x2 y2 : Int} {m1 m2 : Bool} (ha : Sm (t1, m1, s1, x1, y1)) (hb : Sm (t2, m2, s2, x2, y2)) :
    cand (t1, m1, s1, x1, y1) (t2, m2, s2, x2, y2) = cmb t1 m1 s1 x1 y1 t2 m2 s2 x2 y2 ∧ VT (cmb t1 m1 s1 x1 y1 t2 m2 s2 x2 y2).1 (cmb t1 m1 s1 x1 y1 t2 m2 s2 x2 y2).2.2.1 (cmb t1 m1 s1 x1 y1 t2 m2 s2 x2 y2).2.2.2.1 (cmb t1 m1 s1 x1 y1 t2 m2 s2 x2 y2).2.2.2.2 := by
  obtain ⟨ha1, ha2, ha3⟩ := ha
  obtain ⟨hb1, hb2, hb3⟩ := hb
  simp only [VT] at ha1 ha2 ha3 hb1 hb2 hb3
  have b1 := mul_bd (x := x2) (s := s1) (B := 1000) (by omega) (by omega) (by omega)
  have b2 := mul_bd (x := y2) (s := s1) (B := 1000) (by omega) (by omega) (by omega)
  have b3 := mulb (x := s1) (y := s2) (a := 4) (b := 4) (by omega) (by omega) (by omega)
  have b4 : 1 * 1 ≤ s1 * s2 := Int.mul_le_mul (by omega) (by omega) (by omega) (by omega)
  obtain ⟨e1, e2⟩ := linX_val (m := m1) (dx := x1) (dy := y1) (t := t1) (s := s1) (p := x2) (q := y2) (by omega) (by omega) (by omega) (by omega)
  have hturn : sel m1 (wr (wr (t1 + 4) - t2)) (wr (t1 + t2)) = sel m1 (t1 + 4 - t2) (t1 + t2) := by
    rw [wr_id (x := t1 + 4) (by omega) (by omega), wr_id (by omega) (by omega), wr_id (by omega) (by omega)]
  have e3 : (sel m1 (t1 + 4 - t2) (t1 + t2)).tmod 4 = sel m1 ((t1 + 4 - t2).tmod 4) ((t1 + t2).tmod 4) := by cases m1 <;> rfl
  constructor
  · unfold cand cmb
    simp only
    rw [e1, e2, hturn, e3, wr_id (x := s1 * s2) (by omega) (by omega)]
    refine Prod.ext rfl (Prod.ext rfl (Prod.ext rfl (Prod.ext ?_ ?_)))
    · rcases four (by omega : 0 ≤ t1 ∧ t1 ≤ 3) with rfl | rfl | rfl | rfl <;> cases m1 <;> simp only [sel, Bool.false_eq_true, if_false, if_true, Int.neg_mul] <;> rw [wr_id (by omega) (by omega)]
    · rcases four (by omega : 0 ≤ t1 ∧ t1 ≤ 3) with rfl | rfl | rfl | rfl <;> cases m1 <;> simp only [sel, Bool.false_eq_true, if_false, if_true, Int.neg_mul] <;> rw [wr_id (by omega) (by omega)]
  · unfold cmb VT
    simp only
    have k1 : 0 ≤ sel m1 ((t1 + 4 - t2).tmod 4) ((t1 + t2).tmod 4) ∧ sel m1 ((t1 + 4 - t2).tmod 4) ((t1 + t2).tmod 4) ≤ 3 := by
      have h1 := Int.tmod_nonneg (a := t1 + 4 - t2) 4 (by omega)
      have h2 := Int.tmod_nonneg (a := t1 + t2) 4 (by omega)
      have h3 := Int.tmod_lt_of_pos (t1 + 4 - t2) (b := 4) (by omega)
      have h4 := Int.tmod_lt_of_pos (t1 + t2) (b := 4) (by omega)
      cases m1
      · rw [sel_f rfl]; omega
      · rw [sel_t rfl]; omega
    refine ⟨k1.1, k1.2, by omega, by omega, ?_⟩
    rcases four (by omega : 0 ≤ t1 ∧ t1 ≤ 3) with rfl | rfl | rfl | rfl <;> cases m1 <;> simp only [sel, Bool.false_eq_true, if_false, if_true, Int.neg_mul] <;> omega
theorem comb_ok {a b : Tr} (ha : Sm a) (hb : Sm b) : combP a b = (cmb a.1 a.2.1 a.2.2.1 a.2.2.2.1 a.2.2.2.2 b.1 b.2.1 b.2.2.1 b.2.2.2.1 b.2.2.2.2, 0) := by
  obtain ⟨t1, m1, s1, x1, y1⟩ := a
  obtain ⟨t2, m2, s2, x2, y2⟩ := b
  obtain ⟨e, hv⟩ := cand_cmb ha hb
  rw [combP3]
  · rw [e]
  · unfold bT; rw [sel_ne, sel_ne, badT_eq, badT_eq, (okT_iff _ _ _ _).2 ha.1, (okT_iff _ _ _ _).2 hb.1]; rfl
  · unfold bT; rw [sel_ne, badT_eq, e, (okT_iff _ _ _ _).2 hv]; rfl
theorem img_bd {t s dx dy x y u v : Int} {m : Bool} (ht : VT t s dx dy) (hs : s ≤ 4) (hd : -1000 < dx ∧ dx < 1000 ∧ -1000 < dy ∧ dy < 1000) (hx : -100 < x ∧ x < 100) (hy : -100 < y ∧ y < 100) (hu : 0 ≤ u ∧ u ≤ 63) (hv : 0 ≤ v ∧ v ≤ 63) :
    VR (img t m s dx dy x y u v).1 (img t m s dx dy x y u v).2.1 (img t m s dx dy x y u v).2.2.1 (img t m s dx dy x y u v).2.2.2 := by
  unfold VT at ht
  have b1 := mul_bd (x := x) (s := s) (B := 100) (by omega) (by omega) (by omega)
  have b2 := mul_bd (x := y) (s := s) (B := 100) (by omega) (by omega) (by omega)
  have b3 := mul_bd (x := u) (s := s) (B := 63) (by omega) (by omega) (by omega)
  have b4 := mul_bd (x := v) (s := s) (B := 63) (by omega) (by omega) (by omega)
  have n3 := mul_nn (x := u) (s := s) (by omega) (by omega)
  have n4 := mul_nn (x := v) (s := s) (by omega) (by omega)
  rcases four (by omega : 0 ≤ t ∧ t ≤ 3) with rfl | rfl | rfl | rfl <;> cases m <;>
    simp only [img, sel, Bool.false_eq_true, if_false, if_true, VR, Int.sub_mul, Int.neg_mul] <;> omega
theorem img_cmb {t1 s1 x1 y1 t2 s2 x2 y2 x y u v : Int} {m1 m2 : Bool} (h1 : 0 ≤ t1 ∧ t1 ≤ 3) (h2 : 0 ≤ t2 ∧ t2 ≤ 3) :
    img (cmb t1 m1 s1 x1 y1 t2 m2 s2 x2 y2).1 (cmb t1 m1 s1 x1 y1 t2 m2 s2 x2 y2).2.1 (cmb t1 m1 s1 x1 y1 t2 m2 s2 x2 y2).2.2.1 (cmb t1 m1 s1 x1 y1 t2 m2 s2 x2 y2).2.2.2.1 (cmb t1 m1 s1 x1 y1 t2 m2 s2 x2 y2).2.2.2.2 x y u v =
    img t1 m1 s1 x1 y1 (img t2 m2 s2 x2 y2 x y u v).1 (img t2 m2 s2 x2 y2 x y u v).2.1 (img t2 m2 s2 x2 y2 x y u v).2.2.1 (img t2 m2 s2 x2 y2 x y u v).2.2.2 := by
  have c : ∀ z : Int, z * (s1 * s2) = z * s2 * s1 := fun z => by rw [Int.mul_comm s1 s2, ← Int.mul_assoc]
  rcases four h1 with rfl | rfl | rfl | rfl <;> rcases four h2 with rfl | rfl | rfl | rfl <;> cases m1 <;> cases m2 <;>
    (refine Prod.ext ?_ (Prod.ext ?_ (Prod.ext ?_ ?_)) <;>
      simp [img, cmb, sel, c, Int.sub_mul, Int.add_mul, Int.neg_mul] <;> (try omega))
theorem src_cmb {t1 s1 x1 y1 t2 s2 x2 y2 p q : Int} {m1 m2 : Bool} (h1 : 0 ≤ t1 ∧ t1 ≤ 3) (h2 : 0 ≤ t2 ∧ t2 ≤ 3) (hs1 : 1 ≤ s1) (hs2 : 1 ≤ s2) :
    src (cmb t1 m1 s1 x1 y1 t2 m2 s2 x2 y2).1 (cmb t1 m1 s1 x1 y1 t2 m2 s2 x2 y2).2.1 ((p - (cmb t1 m1 s1 x1 y1 t2 m2 s2 x2 y2).2.2.2.1) / (cmb t1 m1 s1 x1 y1 t2 m2 s2 x2 y2).2.2.1) ((q - (cmb t1 m1 s1 x1 y1 t2 m2 s2 x2 y2).2.2.2.2) / (cmb t1 m1 s1 x1 y1 t2 m2 s2 x2 y2).2.2.1) =
    src t2 m2 (((src t1 m1 ((p - x1) / s1) ((q - y1) / s1)).1 - x2) / s2) (((src t1 m1 ((p - x1) / s1) ((q - y1) / s1)).2 - y2) / s2) := by
  have b4 : 1 * 1 ≤ s1 * s2 := Int.mul_le_mul hs1 hs2 (by omega) (by omega)
  have hS : 1 ≤ s1 * s2 := by omega
  rcases four h1 with rfl | rfl | rfl | rfl <;> rcases four h2 with rfl | rfl | rfl | rfl <;> cases m1 <;> cases m2 <;>
    (refine Prod.ext ?_ ?_ <;>
      simp [src, cmb, sel] <;>
      simp only [neg1 hs1, comp hs1 hs2, neg1 hS] <;>
      (try (refine congrArg (fun z => z / (s1 * s2)) ?_; (try simp only [Int.neg_mul]); omega)))
end Go.Proofs.Ytilglbkpapbkpaa

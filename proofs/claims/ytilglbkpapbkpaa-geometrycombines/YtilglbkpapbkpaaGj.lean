/-
  The plain laws of layer 2: points in rectangles, turns.
-/
import Derived.Test.YtilglbkpapbkpaaGf
namespace Go.Proofs.Ytilglbkpapbkpaa
open Go.Ev

theorem contR_iff (r : Quad) (p q : Int) : contR r.1 r.2.1 r.2.2.1 r.2.2.2 p q = true ↔ VR r.1 r.2.1 r.2.2.1 r.2.2.2 ∧ r.1 ≤ p ∧ p < r.1 + r.2.2.1 ∧ r.2.1 ≤ q ∧ q < r.2.1 + r.2.2.2 := by
  unfold contR
  by_cases h : VR r.1 r.2.1 r.2.2.1 r.2.2.2
  · rw [(okR_iff _ _ _ _).2 h]
    unfold VR at h
    rw [wr_id (by omega) (by omega), wr_id (by omega) (by omega)]
    simp only [Bool.true_and, Bool.and_eq_true, decide_eq_true_eq]
    unfold VR
    omega
  · have : okR r.1 r.2.1 r.2.2.1 r.2.2.2 = false := by
      cases hb : okR r.1 r.2.1 r.2.2.1 r.2.2.2 with
      | false => rfl
      | true => exact absurd ((okR_iff _ _ _ _).1 hb) h
    rw [this]
    simp [h]
/-- a rectangle that is not valid holds no point, as its stand-in -/
theorem contR_v (r : Quad) (p q : Int) : contR r.1 r.2.1 r.2.2.1 r.2.2.2 p q = true ↔ (vR r).1 ≤ p ∧ p < (vR r).1 + (vR r).2.2.1 ∧ (vR r).2.1 ≤ q ∧ q < (vR r).2.1 + (vR r).2.2.2 := by
  rw [contR_iff]
  by_cases h : VR r.1 r.2.1 r.2.2.1 r.2.2.2
  · rw [vR_ok h]; simp [h]
  · rw [vR_bad h]
    simp only [h, false_and, false_iff]
    omega
theorem inter_pt (a b : Quad) (p q : Int) : contR (interR a b).1 (interR a b).2.1 (interR a b).2.2.1 (interR a b).2.2.2 p q = (contR a.1 a.2.1 a.2.2.1 a.2.2.2 p q && contR b.1 b.2.1 b.2.2.1 b.2.2.2 p q) := by
  rw [Bool.eq_iff_iff, Bool.and_eq_true, contR_iff, contR_v a, contR_v b]
  have ha := vR_bd a
  have hb := vR_bd b
  unfold VR at ha hb
  unfold interR iw ih
  generalize vR a = A at *
  generalize vR b = B at *
  obtain ⟨a1, a2, a3, a4⟩ := A
  obtain ⟨b1, b2, b3, b4⟩ := B
  simp only at *
  simp only [wr_id (x := a1 + a3) (by omega) (by omega), wr_id (x := b1 + b3) (by omega) (by omega), wr_id (x := a2 + a4) (by omega) (by omega), wr_id (x := b2 + b4) (by omega) (by omega)]
  have k1 := mx_bd a1 b1; have k2 := mx_bd a2 b2; have k3 := mn_bd (a1 + a3) (b1 + b3); have k4 := mn_bd (a2 + a4) (b2 + b4)
  generalize mxI a1 b1 = l at *
  generalize mxI a2 b2 = t at *
  generalize mnI (a1 + a3) (b1 + b3) = r at *
  generalize mnI (a2 + a4) (b2 + b4) = bo at *
  simp only [wr_id (x := r - l) (by omega) (by omega), wr_id (x := bo - t) (by omega) (by omega)]
  cases hc : (decide (r - l ≤ 0) || decide (bo - t ≤ 0)) with
  | true =>
    rw [selQ_t rfl]
    simp only [Bool.or_eq_true, decide_eq_true_eq] at hc
    simp only [VR]
    omega
  | false =>
    rw [selQ_f rfl]
    simp only [Bool.or_eq_false_iff, decide_eq_false_iff_not] at hc
    simp only [VR]
    omega
theorem union_pt (a b : Quad) (p q : Int) (hv : badR (unionR a b).1 (unionR a b).2.1 (unionR a b).2.2.1 (unionR a b).2.2.2 = false) (h : contR a.1 a.2.1 a.2.2.1 a.2.2.2 p q = true ∨ contR b.1 b.2.1 b.2.2.1 b.2.2.2 p q = true) :
    contR (unionR a b).1 (unionR a b).2.1 (unionR a b).2.2.1 (unionR a b).2.2.2 p q = true := by
  rw [contR_v a, contR_v b] at h
  have hok : VR (unionR a b).1 (unionR a b).2.1 (unionR a b).2.2.1 (unionR a b).2.2.2 := by
    rw [badR_eq] at hv
    exact (okR_iff _ _ _ _).1 (by simpa using hv)
  rw [contR_iff]
  refine ⟨hok, ?_⟩
  clear hok hv
  have ha := vR_bd a
  have hb := vR_bd b
  have eE : ∀ r : Quad, eR r = true → (vR r).2.2.1 = 0 ∨ (vR r).2.2.2 = 0 := by
    intro r hr
    unfold eR emptyR at hr
    rw [(okR_iff _ _ _ _).2 (vR_bd r)] at hr
    simpa using hr
  unfold VR at ha hb
  cases h1 : (eR a && eR b) with
  | true =>
    simp only [Bool.and_eq_true] at h1
    have e1 := eE a h1.1
    have e2 := eE b h1.2
    omega
  | false =>
    cases h2 : eR a with
    | true =>
      rw [unionR2 h1 h2]
      have e1 := eE a h2
      omega
    | false =>
      cases h3 : eR b with
      | true =>
        rw [unionR3 h1 h2 h3]
        have e1 := eE b h3
        omega
      | false =>
        rw [unionR4 h1 h2 h3]
        generalize vR a = A at *
        generalize vR b = B at *
        obtain ⟨a1, a2, a3, a4⟩ := A
        obtain ⟨b1, b2, b3, b4⟩ := B
        simp only at *
        simp only [wr_id (x := a1 + a3) (by omega) (by omega), wr_id (x := b1 + b3) (by omega) (by omega), wr_id (x := a2 + a4) (by omega) (by omega), wr_id (x := b2 + b4) (by omega) (by omega)]
        have k1 := mn_bd a1 b1; have k2 := mn_bd a2 b2; have k3 := mx_bd (a1 + a3) (b1 + b3); have k4 := mx_bd (a2 + a4) (b2 + b4)
        generalize mnI a1 b1 = l at *
        generalize mnI a2 b2 = t at *
        generalize mxI (a1 + a3) (b1 + b3) = r at *
        generalize mxI (a2 + a4) (b2 + b4) = bo at *
        simp only [wr_id (x := r - l) (by omega) (by omega), wr_id (x := bo - t) (by omega) (by omega)]
        omega

/-! ### small transforms -/
theorem and3 (x : Int) : 0 ≤ andI x 3 ∧ andI x 3 ≤ 3 := by
  unfold andI
  have h : (BitVec.ofInt 64 x &&& BitVec.ofInt 64 3).toNat ≤ 3 := by
    rw [BitVec.toNat_and]
    exact Nat.le_trans Nat.and_le_right (by decide)
  rw [wr_id (by omega) (by omega)]
  omega
theorem and63 (x : Int) : 0 ≤ andI x 63 ∧ andI x 63 ≤ 63 := by
  unfold andI
  have h : (BitVec.ofInt 64 x &&& BitVec.ofInt 64 63).toNat ≤ 63 := by
    rw [BitVec.toNat_and]
    exact Nat.le_trans Nat.and_le_right (by decide)
  rw [wr_id (by omega) (by omega)]
  omega
theorem tmod_bd (x : Int) {n : Int} (hn : 0 < n) : -n < x.tmod n ∧ x.tmod n < n := by
  constructor
  · rcases Int.lt_or_le x 0 with h | h
    · have h1 : (-x).tmod n < n := Int.tmod_lt_of_pos _ hn
      rw [Int.neg_tmod] at h1
      omega
    · have := Int.tmod_nonneg (a := x) n h
      omega
  · exact Int.tmod_lt_of_pos _ hn
theorem small_bd (a b c d : Int) (m : Bool) : VT (smallT a b c d m).1 (smallT a b c d m).2.2.1 (smallT a b c d m).2.2.2.1 (smallT a b c d m).2.2.2.2 ∧ (smallT a b c d m).2.2.1 ≤ 4 ∧ (smallT a b c d m).2.1 = m ∧
    -1000 < (smallT a b c d m).2.2.2.1 ∧ (smallT a b c d m).2.2.2.1 < 1000 ∧ -1000 < (smallT a b c d m).2.2.2.2 ∧ (smallT a b c d m).2.2.2.2 < 1000 := by
  unfold smallT
  have h1 := and3 a
  have h2 := and3 b
  have h3 := tmod_bd c (n := 1000) (by decide)
  have h4 := tmod_bd d (n := 1000) (by decide)
  simp only
  rw [wr_id (by omega) (by omega)]
  unfold VT
  refine ⟨by omega, by omega, trivial, by omega, by omega, by omega, by omega⟩
theorem app_one {x y u v : Int} (hr : VR x y u v) : appP 1 false 1 0 0 (x, y, u, v) = (-y - v, x, v, u) := by
  rw [appP_img 1 (by unfold VT; omega) hr]
  simp [img, sel]
theorem app_flip {x y u v : Int} (hr : VR x y u v) : appP 0 true 1 0 0 (x, y, u, v) = (-x - u, y, u, v) := by
  rw [appP_img 0 (by unfold VT; omega) hr]
  simp [img, sel]
end Go.Proofs.Ytilglbkpapbkpaa

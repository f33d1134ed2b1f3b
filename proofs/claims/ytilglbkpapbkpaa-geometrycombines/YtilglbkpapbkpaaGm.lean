/-
  The plain laws of layer 2: a point is in an image where it comes from a pixel of the rectangle; combined transforms.
-/
import Derived.Test.YtilglbkpapbkpaaGl
namespace Go.Proofs.Ytilglbkpapbkpaa
open Go.Ev

section
variable {a s x u : Int}
theorem in1 (hs : 1 ≤ s) : (x ≤ a / s ∧ a / s < x + u) ↔ (x * s ≤ a ∧ a < x * s + u * s) := by
  rw [Int.le_ediv_iff_mul_le (by omega), Int.ediv_lt_iff_lt_mul (by omega), Int.add_mul]
theorem in2 (hs : 1 ≤ s) : (x ≤ -(a / s) - 1 ∧ -(a / s) - 1 < x + u) ↔ (-(x * s) - u * s ≤ a ∧ a < -(x * s)) := by
  have h1 : (x ≤ -(a / s) - 1) ↔ a / s < -x := by omega
  have h2 : (-(a / s) - 1 < x + u) ↔ -x - u ≤ a / s := by omega
  rw [h1, h2, Int.le_ediv_iff_mul_le (by omega), Int.ediv_lt_iff_lt_mul (by omega), Int.sub_mul, Int.neg_mul]
  omega
theorem neg1 (hs : 1 ≤ s) : -(a / s) - 1 = (-a - 1) / s := by
  have h := Int.mul_ediv_add_emod a s
  have h0 := Int.emod_nonneg a (by omega : s ≠ 0)
  have h1 := Int.emod_lt_of_pos a (by omega : 0 < s)
  symm
  refine ((Int.ediv_emod_unique (a := -a - 1) (b := s) (r := s - 1 - a % s) (q := -(a / s) - 1) (by omega)).2 ⟨?_, by omega, by omega⟩).1
  rw [Int.mul_sub, Int.mul_neg]
  omega
theorem comp {s1 s2 y : Int} (h1 : 1 ≤ s1) (h2 : 1 ≤ s2) : (a / s1 - y) / s2 = (a - y * s1) / (s1 * s2) := by
  have e : (a - y * s1) / s1 / s2 = (a - y * s1) / (s1 * s2) := by
    rw [Int.ediv_ediv, if_neg (by omega)]; omega
  rw [← e, Int.sub_mul_ediv_right _ _ (by omega)]
end
theorem back_pt {t s dx dy x y u v p q : Int} {m : Bool} (ht : VT t s dx dy) (hs : s ≤ 4) (hd : -1000 < dx ∧ dx < 1000 ∧ -1000 < dy ∧ dy < 1000) (hx : -100 < x ∧ x < 100) (hy : -100 < y ∧ y < 100) (hu : 0 ≤ u ∧ u ≤ 63) (hv : 0 ≤ v ∧ v ≤ 63) (hp : -2000 < p ∧ p < 2000) (hq : -2000 < q ∧ q < 2000) :
    contP (appP t m s dx dy (x, y, u, v)).1 (appP t m s dx dy (x, y, u, v)).2.1 (appP t m s dx dy (x, y, u, v)).2.2.1 (appP t m s dx dy (x, y, u, v)).2.2.2 p q = contP x y u v (backP t m s dx dy p q).1 (backP t m s dx dy p q).2 := by
  have hr : VR x y u v := by unfold VR; omega
  rw [contP_eq, contP_eq, appP_img t ht hr, backP_src ht (by omega) (by omega), Bool.eq_iff_iff, contR_iff (img t m s dx dy x y u v), contR_iff (x, y, u, v)]
  unfold VT at ht
  have b1 := mul_bd (x := x) (s := s) (B := 100) (by omega) (by omega) (by omega)
  have b2 := mul_bd (x := y) (s := s) (B := 100) (by omega) (by omega) (by omega)
  have b3 := mul_bd (x := u) (s := s) (B := 63) (by omega) (by omega) (by omega)
  have b4 := mul_bd (x := v) (s := s) (B := 63) (by omega) (by omega) (by omega)
  have n3 := mul_nn (x := u) (s := s) (by omega) (by omega)
  have n4 := mul_nn (x := v) (s := s) (by omega) (by omega)
  have s1 : 1 ≤ s := by omega
  simp only [hr, true_and]
  rcases four (by omega : 0 ≤ t ∧ t ≤ 3) with rfl | rfl | rfl | rfl <;> cases m <;>
    simp only [img, src, sel, Bool.false_eq_true, if_false, if_true, VR, Int.sub_mul, Int.neg_mul]
  · have i1 := in1 (a := p - dx) (x := x) (u := u) s1; have i2 := in1 (a := q - dy) (x := y) (u := v) s1; omega
  · have i1 := in2 (a := p - dx) (x := x) (u := u) s1; have i2 := in1 (a := q - dy) (x := y) (u := v) s1; omega
  · have i1 := in2 (a := p - dx) (x := y) (u := v) s1; have i2 := in1 (a := q - dy) (x := x) (u := u) s1; omega
  · have i1 := in2 (a := p - dx) (x := y) (u := v) s1; have i2 := in2 (a := q - dy) (x := x) (u := u) s1; omega
  · have i1 := in2 (a := p - dx) (x := x) (u := u) s1; have i2 := in2 (a := q - dy) (x := y) (u := v) s1; omega
  · have i1 := in1 (a := p - dx) (x := x) (u := u) s1; have i2 := in2 (a := q - dy) (x := y) (u := v) s1; omega
  · have i1 := in1 (a := p - dx) (x := y) (u := v) s1; have i2 := in2 (a := q - dy) (x := x) (u := u) s1; omega
  · have i1 := in1 (a := p - dx) (x := y) (u := v) s1; have i2 := in1 (a := q - dy) (x := x) (u := u) s1; omega
end Go.Proofs.Ytilglbkpapbkpaa

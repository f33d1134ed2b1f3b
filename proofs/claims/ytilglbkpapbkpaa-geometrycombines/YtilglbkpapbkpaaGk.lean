/-
  The plain laws of layer 2: turns, images of points, combined transforms.
-/
import Derived.Test.YtilglbkpapbkpaaGj
namespace Go.Proofs.Ytilglbkpapbkpaa
open Go.Ev

theorem turns1 {x y u v : Int} (hx : -100 < x ∧ x < 100) (hy : -100 < y ∧ y < 100) (hu : 0 ≤ u ∧ u ≤ 63) (hv : 0 ≤ v ∧ v ≤ 63) :
    appP 1 false 1 0 0 (appP 1 false 1 0 0 (appP 1 false 1 0 0 (appP 1 false 1 0 0 (x, y, u, v)))) = (x, y, u, v) := by
  rw [app_one (x := x) (y := y) (u := u) (v := v) (by unfold VR; omega), app_one (x := -y - v) (y := x) (u := v) (v := u) (by unfold VR; omega), app_one (x := -x - u) (y := -y - v) (u := u) (v := v) (by unfold VR; omega), app_one (x := -(-y - v) - v) (y := -x - u) (u := v) (v := u) (by unfold VR; omega)]
  refine Prod.ext ?_ (Prod.ext ?_ rfl) <;> simp only <;> omega
theorem turns2 {x y u v : Int} (hx : -100 < x ∧ x < 100) (hy : -100 < y ∧ y < 100) (hu : 0 ≤ u ∧ u ≤ 63) (hv : 0 ≤ v ∧ v ≤ 63) :
    appP 0 true 1 0 0 (appP 0 true 1 0 0 (x, y, u, v)) = (x, y, u, v) := by
  rw [app_flip (x := x) (y := y) (u := u) (v := v) (by unfold VR; omega), app_flip (x := -x - u) (y := y) (u := u) (v := v) (by unfold VR; omega)]
  refine Prod.ext ?_ rfl
  simp only
  omega
theorem mulb {x y a b : Int} (hx : 0 ≤ x ∧ x ≤ a) (hy : 0 ≤ y ∧ y ≤ b) (ha : 0 ≤ a) : 0 ≤ x * y ∧ x * y ≤ a * b := by
  refine ⟨Int.mul_nonneg hx.1 hy.1, ?_⟩
  have h1 : x * y ≤ a * y := Int.mul_le_mul_of_nonneg_right hx.2 hy.1
  have h2 : a * y ≤ a * b := Int.mul_le_mul_of_nonneg_left hy.2 ha
  omega
theorem turns3 {t s dx dy x y u v : Int} {m : Bool} (ht : VT t s dx dy) (hs : s ≤ 4) (hx : -100 < x ∧ x < 100) (hy : -100 < y ∧ y < 100) (hu : 0 ≤ u ∧ u ≤ 63) (hv : 0 ≤ v ∧ v ≤ 63) :
    wr ((appP t m s dx dy (x, y, u, v)).2.2.1 * (appP t m s dx dy (x, y, u, v)).2.2.2) = wr (wr (wr (u * v) * s) * s) := by
  rw [appP_img t ht (by unfold VR; omega)]
  unfold VT at ht
  have b1 := mulb hu hv (by omega)
  have b2 := mulb b1 (y := s) (b := 4) (by omega) (by omega)
  have b3 := mulb b2 (y := s) (b := 4) (by omega) (by omega)
  rw [wr_id (x := u * v) (by omega) (by omega), wr_id (x := u * v * s) (by omega) (by omega)]
  congr 1
  have e1 : u * s * (v * s) = u * v * s * s := by
    rw [Int.mul_assoc u s, ← Int.mul_assoc s v s, Int.mul_comm s v, Int.mul_assoc, Int.mul_assoc, Int.mul_assoc]
  have e2 : v * s * (u * s) = u * v * s * s := by rw [Int.mul_comm, e1]
  rcases four (by omega : 0 ≤ t ∧ t ≤ 3) with rfl | rfl | rfl | rfl <;> first | exact e1 | exact e2

/-! ### the pixel that a point comes from -/
theorem floorG_ediv {a b : Int} (ha : -4194304 ≤ a ∧ a ≤ 4194304) (hb : 1 ≤ b ∧ b ≤ 16) : floorG a b = a / b := by
  unfold floorG
  have hq := Int.mul_tdiv_add_tmod a b
  have hm := tmod_bd a (n := b) (by omega)
  have hb' : -4194304 ≤ a.tdiv b ∧ a.tdiv b ≤ 4194304 := by
    have h1 : a.tdiv b * b = a - a.tmod b := by rw [Int.mul_comm]; omega
    constructor
    · rcases Int.lt_or_le (a.tdiv b) (-4194304) with h | h
      · exfalso
        rcases Int.lt_or_le a 0 with h0 | h0
        · have h2 : 0 ≤ (-a).tdiv b := Int.tdiv_nonneg (by omega) (by omega)
          have h3 : (-a).tdiv b ≤ -a := Int.tdiv_le_self _ (by omega)
          rw [Int.neg_tdiv] at h3
          omega
        · have h2 : 0 ≤ a.tdiv b := Int.tdiv_nonneg h0 (by omega)
          omega
      · exact h
    · rcases Int.lt_or_le a 0 with h0 | h0
      · have h2 : 0 ≤ (-a).tdiv b := Int.tdiv_nonneg (by omega) (by omega)
        rw [Int.neg_tdiv] at h2
        omega
      · have := Int.tdiv_le_self b h0
        omega
  rw [wr_id (x := a.tdiv b) (by omega) (by omega), wr_id (by omega) (by omega)]
  cases hd : decide (a.tmod b < 0) with
  | true =>
    rw [sel_t rfl]
    have hneg : a.tmod b < 0 := of_decide_eq_true hd
    symm
    have e : a = (a.tmod b + b) + b * (a.tdiv b - 1) := by rw [Int.mul_sub]; omega
    exact ((Int.ediv_emod_unique (a := a) (b := b) (r := a.tmod b + b) (q := a.tdiv b - 1) (by omega)).2 ⟨e.symm, by omega, by omega⟩).1
  | false =>
    rw [sel_f rfl]
    have hnn : ¬ a.tmod b < 0 := of_decide_eq_false hd
    symm
    exact ((Int.ediv_emod_unique (a := a) (b := b) (r := a.tmod b) (q := a.tdiv b) (by omega)).2 ⟨by omega, by omega, by omega⟩).1

/-- where a point comes from, without a limit -/
def src (t : Int) (m : Bool) (f g : Int) : Int × Int :=
  match t with
  | 0 => (sel m (-f - 1) f, g)
  | 1 => (sel m (-g - 1) g, -f - 1)
  | 2 => (sel m f (-f - 1), -g - 1)
  | _ => (sel m g (-g - 1), f)
theorem backP_src {t s dx dy p q : Int} {m : Bool} (ht : VT t s dx dy) (hp : -2097152 ≤ p ∧ p ≤ 2097152) (hq : -2097152 ≤ q ∧ q ≤ 2097152) :
    backP t m s dx dy p q = src t m ((p - dx) / s) ((q - dy) / s) := by
  unfold backP
  rw [if_neg (by rw [sel_ne, badT_eq, (okT_iff _ _ _ _).2 ht, (within_iff p 2097152 (by decide) (by decide)).2 hp, (within_iff q 2097152 (by decide) (by decide)).2 hq]; simp)]
  unfold VT at ht
  rw [wr_id (x := p - dx) (by omega) (by omega), wr_id (x := q - dy) (by omega) (by omega), floorG_ediv (by omega) (by omega), floorG_ediv (by omega) (by omega)]
  have d1 : ∀ a : Int, -4194304 ≤ a ∧ a ≤ 4194304 → -4194304 ≤ a / s ∧ a / s ≤ 4194304 := by
    intro a ha
    constructor
    · have := Int.le_ediv_of_mul_le (a := -4194304) (b := a) (c := s) (by omega) (by
        have : (4194304 : Int) * 1 ≤ 4194304 * s := Int.mul_le_mul_of_nonneg_left (by omega) (by omega)
        omega)
      exact this
    · rcases Int.lt_or_le a 0 with h0 | h0
      · have := Int.ediv_neg_of_neg_of_pos h0 (by omega : 0 < s)
        omega
      · have := Int.ediv_le_self s h0
        omega
  have k1 := d1 (p - dx) (by omega)
  have k2 := d1 (q - dy) (by omega)
  generalize (p - dx) / s = f at *
  generalize (q - dy) / s = g at *
  rcases four (by omega : 0 ≤ t ∧ t ≤ 3) with rfl | rfl | rfl | rfl <;> cases m <;>
    simp only [src, Int.toNat_zero, rotB, sel, Bool.false_eq_true, if_false, if_true, show (1 : Int).toNat = 0 + 1 from rfl, show (2 : Int).toNat = 0 + 1 + 1 from rfl, show (3 : Int).toNat = 0 + 1 + 1 + 1 from rfl] <;>
    (refine Prod.ext ?_ ?_ <;> simp (disch := omega) only [wr_id, Int.zero_sub, Int.neg_neg, Int.neg_sub] <;> (try omega))
end Go.Proofs.Ytilglbkpapbkpaa

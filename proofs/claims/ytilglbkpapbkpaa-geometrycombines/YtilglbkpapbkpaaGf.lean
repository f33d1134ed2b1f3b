/-
  The plain laws of layer 2 on transforms.
-/
import Derived.Test.YtilglbkpapbkpaaGe
namespace Go.Proofs.Ytilglbkpapbkpaa
open Go.Ev

theorem wr_id {x : Int} (h1 : -9223372036854775808 ≤ x) (h2 : x < 9223372036854775808) : wr x = x := wrap_id h1 h2
theorem four {t : Int} (h : 0 ≤ t ∧ t ≤ 3) : t = 0 ∨ t = 1 ∨ t = 2 ∨ t = 3 := by omega
theorem mul_bd {x s B : Int} (hx : -B ≤ x ∧ x ≤ B) (hs : 1 ≤ s ∧ s ≤ 16) (hB : 0 ≤ B) : -(16 * B) ≤ x * s ∧ x * s ≤ 16 * B := by
  constructor
  · have h1 : -B * s ≤ x * s := Int.mul_le_mul_of_nonneg_right hx.1 (by omega)
    have h2 : B * s ≤ B * 16 := Int.mul_le_mul_of_nonneg_left hs.2 hB
    rw [Int.neg_mul] at h1
    omega
  · have h1 : x * s ≤ B * s := Int.mul_le_mul_of_nonneg_right hx.2 (by omega)
    have h2 : B * s ≤ B * 16 := Int.mul_le_mul_of_nonneg_left hs.2 hB
    omega
theorem mul_nn {x s : Int} (hx : 0 ≤ x) (hs : 1 ≤ s) : 0 ≤ x * s := Int.mul_nonneg hx (by omega)

/-- the image of a rectangle, without a limit -/
def img (t : Int) (m : Bool) (s dx dy x y u v : Int) : Quad :=
  match t with
  | 0 => (sel m (-x - u) x * s + dx, y * s + dy, u * s, v * s)
  | 1 => ((-y - v) * s + dx, sel m (-x - u) x * s + dy, v * s, u * s)
  | 2 => (sel m x (-x - u) * s + dx, (-y - v) * s + dy, u * s, v * s)
  | _ => (y * s + dx, sel m x (-x - u) * s + dy, v * s, u * s)
section
variable {x y u v s dx dy : Int} {m : Bool}
theorem rotA_0 (r : Quad) : rotA 0 r = r := rfl
theorem appP_img (t : Int) (ht : VT t s dx dy) (hr : VR x y u v) : appP t m s dx dy (x, y, u, v) = img t m s dx dy x y u v := by
  unfold appP
  rw [selQ_f (by rw [sel_ne, sel_ne, badT_eq, badR_eq, (okT_iff _ _ _ _).2 ht, (okR_iff _ _ _ _).2 hr]; rfl)]
  unfold VT at ht
  unfold VR at hr
  have b1 := mul_bd (x := x) (s := s) (B := 1048576) (by omega) (by omega) (by omega)
  have b2 := mul_bd (x := y) (s := s) (B := 1048576) (by omega) (by omega) (by omega)
  have b3 := mul_bd (x := u) (s := s) (B := 1048576) (by omega) (by omega) (by omega)
  have b4 := mul_bd (x := v) (s := s) (B := 1048576) (by omega) (by omega) (by omega)
  simp only
  rw [wr_id (x := 0 - x) (by omega) (by omega), wr_id (x := 0 - x - u) (by omega) (by omega)]
  rcases four (by omega : 0 ≤ t ∧ t ≤ 3) with rfl | rfl | rfl | rfl <;> cases m <;>
    simp only [img, Int.toNat_zero, rotA, sel, Bool.false_eq_true, if_false, if_true, show (1 : Int).toNat = 0 + 1 from rfl, show (2 : Int).toNat = 0 + 1 + 1 from rfl, show (3 : Int).toNat = 0 + 1 + 1 + 1 from rfl] <;>
    (refine Prod.ext ?_ (Prod.ext ?_ (Prod.ext ?_ ?_)) <;> simp (disch := omega) only [wr_id, Int.sub_mul, Int.add_mul, Int.neg_mul, Int.zero_mul, Int.zero_sub, Int.neg_neg, Int.neg_sub] <;> (try simp (disch := omega) only [wr_id]) <;> (try omega))
/-- corners -/
theorem linX_val {t : Int} {p q : Int} (ht : 0 ≤ t ∧ t ≤ 3) (hs : 1 ≤ s ∧ s ≤ 16) (hp : -4194304 ≤ p ∧ p ≤ 4194304) (hq : -4194304 ≤ q ∧ q ≤ 4194304) :
    linX (t, m, s, dx, dy) p q = (match t with | 0 => sel m (-p) p | 1 => -q | 2 => sel m p (-p) | _ => q) * s ∧ linY (t, m, s, dx, dy) p q = (match t with | 0 => q | 1 => sel m (-p) p | 2 => -q | _ => sel m p (-p)) * s := by
  have b1 := mul_bd (x := p) (s := s) (B := 4194304) (by omega) (by omega) (by omega)
  have b2 := mul_bd (x := q) (s := s) (B := 4194304) (by omega) (by omega) (by omega)
  unfold linX linY
  simp only
  rcases four ht with rfl | rfl | rfl | rfl <;> cases m <;>
    simp only [Int.toNat_zero, rotL, sel, Bool.false_eq_true, if_false, if_true, show (1 : Int).toNat = 0 + 1 from rfl, show (2 : Int).toNat = 0 + 1 + 1 from rfl, show (3 : Int).toNat = 0 + 1 + 1 + 1 from rfl] <;>
    (constructor <;> simp (disch := omega) only [wr_id, Int.neg_mul, Int.zero_sub, Int.neg_neg])
theorem appR_img (t : Int) (ht : VT t s dx dy) (hr : VR x y u v) : appR t m s dx dy (x, y, u, v) = img t m s dx dy x y u v := by
  unfold appR
  rw [selQ_f (by rw [(okT_iff _ _ _ _).2 ht, (okR_iff _ _ _ _).2 hr]; rfl)]
  unfold VT at ht
  unfold VR at hr
  have b1 := mul_bd (x := x) (s := s) (B := 1048576) (by omega) (by omega) (by omega)
  have b2 := mul_bd (x := y) (s := s) (B := 1048576) (by omega) (by omega) (by omega)
  have b3 := mul_bd (x := u) (s := s) (B := 1048576) (by omega) (by omega) (by omega)
  have b4 := mul_bd (x := v) (s := s) (B := 1048576) (by omega) (by omega) (by omega)
  have n3 := mul_nn (x := u) (s := s) (by omega) (by omega)
  have n4 := mul_nn (x := v) (s := s) (by omega) (by omega)
  simp only
  rw [wr_id (x := x + u) (by omega) (by omega), wr_id (x := y + v) (by omega) (by omega)]
  obtain ⟨e1, e2⟩ := linX_val (m := m) (dx := dx) (dy := dy) (t := t) (s := s) (p := x) (q := y) (by omega) (by omega) (by omega) (by omega)
  obtain ⟨e3, e4⟩ := linX_val (m := m) (dx := dx) (dy := dy) (t := t) (s := s) (p := x + u) (q := y + v) (by omega) (by omega) (by omega) (by omega)
  rw [e1, e2, e3, e4]
  rcases four (by omega : 0 ≤ t ∧ t ≤ 3) with rfl | rfl | rfl | rfl <;> cases m <;>
    simp only [img, sel, Bool.false_eq_true, if_false, if_true] <;>
    (refine Prod.ext ?_ (Prod.ext ?_ (Prod.ext ?_ ?_)) <;> simp (disch := omega) only [wr_id, Int.sub_mul, Int.add_mul, Int.neg_mul, Int.neg_add] <;> (simp only [mxI, mnI]; repeat' split) <;> (try simp (disch := omega) only [wr_id]) <;> (try omega))
theorem app_eq (t : Int) (m : Bool) (s dx dy : Int) (r : Quad) : appP t m s dx dy r = appR t m s dx dy r := by
  obtain ⟨x, y, u, v⟩ := r
  by_cases h : VT t s dx dy ∧ VR x y u v
  · rw [appP_img t h.1 h.2, appR_img t h.1 h.2]
  · have hb : (!okT t s dx dy || !okR x y u v) = true := by
      cases h1 : okT t s dx dy <;> cases h2 : okR x y u v <;> simp
      exact h ⟨(okT_iff _ _ _ _).1 h1, (okR_iff _ _ _ _).1 h2⟩
    unfold appP appR
    rw [selQ_t (by rw [sel_ne, sel_ne, badT_eq, badR_eq]; exact hb), selQ_t hb]
theorem back_eq (t : Int) (m : Bool) (s dx dy p q : Int) : backP t m s dx dy p q = backR t m s dx dy p q := by
  unfold backP backR
  have e : (sel (badT t s dx dy) 1 0 != 0 || !within p 2097152 || !within q 2097152) = (!okT t s dx dy || !(within p 2097152 && within q 2097152)) := by
    rw [sel_ne, badT_eq]
    cases okT t s dx dy <;> cases within p 2097152 <;> cases within q 2097152 <;> rfl
  rw [e]
  split
  · rfl
  · rename_i h
    simp only [Bool.or_eq_true, Bool.not_eq_true', Bool.and_eq_false_iff, not_or, Bool.not_eq_false] at h
    obtain ⟨h1, h2, h3⟩ := h
    have ht := (okT_iff _ _ _ _).1 h1
    rw [within_iff _ _ (by decide) (by decide)] at h2 h3
    unfold VT at ht
    rw [floor_eq (wr (p - dx)) s (by rw [wr_id (by omega) (by omega)]; omega) (by omega), floor_eq (wr (q - dy)) s (by rw [wr_id (by omega) (by omega)]; omega) (by omega)]
theorem cand_eq (a b : Tr) : cand a b = candR a b := by
  unfold cand candR
  cases a.2.1 <;> rfl
theorem comb_eq (a b : Tr) : combP a b = combR a b := by
  unfold combP combR bT oT
  rw [sel_ne, sel_ne, sel_ne, badT_eq, badT_eq, badT_eq, cand_eq]
end
end Go.Proofs.Ytilglbkpapbkpaa

/-
  The plain laws of layer 2: what the program computes is what the reference computes.
-/
import Derived.Test.YtilglbkpapbkpaaGd
namespace Go.Proofs.Ytilglbkpapbkpaa
open Go.Ev

theorem within_iff (x b : Int) (hb : 0 ≤ b) (hb2 : b ≤ 4000000) : within x b = true ↔ -b ≤ x ∧ x ≤ b := by
  unfold within wr
  rw [wrap_id (by omega) (by omega)]
  simp only [Bool.and_eq_true, decide_eq_true_eq]
  omega
def VR (x y u v : Int) : Prop := -1048576 ≤ x ∧ x ≤ 1048576 ∧ -1048576 ≤ y ∧ y ≤ 1048576 ∧ 0 ≤ u ∧ u ≤ 1048576 ∧ 0 ≤ v ∧ v ≤ 1048576
theorem okR_iff (x y u v : Int) : okR x y u v = true ↔ VR x y u v := by
  unfold okR VR
  simp only [Bool.and_eq_true, decide_eq_true_eq, within_iff _ 1048576 (by decide) (by decide)]
  omega
theorem badR_iff (x y u v : Int) : badR x y u v = true ↔ ¬ VR x y u v := by
  have h1 := within_iff x 1048576 (by decide) (by decide)
  have h2 := within_iff y 1048576 (by decide) (by decide)
  unfold badR VR
  simp only [Bool.or_eq_true, Bool.not_eq_true', decide_eq_true_eq, ← Bool.not_eq_true, h1, h2]
  omega
theorem badR_eq (x y u v : Int) : badR x y u v = !okR x y u v := by
  have h1 := okR_iff x y u v
  have h2 := badR_iff x y u v
  cases ha : okR x y u v <;> cases hb : badR x y u v <;> simp_all
def VT (t s x y : Int) : Prop := 0 ≤ t ∧ t ≤ 3 ∧ 1 ≤ s ∧ s ≤ 16 ∧ -1048576 ≤ x ∧ x ≤ 1048576 ∧ -1048576 ≤ y ∧ y ≤ 1048576
theorem okT_iff (t s x y : Int) : okT t s x y = true ↔ VT t s x y := by
  unfold okT VT
  simp only [Bool.and_eq_true, decide_eq_true_eq, within_iff _ 1048576 (by decide) (by decide)]
  omega
theorem badT_iff (t s x y : Int) : badT t s x y = true ↔ ¬ VT t s x y := by
  have h1 := within_iff x 1048576 (by decide) (by decide)
  have h2 := within_iff y 1048576 (by decide) (by decide)
  unfold badT VT
  simp only [Bool.or_eq_true, Bool.not_eq_true', decide_eq_true_eq, ← Bool.not_eq_true, h1, h2]
  omega
theorem badT_eq (t s x y : Int) : badT t s x y = !okT t s x y := by
  have h1 := okT_iff t s x y
  have h2 := badT_iff t s x y
  cases ha : okT t s x y <;> cases hb : badT t s x y <;> simp_all
theorem sel_not (b : Bool) (x y : Int) : sel (!b) x y = sel b y x := by cases b <;> rfl
theorem sel_ne (b : Bool) : (sel b 1 0 != 0) = b := by cases b <;> rfl
theorem vP_eq (r : Quad) : vP r = vR r := by unfold vP vR; simp only [badR_eq, sel_not]
theorem vR_bd (r : Quad) : VR (vR r).1 (vR r).2.1 (vR r).2.2.1 (vR r).2.2.2 := by
  unfold vR
  cases h : okR r.1 r.2.1 r.2.2.1 r.2.2.2 with
  | true => simp only [sel_t]; exact (okR_iff _ _ _ _).1 h
  | false => simp only [sel_f]; unfold VR; omega
theorem vR_ok {r : Quad} (h : VR r.1 r.2.1 r.2.2.1 r.2.2.2) : vR r = r := by
  unfold vR
  rw [(okR_iff _ _ _ _).2 h]
  rfl
theorem vR_bad {r : Quad} (h : ¬ VR r.1 r.2.1 r.2.2.1 r.2.2.2) : vR r = (0, 0, 0, 0) := by
  unfold vR
  have : okR r.1 r.2.1 r.2.2.1 r.2.2.2 = false := by
    cases hb : okR r.1 r.2.1 r.2.2.1 r.2.2.2 with
    | false => rfl
    | true => exact absurd ((okR_iff _ _ _ _).1 hb) h
  rw [this]
  rfl
theorem emptyP_eq (x y u v : Int) : emptyP x y u v = emptyR x y u v := by
  unfold emptyP emptyR
  rw [badR_eq]
  cases okR x y u v <;> simp [sel]
theorem contP_eq (x y u v p q : Int) : contP x y u v p q = contR x y u v p q := by
  unfold contP contR
  rw [badR_eq]
  cases okR x y u v
  · simp only [Bool.not_false, sel_t rfl, Bool.false_and]
    rw [show wr (0 + 0) = 0 from by decide]
    rw [Bool.eq_false_iff]
    simp only [ne_eq, Bool.and_eq_true, decide_eq_true_eq]
    omega
  · simp only [Bool.not_true, sel_f rfl, Bool.true_and]
theorem btw_eq (l t r b : Int) (h1 : -4194304 ≤ l ∧ l ≤ 4194304) (h2 : -4194304 ≤ t ∧ t ≤ 4194304) (h3 : -4194304 ≤ r ∧ r ≤ 4194304) (h4 : -4194304 ≤ b ∧ b ≤ 4194304) :
    btw l t r b = selQ (decide (r - l ≤ 0) || decide (b - t ≤ 0)) (0, 0, 0, 0) (l, t, r - l, b - t) := by
  have e : gap l t r b = (decide (r - l ≤ 0) || decide (b - t ≤ 0)) := by
    unfold gap
    congr 1 <;> (rw [decide_eq_decide]; omega)
  unfold btw wr
  rw [e, wrap_id (by omega) (by omega), wrap_id (by omega) (by omega)]
  cases (decide (r - l ≤ 0) || decide (b - t ≤ 0)) <;> rfl
theorem mx_bd (x y : Int) : (x ≤ mxI x y ∧ y ≤ mxI x y) ∧ (mxI x y = x ∨ mxI x y = y) := by unfold mxI; split <;> omega
theorem mn_bd (x y : Int) : (mnI x y ≤ x ∧ mnI x y ≤ y) ∧ (mnI x y = x ∨ mnI x y = y) := by unfold mnI; split <;> omega

theorem inter_eq (a b : Quad) : interP a b = interR a b := by
  have ha := vR_bd a
  have hb := vR_bd b
  unfold VR at ha hb
  unfold interP interR iw ih
  simp only [vP_eq, wr]
  generalize vR a = A at *
  generalize vR b = B at *
  obtain ⟨a1, a2, a3, a4⟩ := A
  obtain ⟨b1, b2, b3, b4⟩ := B
  simp only at *
  simp only [wrap_id (x := a1 + a3) (by omega) (by omega), wrap_id (x := b1 + b3) (by omega) (by omega), wrap_id (x := a2 + a4) (by omega) (by omega), wrap_id (x := b2 + b4) (by omega) (by omega)]
  have k1 := mx_bd a1 b1; have k2 := mx_bd a2 b2; have k3 := mn_bd (a1 + a3) (b1 + b3); have k4 := mn_bd (a2 + a4) (b2 + b4)
  generalize mxI a1 b1 = l at *
  generalize mxI a2 b2 = t at *
  generalize mnI (a1 + a3) (b1 + b3) = r at *
  generalize mnI (a2 + a4) (b2 + b4) = bo at *
  simp only [btw_eq l t r bo (by omega) (by omega) (by omega) (by omega), wrap_id (x := r - l) (by omega) (by omega), wrap_id (x := bo - t) (by omega) (by omega)]
theorem eP_eq (r : Quad) : eP r = eR r := by unfold eP eR; rw [vP_eq, emptyP_eq]
theorem eR_false {r : Quad} (h : eR r = false) : 0 < (vR r).2.2.1 ∧ 0 < (vR r).2.2.2 := by
  have hb := vR_bd r
  unfold eR emptyR at h
  rw [(okR_iff _ _ _ _).2 hb] at h
  simp only [Bool.not_true, Bool.false_or, Bool.or_eq_false_iff, beq_eq_false_iff_ne, ne_eq] at h
  unfold VR at hb
  omega
theorem union_eq (a b : Quad) : unionP a b = unionR a b := by
  cases h1 : (eR a && eR b) with
  | true => rw [unionP1 (by rw [eP_eq, eP_eq]; exact h1), unionR1 h1]
  | false =>
    cases h2 : eR a with
    | true => rw [unionP2 (by rw [eP_eq, eP_eq]; exact h1) (by rw [eP_eq]; exact h2), unionR2 h1 h2, vP_eq]
    | false =>
      cases h3 : eR b with
      | true => rw [unionP3 (by rw [eP_eq, eP_eq]; exact h1) (by rw [eP_eq]; exact h2) (by rw [eP_eq]; exact h3), unionR3 h1 h2 h3, vP_eq]
      | false =>
        rw [unionP4 (by rw [eP_eq, eP_eq]; exact h1) (by rw [eP_eq]; exact h2) (by rw [eP_eq]; exact h3), unionR4 h1 h2 h3]
        have ha := vR_bd a
        have hb := vR_bd b
        have pa := eR_false h2
        have pb := eR_false h3
        clear h1 h2 h3
        unfold VR at ha hb
        simp only [vP_eq, wr]
        generalize vR a = A at *
        generalize vR b = B at *
        obtain ⟨a1, a2, a3, a4⟩ := A
        obtain ⟨b1, b2, b3, b4⟩ := B
        simp only at *
        rw [wrap_id (x := a1 + a3) (by omega) (by omega), wrap_id (x := b1 + b3) (by omega) (by omega), wrap_id (x := a2 + a4) (by omega) (by omega), wrap_id (x := b2 + b4) (by omega) (by omega)]
        have k1 := mn_bd a1 b1; have k2 := mn_bd a2 b2; have k3 := mx_bd (a1 + a3) (b1 + b3); have k4 := mx_bd (a2 + a4) (b2 + b4)
        generalize mnI a1 b1 = l at *
        generalize mnI a2 b2 = t at *
        generalize mxI (a1 + a3) (b1 + b3) = r at *
        generalize mxI (a2 + a4) (b2 + b4) = bo at *
        rw [btw_eq l t r bo (by omega) (by omega) (by omega) (by omega), wrap_id (x := r - l) (by omega) (by omega), wrap_id (x := bo - t) (by omega) (by omega), selQ_f]
        simp only [Bool.or_eq_false_iff, decide_eq_false_iff_not]
        omega
theorem shr_eq (r i : Quad) : shrP r i = shrR r i := by
  obtain ⟨l, t, ri, b⟩ := i
  have ho : offR (l, t, ri, b) = (offI l || offI t || offI ri || offI b) := by simp only [offR, offI, Bool.or_assoc]
  unfold shrP shrR
  rw [ho]
  simp only
  cases h1 : offI l with
  | true => rw [selQ_t rfl, selQ_t (by simp)]
  | false =>
    cases h2 : offI t with
    | true => rw [selQ_f rfl, selQ_t rfl, selQ_t (by simp)]
    | false =>
      cases h3 : offI ri with
      | true => rw [selQ_f rfl, selQ_f rfl, selQ_t rfl, selQ_t (by simp)]
      | false =>
        cases h4 : offI b with
        | true => rw [selQ_f rfl, selQ_f rfl, selQ_f rfl, selQ_t rfl, selQ_t (by simp)]
        | false =>
          rw [selQ_f rfl, selQ_f rfl, selQ_f rfl, selQ_f rfl, selQ_f (b := (false || false || false || false)) (by simp)]
          have hr := vR_bd r
          unfold VR at hr
          simp only [offI, Bool.or_eq_false_iff, decide_eq_false_iff_not] at h1 h2 h3 h4
          unfold shrW shrH
          simp only [vP_eq, wr]
          generalize vR r = A at *
          obtain ⟨a1, a2, a3, a4⟩ := A
          simp only at *
          simp only [wrap_id (x := a1 + a3) (by omega) (by omega), wrap_id (x := a2 + a4) (by omega) (by omega), wrap_id (x := a1 + l) (by omega) (by omega), wrap_id (x := a2 + t) (by omega) (by omega),
            wrap_id (x := a1 + a3 - ri) (by omega) (by omega), wrap_id (x := a2 + a4 - b) (by omega) (by omega), wrap_id (x := a3 - l) (by omega) (by omega), wrap_id (x := a4 - t) (by omega) (by omega), wrap_id (x := a3 - l - ri) (by omega) (by omega), wrap_id (x := a4 - t - b) (by omega) (by omega)]
          simp only [btw_eq (a1 + l) (a2 + t) (a1 + a3 - ri) (a2 + a4 - b) (by omega) (by omega) (by omega) (by omega)]
          rw [show a1 + a3 - ri - (a1 + l) = a3 - l - ri from by omega, show a2 + a4 - b - (a2 + t) = a4 - t - b from by omega]
theorem shift_eq (r : Quad) (dx dy : Int) : shiftP r dx dy = shiftR r dx dy := by unfold shiftP shiftR; rw [vP_eq, vP_eq]
theorem floor_eq (a b : Int) (ha : -4194304 ≤ a ∧ a ≤ 4194304) (hb : 1 ≤ b ∧ b ≤ 16) : floorG a b = floorR a b := by
  unfold floorG floorR
  rw [sel_f (b := farB a b) (by unfold farB; simp only [Bool.or_eq_false_iff, beq_eq_false_iff_ne, decide_eq_false_iff_not]; omega)]
  congr 1
  have hm : a.tmod b < 0 ↔ a.tmod b ≠ 0 ∧ a < 0 := by
    rcases Int.lt_or_le a 0 with h | h
    · have h1 : a.tmod b ≤ 0 := by
        have := Int.tmod_nonneg (a := -a) b (by omega)
        rw [Int.neg_tmod] at this
        omega
      omega
    · have := Int.tmod_nonneg (a := a) b h
      omega
  have hbn : decide (b < 0) = false := by simp; omega
  rw [hbn, Bool.eq_iff_iff]
  have e2 : (!(decide (a < 0) == false)) = decide (a < 0) := by cases decide (a < 0) <;> rfl
  rw [e2]
  simp only [decide_eq_true_eq, Bool.and_eq_true, bne_iff_ne]
  omega
end Go.Proofs.Ytilglbkpapbkpaa

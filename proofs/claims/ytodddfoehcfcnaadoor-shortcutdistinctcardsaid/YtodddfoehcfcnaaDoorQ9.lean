/-
  The number of labels that can have letters, in the program and in the reference: the size of a largest matching. No program in sight.
-/
import Derived.Test.YtodddfoehcfcnaaDoorQ8
namespace Go.Proofs.YtodddfoehcfcnaaDoor
open Go Go.E2
theorem Ep_lt {l : List (List shortcut_choice)} {tk : Nat → Bool} (hl : ∀ row ∈ l, RowOk row) : ∀ a, ∀ c ∈ Ep l tk a, c < 36 := by
  intro a c hc
  unfold Ep at hc
  obtain ⟨h1, _⟩ := List.mem_filter.1 hc
  obtain ⟨ch, h2, rfl⟩ := List.mem_map.1 h1
  cases h : l[a]? with
  | none => rw [h] at h2; cases h2
  | some row =>
    rw [h] at h2
    have := (hl row (List.mem_of_getElem? h)).2 ch h2
    omega
theorem Er_lt {l : List (List Int)} (hl : ∀ row ∈ l, RowOkR row) : ∀ a, ∀ c ∈ Er l a, c < 36 := by
  intro a c hc
  unfold Er at hc
  obtain ⟨x, h2, rfl⟩ := List.mem_map.1 hc
  obtain ⟨h2, _⟩ := List.mem_filter.1 h2
  cases h : l[a]? with
  | none => rw [h] at h2; cases h2
  | some row =>
    rw [h] at h2
    have := (hl row (List.mem_of_getElem? h)).2 x h2
    omega
theorem uns_all : uns (fun _ => false) < 40 := by
  have : uns (fun _ => false) ≤ 36 := cntN_le_n
  omega
theorem sz_le (w : Own) : sz w ≤ 36 := cntN_le_n
theorem step_any {E : Nat → List Nat} {L lo k : Nat} {w : Own} (hE : ∀ a, ∀ l ∈ E a, l < 36) (hlo : lo ≤ k) (hk : k < L) (hm : IsMax E lo k w) :
    ∃ b w' s', kuhn E L 40 w (fun _ => false) (k : Int) = some (b, w', s') ∧ IsMax E lo (k + 1) w' ∧ sz w' = sz w + b.toNat := by
  obtain ⟨⟨b, w', s'⟩, h1, h2⟩ := kuhn_spec (L := L) hE 40 w (fun _ => false) k uns_all hk (fun l hl => by
    by_cases h : w l < 0
    · omega
    · have := hm.1.1 l hl (by omega); omega)
  have := kuhn_step hlo hm h2
  exact ⟨b, w', s', h1, this.1, this.2⟩
theorem clear_own {kk : (Nat → Int) → Option (Int × shortcut_matcher)} {ow : Nat → Int} : ∃ w, (∀ c, c < 36 → w c < 0) ∧ loopK (sc_matcher_most_L2 kk) N0 (0, ow) = kk w := by
  have key := loopK_ind (B := sc_matcher_most_L2 kk)
    (fun st o => ∀ i : Nat, st.1 = (i : Int) → i ≤ 36 → (∀ c, c < i → st.2 c < 0) → ∃ w, (∀ c, c < 36 → w c < 0) ∧ o = kk w)
    (fun st => 36 - st.1.toNat) (fun st again ih => by
      obtain ⟨iz, w⟩ := st
      intro i hi h36 hw
      dsimp only at hi hw ih ⊢
      subst hi
      unfold sc_matcher_most_L2
      dsimp only
      by_cases h : i < 36
      · have : decide ((i : Int) < 36) = true := decide_eq_true (by omega)
        rw [this, sel_true, ixO_ok rfl h, bind_some', wrap_id (by omega) (by omega)]
        refine ih _ (by dsimp only; omega) (i + 1) (by simp) (by omega) (fun c hc => ?_)
        dsimp only
        by_cases e : c = i
        · subst e; rw [upd_self]; omega
        · rw [upd_ne e]; exact hw c (by omega)
      · have : decide ((i : Int) < 36) = false := decide_eq_false (by omega)
        rw [this, sel_false]
        exact ⟨w, fun c hc => hw c (by omega), rfl⟩)
    N0 (0, ow) (by dsimp only; unfold N0; omega) 0 rfl (by omega) (fun c hc => by omega)
  exact key
theorem most_ok {l : List (List shortcut_choice)} {ow : Own} {tk : Nat → Bool} {first : Nat} (hl : ∀ row ∈ l, RowOk row) (hL : l.length ≤ 1000) (hf : first ≤ l.length) :
    ∃ w, sc_matcher_most ⟨l, ow, tk⟩ (first : Int) = some ((sz w : Int), ⟨l, w, tk⟩) ∧ IsMax (Ep l tk) first l.length w := by
  unfold sc_matcher_most
  simp only [jn_eq]
  obtain ⟨w0, hw0, e0⟩ := clear_own (ow := ow) (kk := fun s1 => loopK (sc_matcher_most_L1 fun s3 => some (s3.1, (shortcut_matcher.mk s3.2.1 s3.2.2.1 s3.2.2.2))) N0 (0, (first : Int), l, s1, tk))
  rw [e0]
  have key := loopK_ind (B := sc_matcher_most_L1 fun s3 => some (s3.1, (shortcut_matcher.mk s3.2.1 s3.2.2.1 s3.2.2.2)))
    (fun st o => ∀ (k : Nat) (w : Own), st = ((sz w : Int), (k : Int), l, w, tk) → first ≤ k → k ≤ l.length → IsMax (Ep l tk) first k w → ∃ w', o = some ((sz w' : Int), ⟨l, w', tk⟩) ∧ IsMax (Ep l tk) first l.length w')
    (fun st => l.length - st.2.1.toNat) (fun st again ih => by
      intro k w hst hfk hkl hm
      subst hst
      dsimp only at ih
      unfold sc_matcher_most_L1
      dsimp only
      by_cases hk : k < l.length
      · rw [nz_lt hk, sel_true, jn_eq, assign_eq hl]
        obtain ⟨b, w', s', e, h1, h2⟩ := step_any (Ep_lt (tk := tk) hl) hfk hk hm
        have hs := sz_le w
        rw [e, Option.map_some, bind_some']
        unfold wrapP
        dsimp only
        rw [wrap_id (x := (k : Int) + 1) (by omega) (by omega), wrap_id (by omega) (by omega)]
        cases b with
        | true =>
          rw [sel_true]
          exact ih _ (by dsimp only; omega) (k + 1) w' (by simp at h2; rw [h2]; simp) (by omega) (by omega) h1
        | false =>
          rw [sel_false]
          exact ih _ (by dsimp only; omega) (k + 1) w' (by simp at h2; rw [h2]; simp) (by omega) (by omega) h1
      · rw [nz_ge (by omega), sel_false]
        have : k = l.length := by omega
        subst this
        exact ⟨w, rfl, hm⟩)
    N0 (0, (first : Int), l, w0, tk) (by dsimp only; unfold N0; omega) first w0 (by
      have : sz w0 = 0 := cntN_none (fun c hc => decide_eq_false (by have := hw0 c hc; omega))
      rw [this]; rfl) (by omega) hf (isMax_nil hw0)
  exact key
theorem clear_ownR {kk : List Int → Option Int} {ow : Own} : ∃ w : Own, (∀ c, c < 36 → w c < 0) ∧ loopK (r32_most_L2 kk) N0 (0, toL ow) = kk (toL w) := by
  have key := loopK_ind (B := r32_most_L2 kk)
    (fun st o => ∀ (i : Nat) (w : Own), st = ((i : Int), toL w) → i ≤ 36 → (∀ c, c < i → w c < 0) → ∃ w : Own, (∀ c, c < 36 → w c < 0) ∧ o = kk (toL w))
    (fun st => 36 - st.1.toNat) (fun st again ih => by
      intro i w hst h36 hw
      subst hst
      dsimp only at ih
      unfold r32_most_L2
      dsimp only
      by_cases h : i < 36
      · have : decide ((i : Int) < 36) = true := decide_eq_true (by omega)
        rw [this, sel_true, toL_len, ixO_ok rfl h, bind_some', wrap_id (by omega) (by omega), toL_set]
        refine ih _ (by dsimp only; omega) (i + 1) (upd w i (-1)) (by simp) (by omega) (fun c hc => ?_)
        by_cases e : c = i
        · subst e; rw [upd_self]; omega
        · rw [upd_ne e]; exact hw c (by omega)
      · have : decide ((i : Int) < 36) = false := decide_eq_false (by omega)
        rw [this, sel_false]
        exact ⟨w, fun c hc => hw c (by omega), rfl⟩)
    N0 (0, toL ow) (by dsimp only; unfold N0; omega) 0 ow rfl (by omega) (fun c hc => by omega)
  exact key
theorem most_okR {l : List (List Int)} (hl : ∀ row ∈ l, RowOkR row) (hL : l.length ≤ 1000) :
    ∃ w : Own, r32_most l = some (sz w : Int) ∧ IsMax (Er l) 0 l.length w := by
  unfold r32_most
  have e36 : mkO 36 (0 : Int) = some (toL fun _ => (0 : Int)) := by unfold mkO; rw [if_pos (by omega)]; rfl
  have f36 : mkO 36 false = some (toL fun _ => false) := by unfold mkO; rw [if_pos (by omega)]; rfl
  rw [e36, bind_some']
  simp only [jn_eq]
  obtain ⟨w0, hw0, e0⟩ := clear_ownR (ow := fun _ => 0) (kk := fun s2 => loopK (r32_most_L1 l fun s4 => some s4) N0 (0, 0, s2))
  rw [e0]
  have key := loopK_ind (B := r32_most_L1 l fun s4 => some s4)
    (fun st o => ∀ (k : Nat) (w : Own), st = ((sz w : Int), (k : Int), toL w) → k ≤ l.length → IsMax (Er l) 0 k w → ∃ w' : Own, o = some (sz w' : Int) ∧ IsMax (Er l) 0 l.length w')
    (fun st => l.length - st.2.1.toNat) (fun st again ih => by
      intro k w hst hkl hm
      subst hst
      dsimp only at ih
      unfold r32_most_L1
      dsimp only
      by_cases hk : k < l.length
      · rw [nz_lt hk, sel_true, jn_eq, f36, bind_some', grow_eq hl]
        obtain ⟨b, w', s', e, h1, h2⟩ := step_any (Er_lt hl) (Nat.zero_le k) hk hm
        have hs := sz_le w
        rw [e, Option.map_some, bind_some']
        unfold wrapR
        dsimp only
        rw [wrap_id (x := (k : Int) + 1) (by omega) (by omega), wrap_id (by omega) (by omega)]
        cases b with
        | true =>
          rw [sel_true]
          exact ih _ (by dsimp only; omega) (k + 1) w' (by simp at h2; rw [h2]; simp) (by omega) h1
        | false =>
          rw [sel_false]
          exact ih _ (by dsimp only; omega) (k + 1) w' (by simp at h2; rw [h2]; simp) (by omega) h1
      · rw [nz_ge (by omega), sel_false]
        have : k = l.length := by omega
        subst this
        exact ⟨w, rfl, hm⟩)
    N0 (0, 0, toL w0) (by dsimp only; unfold N0; omega) 0 w0 (by
      have : sz w0 = 0 := cntN_none (fun c hc => decide_eq_false (by have := hw0 c hc; omega))
      rw [this]; rfl) (by omega) (isMax_nil hw0)
  exact key
end Go.Proofs.YtodddfoehcfcnaaDoor

/-
  Labels whose letters are fixed, and the rest: the sizes of the largest matchings. No program in sight.
-/
import Derived.Test.YtodddfoehcfcnaaDoorQ9
namespace Go.E2
open Go
/-- the first labels have their letters T (o names the owner), the labels from i on share the others -/
theorem fixed_max {Er Ep : Nat → List Nat} {i L : Nat} {T : Nat → Bool} {o : Own} {wr wp : Own} (hi : i ≤ L)
    (ho : ∀ l, l < 36 → T l = true → 0 ≤ o l ∧ o l < (i : Int) ∧ l ∈ Er (o l).toNat) (hoi : ∀ l l', l < 36 → l' < 36 → T l = true → T l' = true → o l = o l' → l = l')
    (h1 : ∀ a l, i ≤ a → (l ∈ Ep a ↔ l ∈ Er a ∧ T l = false)) (h2 : ∀ a l, a < i → l ∈ Er a → T l = true)
    (hr : IsMax Er 0 L wr) (hp : IsMax Ep i L wp) : sz wr = sz wp + cntN T 36 := by
  obtain ⟨⟨p1, p2⟩, p3⟩ := hp
  obtain ⟨⟨r1, r2⟩, r3⟩ := hr
  apply Nat.le_antisymm
  · have hm : Mat Ep i L (fun l => if T l = true then -1 else wr l) := by
      refine ⟨fun l hl h0 => ?_, fun l l' hl hl' h0 he => ?_⟩
      · dsimp only at h0 ⊢
        by_cases ht : T l = true
        · rw [if_pos ht] at h0; omega
        · rw [if_neg ht] at h0 ⊢
          obtain ⟨a, b, c⟩ := r1 l hl h0
          have hge : i ≤ (wr l).toNat := by
            rcases Nat.lt_or_ge (wr l).toNat i with h | h
            · exact absurd (h2 _ _ h c) ht
            · exact h
          exact ⟨by omega, b, (h1 _ _ hge).2 ⟨c, by simpa using ht⟩⟩
      · dsimp only at h0 he
        by_cases ht : T l = true
        · rw [if_pos ht] at h0; omega
        · rw [if_neg ht] at h0 he
          by_cases ht' : T l' = true
          · rw [if_pos ht'] at he; omega
          · rw [if_neg ht'] at he; exact r2 l l' hl hl' h0 he
    have h3 := p3 _ hm
    have h4 : sz wr ≤ sz (fun l => if T l = true then -1 else wr l) + cntN T 36 := by
      have : cntN (fun l => decide (0 ≤ (if T l = true then (-1 : Int) else wr l)) || T l) 36 = sz (fun l => if T l = true then -1 else wr l) + cntN T 36 := cntN_add (fun l _ => by
        by_cases ht : T l = true
        · simp [ht]
        · simp [ht])
      rw [← this]
      refine cntN_le (fun l _ h0 => ?_)
      have h0 := of_decide_eq_true h0
      by_cases ht : T l = true
      · simp [ht]
      · simp [ht, h0]
    omega
  · have hm : Mat Er 0 L (fun l => if T l = true then o l else if l < 36 then wp l else -1) := by
      refine ⟨fun l hl h0 => ?_, fun l l' hl hl' h0 he => ?_⟩
      · dsimp only at h0 ⊢
        by_cases ht : T l = true
        · rw [if_pos ht] at h0 ⊢
          obtain ⟨a, b, c⟩ := ho l hl ht
          exact ⟨by omega, by omega, c⟩
        · rw [if_neg ht, if_pos hl] at h0 ⊢
          obtain ⟨a, b, c⟩ := p1 l hl h0
          exact ⟨by omega, b, ((h1 _ _ (by omega)).1 c).1⟩
      · dsimp only at h0 he
        by_cases ht : T l = true
        · rw [if_pos ht] at h0 he
          by_cases ht' : T l' = true
          · rw [if_pos ht'] at he; exact hoi l l' hl hl' ht ht' he
          · rw [if_neg ht', if_pos hl'] at he
            have := (ho l hl ht).2.1
            have := (p1 l' hl' (by omega)).1
            omega
        · rw [if_neg ht, if_pos hl] at h0 he
          by_cases ht' : T l' = true
          · rw [if_pos ht'] at he
            have := (ho l' hl' ht').2.1
            have := (p1 l hl h0).1
            omega
          · rw [if_neg ht', if_pos hl'] at he; exact p2 l l' hl hl' h0 he
    have h3 := r3 _ hm
    have h4 : sz (fun l => if T l = true then o l else if l < 36 then wp l else -1) = sz wp + cntN T 36 := cntN_add (fun l hl => by
      by_cases ht : T l = true
      · have h5 := (ho l hl ht).1
        have h6 : ¬ 0 ≤ wp l := fun h0 => by
          obtain ⟨a, _, c⟩ := p1 l hl h0
          have := ((h1 _ _ (by omega)).1 c).2
          rw [ht] at this; cases this
        simp [ht, h5, h6]
      · simp [ht, hl])
    omega
end Go.E2

/-
  What the mnemonics are: a largest matching, so that no letter is free that an empty label has. No program in sight.
-/
import Derived.Test.YtodddfoehcfcnaaDoorQh
namespace Go.Proofs.YtodddfoehcfcnaaDoor
open Go Go.E2
theorem pick_none {g : Nat → Bool} : ∀ (l : List Int) (i : Nat), pick g l i = none → ∀ y ∈ l, 0 ≤ y → g y.toNat = false
  | [], _, _, y, hy, _ => by cases hy
  | x :: t, i, h, y, hy, h0 => by
    unfold pick at h
    split at h
    · cases h
    · rename_i hc
      rcases List.mem_cons.1 hy with e | e
      · subst e
        cases hg : g y.toNat with
        | false => rfl
        | true => exact absurd ⟨h0, hg⟩ hc
      · exact pick_none t (i + 1) h y e h0
theorem pick_some {g : Nat → Bool} : ∀ (l : List Int) (i k x : Nat), pick g l i = some (k, x) → i ≤ k ∧ l[k - i]? = some (x : Int) ∧ g x = true
  | [], _, _, _, h => by cases h
  | y :: t, i, k, x, h => by
    unfold pick at h
    split at h
    · rename_i hc
      cases h
      refine ⟨Nat.le_refl _, ?_, hc.2⟩
      rw [Nat.sub_self]
      show some y = _
      congr 1; omega
    · obtain ⟨h1, h2, h3⟩ := pick_some t (i + 1) k x h
      refine ⟨by omega, ?_, h3⟩
      rw [show k - i = (k - (i + 1)) + 1 by omega]; exact h2
theorem Ee_lt {rows : List (List Int)} {T : Nat → Bool} (hr : ∀ row ∈ rows, RowOkR row) : ∀ a, ∀ l ∈ Ee rows T a, l < 36 := fun a c hc => Er_lt hr a c (List.mem_filter.1 hc).1
theorem mem_Ee {rows : List (List Int)} {T : Nat → Bool} {a l : Nat} : l ∈ Ee rows T a ↔ (∃ x ∈ (rows[a]?).getD [], 0 ≤ x ∧ x.toNat = l) ∧ T l = false := by
  unfold Ee Er
  rw [List.mem_filter, List.mem_map]
  constructor
  · rintro ⟨⟨x, h1, h2⟩, h3⟩
    obtain ⟨h4, h5⟩ := List.mem_filter.1 h1
    exact ⟨⟨x, h4, of_decide_eq_true h5, h2⟩, by simpa using h3⟩
  · rintro ⟨⟨x, h1, h2, h3⟩, h4⟩
    exact ⟨⟨x, List.mem_filter.2 ⟨h1, decide_eq_true h2⟩, h3⟩, by simpa using h4⟩
theorem max_of {rows : List (List Int)} {T : Nat → Bool} {i L : Nat} (hr : ∀ row ∈ rows, RowOkR row) (hi : i ≤ L) : ∃ w, IsMax (Ee rows T) i L w ∧ mx (Ee rows T) i L = sz w := by
  obtain ⟨w, h⟩ := exists_max (Ee_lt (T := T) hr) i (L - i)
  rw [show i + (L - i) = L by omega] at h
  exact ⟨w, h, mx_eq h⟩
/-- a label more, with a letter that is free -/
theorem mat_add {rows : List (List Int)} {T : Nat → Bool} {i L x : Nat} {m : Own} (hm : Mat (Ee rows T) (i + 1) L m) (hi : i < L) (hx : x < 36) (hE : x ∈ Ee rows T i) (hf : m x < 0) : Mat (Ee rows T) i L (upd m x (i : Int)) ∧ sz (upd m x (i : Int)) = sz m + 1 := by
  obtain ⟨m1, m2⟩ := hm
  refine ⟨⟨fun l hl h0 => ?_, fun l l' hl hl' h0 he => ?_⟩, ?_⟩
  · by_cases e : l = x
    · subst e; rw [upd_self]; exact ⟨by omega, by omega, by rw [Int.toNat_natCast]; exact hE⟩
    · rw [upd_ne e] at h0 ⊢
      obtain ⟨a, b, c⟩ := m1 l hl h0
      exact ⟨by omega, b, c⟩
  · by_cases e : l = x
    · by_cases e' : l' = x
      · omega
      · subst e
        rw [upd_self, upd_ne e'] at he
        have := (m1 l' hl' (by omega)).1
        omega
    · rw [upd_ne e] at h0 he
      by_cases e' : l' = x
      · subst e'
        rw [upd_self] at he
        have := (m1 l hl h0).1
        omega
      · rw [upd_ne e'] at he; exact m2 l l' hl hl' h0 he
  · have := sz_upd (w := m) (k := i) hx
    have e : decide (0 ≤ m x) = false := decide_eq_false (by omega)
    rw [e] at this; simpa using this
theorem mat_less {rows : List (List Int)} {T : Nat → Bool} {i L x : Nat} {m : Own} (hm : Mat (Ee rows (upd T x true)) i L m) : Mat (Ee rows T) i L m := by
  refine ⟨fun l hl h0 => ?_, hm.2⟩
  obtain ⟨a, b, c⟩ := hm.1 l hl h0
  obtain ⟨h1, h2⟩ := mem_Ee.1 c
  refine ⟨a, b, mem_Ee.2 ⟨h1, ?_⟩⟩
  by_cases e : l = x
  · subst e; rw [upd_self] at h2; cases h2
  · rwa [upd_ne e] at h2
theorem outP_ok {rows : List (List Int)} {L : Nat} (hr : ∀ row ∈ rows, RowOkR row) : ∀ (n i : Nat) (T : Nat → Bool) (B : Nat), n + i = L → mx (Ee rows T) i L = B → ∃ m : Own, Mat (Ee rows T) i L m ∧ sz m = B ∧
    ∀ a, i ≤ a → a < L → ∃ v, (outP rows L n i T B)[a - i]? = some v ∧ ((v = -1 ∧ (∀ l, l < 36 → m l ≠ (a : Int)) ∧ ∀ x ∈ (rows[a]?).getD [], 0 ≤ x → T x.toNat = true ∨ 0 ≤ m x.toNat) ∨ ∃ k x : Nat, v = (k : Int) ∧ ((rows[a]?).getD [])[k]? = some (x : Int) ∧ x < 36 ∧ m x = (a : Int)) := by
  intro n
  induction n with
  | zero =>
    intro i T B hi hB
    have : i = L := by omega
    subst this
    have h0 := isMax_nil (E := Ee rows T) (lo := i) (w := fun _ => -1) (fun _ _ => by omega)
    refine ⟨fun _ => -1, h0.1, by rw [← hB, mx_eq h0], fun a h1 h2 => by omega⟩
  | succ n ih =>
    intro i T B hi hB
    have hiL : i < L := by omega
    have hrow36 : ∀ y ∈ (rows[i]?).getD [], y < 36 := by
      intro y hy
      cases h : rows[i]? with
      | none => rw [h] at hy; cases hy
      | some row => rw [h] at hy; exact ((hr row (List.mem_of_getElem? h)).2 y hy).2
    have bound : ∀ m : Own, Mat (Ee rows T) i L m → sz m ≤ B := by
      intro m hm
      obtain ⟨w, h1, h2⟩ := max_of (T := T) hr (Nat.le_of_lt hiL)
      rw [← hB, h2]; exact h1.2 m hm
    have get : ∀ (v : Int) (r : List Int) (a : Nat), i < a → (v :: r)[a - i]? = r[a - (i + 1)]? := fun v r a ha => by
      rw [show a - i = (a - (i + 1)) + 1 by omega]; rfl
    unfold outP
    rcases hp : pick (gP rows L i T B) ((rows[i]?).getD []) 0 with _ | ⟨k, x⟩
    · have hnone := pick_none _ _ hp
      have hB1 : mx (Ee rows T) (i + 1) L = B := by
        obtain ⟨w1, q1, q2⟩ := max_of (T := T) hr (show i + 1 ≤ L by omega)
        apply Nat.le_antisymm
        · rw [q2]
          refine bound w1 ⟨fun l hl h0 => ?_, q1.1.2⟩
          obtain ⟨a, b, c⟩ := q1.1.1 l hl h0
          exact ⟨by omega, b, c⟩
        · obtain ⟨w, h1, h2⟩ := max_of (T := T) hr (Nat.le_of_lt hiL)
          rw [← hB, h2, q2]
          by_cases hu : ∃ x, x < 36 ∧ w x = (i : Int)
          · exfalso
            obtain ⟨x, hx, hwx⟩ := hu
            obtain ⟨⟨m1, m2⟩, _⟩ := h1
            have hxE := (m1 x hx (by omega)).2.2
            rw [hwx, Int.toNat_natCast] at hxE
            obtain ⟨⟨y, y1, y2, y3⟩, hTx⟩ := mem_Ee.1 hxE
            have hg := hnone y y1 y2
            rw [y3] at hg
            unfold gP at hg
            rw [hTx, Bool.not_false, Bool.true_and] at hg
            have hne := of_decide_eq_false hg
            obtain ⟨w2, p1, p2⟩ := max_of (T := upd T x true) hr (show i + 1 ≤ L by omega)
            apply hne
            rw [p2]
            have hw2x : w2 x < 0 := by
              by_cases hn : w2 x < 0
              · exact hn
              · have := (mem_Ee.1 (p1.1.1 x hx (by omega)).2.2).2
                rw [upd_self] at this; cases this
            have le1 : sz w2 + 1 ≤ B := by
              obtain ⟨a1, a2⟩ := mat_add (mat_less p1.1) hiL hx hxE hw2x
              rw [← a2]; exact bound _ a1
            have le2 : B ≤ sz w2 + 1 := by
              have hmat : Mat (Ee rows (upd T x true)) (i + 1) L (upd w x (-1)) := by
                refine ⟨fun l hl h0 => ?_, fun l l' hl hl' h0 he => ?_⟩
                · by_cases e : l = x
                  · subst e; rw [upd_self] at h0; omega
                  · rw [upd_ne e] at h0 ⊢
                    obtain ⟨a, b, c⟩ := m1 l hl h0
                    have hni : w l ≠ (i : Int) := fun e2 => e (m2 l x hl hx h0 (by omega))
                    refine ⟨by omega, b, ?_⟩
                    obtain ⟨c1, c2⟩ := mem_Ee.1 c
                    exact mem_Ee.2 ⟨c1, by rw [upd_ne e]; exact c2⟩
                · by_cases e : l = x
                  · subst e; rw [upd_self] at h0; omega
                  · rw [upd_ne e] at h0 he
                    by_cases e' : l' = x
                    · subst e'; rw [upd_self] at he; omega
                    · rw [upd_ne e'] at he; exact m2 l l' hl hl' h0 he
              have h3 := p1.2 _ hmat
              have h4 := cntN_upd (p := fun l => decide (0 ≤ upd w x (-1) l)) (q := fun l => decide (0 ≤ w l)) (c := x) (fun l hl => by simp only [upd_ne hl]) hx
              simp only [upd_self] at h4
              have e1 : decide (0 ≤ w x) = true := decide_eq_true (by omega)
              have e2 : decide ((0 : Int) ≤ -1) = false := rfl
              rw [e1, e2] at h4
              have h5 : sz (upd w x (-1)) + 1 = sz w := h4
              omega
            omega
          · refine q1.2 w ⟨fun l hl h0 => ?_, h1.1.2⟩
            obtain ⟨a, b, c⟩ := h1.1.1 l hl h0
            have : w l ≠ (i : Int) := fun e => hu ⟨l, hl, e⟩
            exact ⟨by omega, b, c⟩
      obtain ⟨m, g1, g2, g3⟩ := ih (i + 1) T B (by omega) hB1
      have gm : Mat (Ee rows T) i L m := ⟨fun l hl h0 => by
        obtain ⟨a, b, c⟩ := g1.1 l hl h0
        exact ⟨by omega, b, c⟩, g1.2⟩
      refine ⟨m, gm, g2, fun a h1 h2 => ?_⟩
      by_cases e : a = i
      · subst e
        refine ⟨-1, by rw [Nat.sub_self]; rfl, .inl ⟨rfl, fun l hl e => ?_, fun x hx h0 => ?_⟩⟩
        · have := (g1.1 l hl (by omega)).1; omega
        · by_cases ht : T x.toNat = true
          · exact .inl ht
          · refine .inr ?_
            by_cases hm : 0 ≤ m x.toNat
            · exact hm
            · exfalso
              obtain ⟨a1, a2⟩ := mat_add g1 hiL (x := x.toNat) (by have := hrow36 x hx; omega) (mem_Ee.2 ⟨⟨x, hx, h0, rfl⟩, by simpa using ht⟩) (by omega)
              have := bound _ a1
              omega
      · obtain ⟨v, v1, v2⟩ := g3 a (by omega) h2
        exact ⟨v, by dsimp only; rw [get _ _ _ (by omega)]; exact v1, v2⟩
    · obtain ⟨k0, k1, k2⟩ := pick_some _ _ _ _ hp
      rw [Nat.sub_zero] at k1
      unfold gP at k2
      simp at k2
      obtain ⟨hT, hB2⟩ := k2
      have hx36 : x < 36 := by have := hrow36 _ (List.mem_of_getElem? k1); omega
      obtain ⟨m, g1, g2, g3⟩ := ih (i + 1) (upd T x true) (B - 1) (by omega) (by omega)
      have hmx : m x < 0 := by
        by_cases hn : m x < 0
        · exact hn
        · have := (mem_Ee.1 (g1.1 x hx36 (by omega)).2.2).2
          rw [upd_self] at this; cases this
      obtain ⟨a1, a2⟩ := mat_add (mat_less g1) hiL hx36 (mem_Ee.2 ⟨⟨(x : Int), List.mem_of_getElem? k1, by omega, by simp⟩, hT⟩) hmx
      refine ⟨upd m x (i : Int), a1, by rw [a2, g2]; omega, fun a h1 h2 => ?_⟩
      by_cases e : a = i
      · subst e
        exact ⟨(k : Int), by rw [Nat.sub_self]; rfl, .inr ⟨k, x, rfl, k1, hx36, upd_self⟩⟩
      · obtain ⟨v, v1, v2⟩ := g3 a (by omega) h2
        refine ⟨v, by dsimp only; rw [get _ _ _ (by omega)]; exact v1, ?_⟩
        rcases v2 with ⟨w1, w2, w3⟩ | ⟨k', x', w1, w2, w3, w4⟩
        · refine .inl ⟨w1, fun l hl e2 => ?_, fun y hy h0 => ?_⟩
          · by_cases e3 : l = x
            · subst e3; rw [upd_self] at e2; omega
            · rw [upd_ne e3] at e2; exact w2 l hl e2
          · by_cases e3 : y.toNat = x
            · refine .inr ?_
              rw [e3, upd_self]; omega
            · rw [upd_ne e3]
              rcases w3 y hy h0 with h | h
              · rw [upd_ne e3] at h; exact .inl h
              · exact .inr h
        · refine .inr ⟨k', x', w1, w2, w3, ?_⟩
          rw [upd_ne (fun e3 => by subst e3; omega)]; exact w4
/-- what the law asks of mnemonics -/
structure DistOk (l : List Str) (m : List Int) : Prop where
  place : ∀ (i : Nat) s k, l[i]? = some s → m[i]? = some k → k = -1 ∨ ∃ (j : Nat) (r : Int), k = (j : Int) ∧ (runes s)[j]? = some r ∧ 0 ≤ lt r
  dist : ∀ (i i' : Nat) s s' (j j' : Nat) r r', i ≠ i' → l[i]? = some s → l[i']? = some s' → m[i]? = some (j : Int) → m[i']? = some (j' : Int) → (runes s)[j]? = some r → (runes s')[j']? = some r' → lt r ≠ lt r'
  free : ∀ (i : Nat) s, l[i]? = some s → m[i]? = some (-1) → ∀ r ∈ runes s, 0 ≤ lt r → ∃ (i' : Nat) (s' : Str) (j' : Nat) (r' : Int), l[i']? = some s' ∧ m[i']? = some (j' : Int) ∧ (runes s')[j']? = some r' ∧ lt r' = lt r
theorem dist_ok {l : List Str} (h2 : ∀ s ∈ l, s.size ≤ 2000) : DistOk l (outP (rowsR l) l.length l.length 0 (fun _ => false) (mx (Ee (rowsR l) fun _ => false) 0 l.length)) := by
  have hr : ∀ row ∈ rowsR l, RowOkR row := fun row hrow => by
    obtain ⟨s, h1, rfl⟩ := List.mem_map.1 hrow
    exact row_okR (by have := h2 s h1; omega)
  obtain ⟨m, g1, g2, g3⟩ := outP_ok (L := l.length) hr l.length 0 (fun _ => false) _ (by omega) rfl
  generalize outP (rowsR l) l.length l.length 0 (fun _ => false) (mx (Ee (rowsR l) fun _ => false) 0 l.length) = o at g3
  have hrow : ∀ i s, l[i]? = some s → ((rowsR l)[i]?).getD [] = (runes s).map lt := fun i s h => by
    unfold rowsR; rw [List.getElem?_map, h]; rfl
  have at_ : ∀ (i : Nat) s, l[i]? = some s → ∃ v, o[i]? = some v ∧ ((v = -1 ∧ (∀ q, q < 36 → m q ≠ (i : Int)) ∧ ∀ r ∈ runes s, 0 ≤ lt r → 0 ≤ m (lt r).toNat) ∨ ∃ (k : Nat) (r : Int), v = (k : Int) ∧ (runes s)[k]? = some r ∧ 0 ≤ lt r ∧ m (lt r).toNat = (i : Int)) := by
    intro i s h
    obtain ⟨v, v1, v2⟩ := g3 i (Nat.zero_le _) (List.getElem?_eq_some_iff.1 h).1
    refine ⟨v, by simpa using v1, ?_⟩
    rw [hrow i s h] at v2
    rcases v2 with ⟨w1, w2, w3⟩ | ⟨k, x, w1, w2, w3, w4⟩
    · refine .inl ⟨w1, w2, fun r hr h0 => ?_⟩
      rcases w3 (lt r) (List.mem_map_of_mem hr) h0 with h | h
      · cases h
      · exact h
    · rw [List.getElem?_map] at w2
      cases hk : (runes s)[k]? with
      | none => rw [hk] at w2; cases w2
      | some r =>
        rw [hk] at w2
        have e : lt r = (x : Int) := by simpa using w2
        exact .inr ⟨k, r, w1, hk, by omega, by rw [e, Int.toNat_natCast]; exact w4⟩
  have pos : ∀ (i : Nat) s (j : Nat) r, l[i]? = some s → o[i]? = some (j : Int) → (runes s)[j]? = some r → 0 ≤ lt r ∧ m (lt r).toNat = (i : Int) := by
    intro i s j r h1 h2 h3
    obtain ⟨v, v1, v2⟩ := at_ i s h1
    rw [h2] at v1
    cases v1
    rcases v2 with ⟨w1, _⟩ | ⟨k, r', w1, w2, w3, w4⟩
    · omega
    · have : k = j := by omega
      subst this
      rw [h3] at w2; cases w2
      exact ⟨w3, w4⟩
  refine ⟨fun i s k h1 hk => ?_, fun i i' s s' j j' r r' hne h1 h1' h2 h2' h3 h3' e => ?_, fun i s h1 hk r hr h0 => ?_⟩
  · obtain ⟨v, v1, v2⟩ := at_ i s h1
    rw [hk] at v1; cases v1
    rcases v2 with ⟨w1, _⟩ | ⟨k', r, w1, w2, w3, w4⟩
    · exact .inl w1
    · exact .inr ⟨k', r, w1, w2, w3⟩
  · have a := pos i s j r h1 h2 h3
    have b := pos i' s' j' r' h1' h2' h3'
    rw [e, b.2] at a
    omega
  · obtain ⟨v, v1, v2⟩ := at_ i s h1
    rw [hk] at v1; cases v1
    rcases v2 with ⟨_, w2, w3⟩ | ⟨k', r', w1, _⟩
    · have h5 := w3 r hr h0
      have h36 : (lt r).toNat < 36 := by have := lt_rng r; omega
      obtain ⟨q1, q2, q3⟩ := g1.1 _ h36 h5
      obtain ⟨i', hi'⟩ : ∃ i' : Nat, m (lt r).toNat = (i' : Int) := ⟨(m (lt r).toNat).toNat, by omega⟩
      have hil : i' < l.length := by omega
      obtain ⟨v', u1, u2⟩ := at_ i' l[i'] (List.getElem?_eq_getElem hil)
      rcases u2 with ⟨_, u3, _⟩ | ⟨k'', r'', u3, u4, u5, u6⟩
      · exact absurd hi' (u3 _ h36)
      · refine ⟨i', l[i'], k'', r'', List.getElem?_eq_getElem hil, by rw [u1, u3], u4, ?_⟩
        have h36' : (lt r'').toNat < 36 := by have := lt_rng r''; omega
        have := g1.2 _ _ h36' h36 (by omega) (by rw [u6, hi'])
        omega
    · omega
end Go.Proofs.YtodddfoehcfcnaaDoor

/-
  The reference's mnemonics: what it tests is what the plain specification tests. No program in sight.
-/
import Derived.Test.YtodddfoehcfcnaaDoorQe
namespace Go.Proofs.YtodddfoehcfcnaaDoor
open Go Go.E2
theorem exists_max {E : Nat → List Nat} (hE : ∀ a, ∀ l ∈ E a, l < 36) (lo : Nat) : ∀ n, ∃ w, IsMax E lo (lo + n) w
  | 0 => ⟨fun _ => -1, isMax_nil (fun _ _ => by omega)⟩
  | n + 1 => by
    obtain ⟨w, hw⟩ := exists_max hE lo n
    obtain ⟨_, w', _, _, h, _⟩ := step_any (L := lo + n + 1) hE (by omega) (by omega) hw
    exact ⟨w', h⟩
/-- the rows that are done: empty, or one letter that is taken -/
structure Done (S : List (List Int)) (T : Nat → Bool) : Prop where
  row : ∀ (j : Nat) r, S[j]? = some r → r = [] ∨ ∃ c : Nat, c < 36 ∧ r = [(c : Int)] ∧ T c = true
  own : ∀ c : Nat, T c = true → c < 36 ∧ ∃ j : Nat, S[j]? = some [(c : Int)]
  one : ∀ (j j' c : Nat), S[j]? = some [(c : Int)] → S[j']? = some [(c : Int)] → j = j'
theorem done_nil : Done [] (fun _ => false) := ⟨fun j r h => (by simp at h), fun c h => (by cases h), fun j j' c h => by simp at h⟩
theorem done_skip {S : List (List Int)} {T : Nat → Bool} (h : Done S T) : Done (S ++ [[]]) T := by
  have get : ∀ (j : Nat) r, (S ++ [[]])[j]? = some r → S[j]? = some r ∨ r = [] := fun j r hj => by
    rcases Nat.lt_or_ge j S.length with hl | hl
    · rw [List.getElem?_append_left hl] at hj; exact .inl hj
    · rw [List.getElem?_append_right hl] at hj
      cases hz : j - S.length with
      | zero => rw [hz] at hj; simp at hj; exact .inr hj
      | succ n => rw [hz] at hj; simp at hj
  refine ⟨fun j r hj => ?_, fun c hc => ?_, fun j j' c h1 h2 => ?_⟩
  · rcases get j r hj with h' | h'
    · exact h.row j r h'
    · exact .inl h'
  · obtain ⟨h1, j, h2⟩ := h.own c hc
    exact ⟨h1, j, by rw [List.getElem?_append_left (List.getElem?_eq_some_iff.1 h2).1]; exact h2⟩
  · rcases get j _ h1 with h1 | h1
    · rcases get j' _ h2 with h2 | h2
      · exact h.one j j' c h1 h2
      · cases h2
    · cases h1
theorem done_take {S : List (List Int)} {T : Nat → Bool} {x : Nat} (h : Done S T) (hx : x < 36) (ht : T x = false) : Done (S ++ [[(x : Int)]]) (upd T x true) := by
  have get : ∀ (j : Nat) r, (S ++ [[(x : Int)]])[j]? = some r → S[j]? = some r ∨ (j = S.length ∧ r = [(x : Int)]) := fun j r hj => by
    rcases Nat.lt_or_ge j S.length with hl | hl
    · rw [List.getElem?_append_left hl] at hj; exact .inl hj
    · rw [List.getElem?_append_right hl] at hj
      cases hz : j - S.length with
      | zero => rw [hz] at hj; simp at hj; exact .inr ⟨by omega, hj.symm⟩
      | succ n => rw [hz] at hj; simp at hj
  have inS : ∀ (j c : Nat), S[j]? = some [(c : Int)] → c ≠ x := fun j c hj e => by
    subst e
    rcases h.row j _ hj with h' | ⟨c', _, h2, h3⟩
    · cases h'
    · have : c' = c := by simp at h2; omega
      subst this; rw [ht] at h3; cases h3
  refine ⟨fun j r hj => ?_, fun c hc => ?_, fun j j' c h1 h2 => ?_⟩
  · rcases get j r hj with h' | ⟨_, h'⟩
    · rcases h.row j r h' with h2 | ⟨c, h2, h3, h4⟩
      · exact .inl h2
      · refine .inr ⟨c, h2, h3, ?_⟩
        by_cases e : c = x
        · subst e; exact upd_self
        · rw [upd_ne e]; exact h4
    · exact .inr ⟨x, hx, h', upd_self⟩
  · by_cases e : c = x
    · subst e; exact ⟨hx, S.length, by rw [List.getElem?_append_right (Nat.le_refl _)]; simp⟩
    · rw [upd_ne e] at hc
      obtain ⟨h1, j, h2⟩ := h.own c hc
      exact ⟨h1, j, by rw [List.getElem?_append_left (List.getElem?_eq_some_iff.1 h2).1]; exact h2⟩
  · rcases get j _ h1 with h1 | ⟨h1, e1⟩
    · rcases get j' _ h2 with h2 | ⟨h2, e2⟩
      · exact h.one j j' c h1 h2
      · exact absurd (by simp at e2; omega) (inS j c h1)
    · rcases get j' _ h2 with h2 | ⟨h2, e2⟩
      · exact absurd (by simp at e1; omega) (inS j' c h2)
      · omega
/-- the largest matching where the first rows are done -/
theorem done_mx {S rows : List (List Int)} {T : Nat → Bool} {L : Nat} (h : Done S T) (hl : ∀ row ∈ rows, RowOkR row) (hL : S.length + (rows.drop S.length).length = L) (hLe : rows.length = L) :
    mx (Er (S ++ rows.drop S.length)) 0 L = mx (Ee rows T) S.length L + cntN T 36 := by
  have hS : ∀ row ∈ S ++ rows.drop S.length, ∀ x ∈ row, x < 36 := fun row hr x hx => by
    rcases List.mem_append.1 hr with h1 | h1
    · obtain ⟨j, hj⟩ := List.getElem?_of_mem h1
      rcases h.row j row hj with h2 | ⟨c, h2, h3, _⟩
      · subst h2; cases hx
      · subst h3; simp at hx; omega
    · exact ((hl row (List.mem_of_mem_drop h1)).2 x hx).2
  have hEr : ∀ a, ∀ l ∈ Er (S ++ rows.drop S.length) a, l < 36 := fun a c hc => by
    unfold Er at hc
    obtain ⟨x, h2, rfl⟩ := List.mem_map.1 hc
    obtain ⟨h2, h3⟩ := List.mem_filter.1 h2
    cases h' : (S ++ rows.drop S.length)[a]? with
    | none => rw [h'] at h2; cases h2
    | some row =>
      rw [h'] at h2
      have := hS row (List.mem_of_getElem? h') x h2
      have := of_decide_eq_true h3
      omega
  have hEe : ∀ a, ∀ l ∈ Ee rows T a, l < 36 := fun a c hc => Er_lt hl a c (List.mem_filter.1 hc).1
  obtain ⟨wr, hr⟩ := exists_max hEr 0 L
  obtain ⟨wp, hp⟩ := exists_max hEe S.length (L - S.length)
  rw [Nat.zero_add] at hr
  rw [show S.length + (L - S.length) = L by omega] at hp
  rw [mx_eq hr, mx_eq hp]
  have hex : ∀ c, ∃ o : Int, T c = true → ∃ j : Nat, o = (j : Int) ∧ S[j]? = some [(c : Int)] := fun c => by
    by_cases hc : T c = true
    · obtain ⟨_, j, hj⟩ := h.own c hc
      exact ⟨j, fun _ => ⟨j, rfl, hj⟩⟩
    · exact ⟨0, fun h => absurd h hc⟩
  refine fixed_max (Er := Er (S ++ rows.drop S.length)) (Ep := Ee rows T) (i := S.length) (L := L) (T := T) (o := fun c => Classical.choose (hex c)) (by omega) (fun l hl' ht => ?_) (fun l l' _ _ ht ht' he => ?_) (fun a l ha => ?_) (fun a l ha hm => ?_) hr hp
  · obtain ⟨j, h1, h2⟩ := Classical.choose_spec (hex l) ht
    rw [h1]
    have hj : j < S.length := (List.getElem?_eq_some_iff.1 h2).1
    refine ⟨by omega, by omega, ?_⟩
    unfold Er
    rw [Int.toNat_natCast, List.getElem?_append_left hj, h2]
    simp
  · obtain ⟨j, h1, h2⟩ := Classical.choose_spec (hex l) ht
    obtain ⟨j', h3, h4⟩ := Classical.choose_spec (hex l') ht'
    rw [h1, h3] at he
    have : j = j' := by omega
    subst this
    rw [h2] at h4
    simp at h4; omega
  · unfold Ee Er
    rw [List.mem_filter, List.getElem?_append_right ha, List.getElem?_drop, show S.length + (a - S.length) = a by omega]
    simp
  · unfold Er at hm
    rw [List.getElem?_append_left ha] at hm
    obtain ⟨x, h2, rfl⟩ := List.mem_map.1 hm
    obtain ⟨h2, h3⟩ := List.mem_filter.1 h2
    rw [List.getElem?_eq_getElem ha] at h2
    rcases h.row a S[a] (List.getElem?_eq_getElem ha) with h4 | ⟨c, _, h5, h6⟩
    · dsimp only [Option.getD_some] at h2; rw [h4] at h2; cases h2
    · dsimp only [Option.getD_some] at h2; rw [h5] at h2; simp at h2; subst h2; simpa using h6
end Go.Proofs.YtodddfoehcfcnaaDoor

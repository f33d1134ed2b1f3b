/-
  The program's mnemonics are the plain specification's, whole. No program in sight.
-/
import Derived.Test.YtodddfoehcfcnaaDoorQd
namespace Go.Proofs.YtodddfoehcfcnaaDoor
open Go Go.E2
theorem mnem_out {a0 : List Str} (hs : ∀ s ∈ a0, s.size ≤ 100000) (hL : a0.length ≤ 1000) : ∀ (n i : Nat) (acc : List Int) (B : Nat) (ow : Own) (T : Nat → Bool), a0.length - i < n → i ≤ a0.length → acc.length = i → B ≤ 1000 →
    loopK (sc_Mnemonics_L2 a0 fun s6 => some (s6, 0)) n (acc, (B : Int), (i : Int), rowsP a0, ow, T) = some (acc ++ outP (rowsR a0) a0.length (a0.length - i) i T B, 0) := by
  intro n
  induction n with
  | zero => intro i _ _ _ _ h; exact absurd h (Nat.not_lt_zero _)
  | succ n ih =>
    intro i acc B ow T h hi ha hB
    show sc_Mnemonics_L2 a0 _ (loopK _ n) (acc, (B : Int), (i : Int), rowsP a0, ow, T) = _
    generalize loopK (sc_Mnemonics_L2 a0 fun s6 => some (s6, 0)) n = again at ih ⊢
    unfold sc_Mnemonics_L2
    dsimp only
    by_cases hl : i < a0.length
    · have hr : (rowsP a0)[i]? = some (chF (runes a0[i]) 0 fun _ => false) := by unfold rowsP; rw [List.getElem?_map, List.getElem?_eq_getElem hl]; rfl
      have hr2 : (rowsR a0)[i]? = some ((runes a0[i]).map lt) := by unfold rowsR; rw [List.getElem?_map, List.getElem?_eq_getElem hl]; rfl
      rw [nz_lt hl, sel_true, jn_eq, jn_eq, idxO_nat, hr, bind_some']
      have hN : a0.length < N0 := by unfold N0; omega
      obtain ⟨m, hm⟩ : ∃ m, a0.length - i = m + 1 := ⟨a0.length - i - 1, by omega⟩
      obtain ⟨ow', e⟩ := mnem_in (acc := acc) (ow0 := ow) (T := T) (B := B) (i := i) (kk := fun s13 => (appO acc ([s13.2.1])).bind fun x15 => (fun (s11 : (List Int) × Int × (List (List shortcut_choice)) × (Nat → Int) × (Nat → Bool)) => again (s11.1, s11.2.1, IntKind.i64.wrap ((i : Int) + 1), s11.2.2.1, s11.2.2.2.1, s11.2.2.2.2)) (x15, s13.1, s13.2.2.1, s13.2.2.2.1, s13.2.2.2.2))
        hs hL hl (row_okP (hs _ (List.getElem_mem hl))) hB N0 0 ow (by have := (row_okP (hs _ (List.getElem_mem hl))).1; omega)
      refine Eq.trans e ?_
      rw [List.drop_zero, pick_chF _ _ _ (fun _ h => by cases h), hm]
      unfold outP
      rw [hr2]
      dsimp only [Option.getD_some]
      rcases hp : pick (gP (rowsR a0) a0.length i T B) ((runes a0[i]).map lt) 0 with _ | ⟨k, x⟩
      · simp only [Option.map_none]
        rw [appO_eq (by simp; omega), bind_some', wrap_suc hl hN, ih (i + 1) _ B ow' T (by omega) (by omega) (by simp; omega) hB, show a0.length - (i + 1) = m by omega, List.append_assoc]; rfl
      · simp only [Option.map_some]
        rw [appO_eq (by simp; omega), bind_some', wrap_suc hl hN, ih (i + 1) _ (B - 1) ow' _ (by omega) (by omega) (by simp; omega) (by omega), show a0.length - (i + 1) = m by omega, List.append_assoc]; rfl
    · rw [nz_ge (by omega), sel_false, show a0.length - i = 0 by omega]
      unfold outP; rw [List.append_nil]
/-- the labels are taken in, or refused -/
theorem mnem_rows {a0 : List Str} {kk : List (List shortcut_choice) → Option (List Int × Int)} (hL : a0.length ≤ 1000) :
    loopK (sc_Mnemonics_L3 a0 kk) N0 (0, []) = if ∀ s ∈ a0, s.size ≤ 2000 then kk (rowsP a0) else some ([], 2) := by
  have hN : a0.length < N0 := by unfold N0; omega
  have key : ∀ (n i : Nat), a0.length - i < n → i ≤ a0.length → (∀ s ∈ a0.take i, s.size ≤ 2000) → loopK (sc_Mnemonics_L3 a0 kk) n ((i : Int), rowsP (a0.take i)) = if ∀ s ∈ a0, s.size ≤ 2000 then kk (rowsP a0) else some ([], 2) := by
    intro n
    induction n with
    | zero => intro i h; exact absurd h (Nat.not_lt_zero _)
    | succ n ih =>
      intro i h hi hall
      show sc_Mnemonics_L3 a0 kk (loopK _ n) ((i : Int), rowsP (a0.take i)) = _
      generalize loopK (sc_Mnemonics_L3 a0 kk) n = again at ih ⊢
      unfold sc_Mnemonics_L3
      dsimp only
      by_cases hl : i < a0.length
      · rw [nz_lt hl, sel_true, idxO_nat, List.getElem?_eq_getElem hl, bind_some']
        by_cases hz : a0[i].size ≤ 2000
        · have : decide ((a0[i].size : Int) > 2000) = false := decide_eq_false (by omega)
          rw [this, sel_false, choices_eq (by omega), bind_some', appO_eq (by simp [rowsP]; omega), bind_some', wrap_suc hl hN]
          have e : rowsP (a0.take i) ++ [chF (runes a0[i]) 0 fun _ => false] = rowsP (a0.take (i + 1)) := by
            unfold rowsP; rw [List.take_add_one, List.getElem?_eq_getElem hl, List.map_append]; rfl
          rw [e]
          refine ih (i + 1) (by omega) (by omega) (fun s hs => ?_)
          rw [List.take_add_one, List.getElem?_eq_getElem hl] at hs
          rcases List.mem_append.1 hs with h | h
          · exact hall s h
          · simp at h; subst h; exact hz
        · have : decide ((a0[i].size : Int) > 2000) = true := decide_eq_true (by omega)
          rw [this, sel_true, if_neg (fun h => hz (h _ (List.getElem_mem hl)))]
      · rw [nz_ge (by omega), sel_false]
        rw [List.take_of_length_le (by omega)] at hall ⊢
        rw [if_pos hall]
  exact key N0 0 (by omega) (by omega) (by simp)
theorem Mnemonics_eq (a0 : List Str) : sc_Mnemonics a0 = some (if a0.length ≤ 24 ∧ ∀ s ∈ a0, s.size ≤ 2000 then (outP (rowsR a0) a0.length a0.length 0 (fun _ => false) (mx (Ee (rowsR a0) fun _ => false) 0 a0.length), 0) else ([], 2)) := by
  unfold sc_Mnemonics
  by_cases hl : a0.length ≤ 24
  · have : decide ((a0.length : Int) > 24) = false := decide_eq_false (by omega)
    rw [this, sel_false, jn_eq, mnem_rows (by omega)]
    by_cases hs : ∀ s ∈ a0, s.size ≤ 2000
    · rw [if_pos hs, if_pos ⟨hl, hs⟩]
      have hs' : ∀ s ∈ a0, s.size ≤ 100000 := fun s h => by have := hs s h; omega
      have e1 : okO (decide (0 ≤ (a0.length : Int)) && decide ((a0.length : Int) ≤ 1073741824)) (a0.length : Int) = some (a0.length : Int) := by
        have : (decide (0 ≤ (a0.length : Int)) && decide ((a0.length : Int) ≤ 1073741824)) = true := by simp; omega
        rw [this]; rfl
      obtain ⟨w, hw⟩ := most_mx (a0 := a0) (ow := fun _ => 0) (T := fun _ => false) (first := 0) hs' (by omega) (by omega)
      have hw' : sc_matcher_most ⟨rowsP a0, fun _ => 0, fun _ => false⟩ 0 = _ := hw
      rw [e1, bind_some', hw', bind_some', jn_eq]
      have hb : mx (Ee (rowsR a0) fun _ => false) 0 a0.length ≤ 1000 := by
        unfold mx
        exact Nat.le_trans (sz_le _) (by omega)
      have := mnem_out hs' (by omega) N0 0 [] _ w (fun _ => false) (by unfold N0; omega) (by omega) rfl hb
      simpa using this
    · rw [if_neg hs, if_neg (fun h => hs h.2)]
  · have : decide ((a0.length : Int) > 24) = true := decide_eq_true (by omega)
    rw [this, sel_true, if_neg (fun h => hl h.1)]
end Go.Proofs.YtodddfoehcfcnaaDoor

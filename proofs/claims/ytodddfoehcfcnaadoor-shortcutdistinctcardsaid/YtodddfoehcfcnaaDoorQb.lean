/-
  The letters of a label, in the program and in the reference. No program in sight.
-/
import Derived.Test.YtodddfoehcfcnaaDoorQa
namespace Go.Proofs.YtodddfoehcfcnaaDoor
open Go Go.E2
/-- the letter of a rune, or -1 -/
def lt (r : Int) : Int := if r ≥ 97 ∧ r ≤ 122 then r - 97 else if r ≥ 65 ∧ r ≤ 90 then r - 65 else if r ≥ 48 ∧ r ≤ 57 then r - 48 + 26 else -1
theorem lt_rng (r : Int) : -1 ≤ lt r ∧ lt r < 36 := by
  unfold lt; split
  · omega
  · split
    · omega
    · split <;> omega
theorem wrap32_id {x : Int} (h1 : -2147483648 ≤ x) (h2 : x < 2147483648) : IntKind.i32.wrap x = x := by
  simp [IntKind.wrap, IntKind.bits, IntKind.signed]; omega
theorem letter_eq (r : Int) : sc_letter r = some (lt r) := by
  unfold sc_letter lt
  by_cases h1 : r ≥ 97 ∧ r ≤ 122
  · have : (decide (r ≥ 97) && decide (r ≤ 122)) = true := by simp; omega
    rw [this, sel_true, if_pos h1, wrap32_id (by omega) (by omega), wrap_id (by omega) (by omega)]
  · have : (decide (r ≥ 97) && decide (r ≤ 122)) = false := by simp only [Bool.and_eq_false_iff, decide_eq_false_iff_not]; omega
    rw [this, sel_false, if_neg h1]
    by_cases h2 : r ≥ 65 ∧ r ≤ 90
    · have : (decide (r ≥ 65) && decide (r ≤ 90)) = true := by simp; omega
      rw [this, sel_true, if_pos h2, wrap32_id (by omega) (by omega), wrap_id (by omega) (by omega)]
    · have : (decide (r ≥ 65) && decide (r ≤ 90)) = false := by simp only [Bool.and_eq_false_iff, decide_eq_false_iff_not]; omega
      rw [this, sel_false, if_neg h2]
      by_cases h3 : r ≥ 48 ∧ r ≤ 57
      · have : (decide (r ≥ 48) && decide (r ≤ 57)) = true := by simp; omega
        rw [this, sel_true, if_pos h3, wrap32_id (by omega) (by omega), wrap_id (x := r - 48) (by omega) (by omega), wrap_id (by omega) (by omega)]
      · have : (decide (r ≥ 48) && decide (r ≤ 57)) = false := by simp only [Bool.and_eq_false_iff, decide_eq_false_iff_not]; omega
        rw [this, sel_false, if_neg h3]
theorem rletter_eq (r : Int) : r32_letter r = some (lt r) := by
  unfold r32_letter lt
  by_cases h1 : r ≥ 97 ∧ r ≤ 122
  · have : (decide (r ≥ 97) && decide (r ≤ 122)) = true := by simp; omega
    rw [this, sel_true, if_pos h1, wrap32_id (by omega) (by omega), wrap_id (by omega) (by omega)]
  · have : (decide (r ≥ 97) && decide (r ≤ 122)) = false := by simp only [Bool.and_eq_false_iff, decide_eq_false_iff_not]; omega
    rw [this, sel_false, if_neg h1]
    by_cases h2 : r ≥ 65 ∧ r ≤ 90
    · have : (decide (r ≥ 65) && decide (r ≤ 90)) = true := by simp; omega
      rw [this, sel_true, if_pos h2, wrap32_id (by omega) (by omega), wrap_id (by omega) (by omega)]
    · have : (decide (r ≥ 65) && decide (r ≤ 90)) = false := by simp only [Bool.and_eq_false_iff, decide_eq_false_iff_not]; omega
      rw [this, sel_false, if_neg h2]
      by_cases h3 : r ≥ 48 ∧ r ≤ 57
      · have : (decide (r ≥ 48) && decide (r ≤ 57)) = true := by simp; omega
        rw [this, sel_true, if_pos h3, wrap32_id (by omega) (by omega), wrap_id (x := r - 48) (by omega) (by omega), wrap_id (by omega) (by omega)]
        congr 1; omega
      · have : (decide (r ≥ 48) && decide (r ≤ 57)) = false := by simp only [Bool.and_eq_false_iff, decide_eq_false_iff_not]; omega
        rw [this, sel_false, if_neg h3]
theorem runesF_len (s : Str) : ∀ (n i : Nat), (runesF s n i).length ≤ n
  | 0, _ => by unfold runesF; simp
  | n + 1, i => by
    unfold runesF
    split
    · have := runesF_len s n (i + (Utf8.decode s i).2); simp; omega
    · simp
theorem runes_len (s : Str) : (runes s).length ≤ s.size := runesF_len s s.size 0
/-- the first places of the letters -/
def chF : List Int → Nat → (Nat → Bool) → List shortcut_choice
  | [], _, _ => []
  | r :: t, i, sn => if 0 ≤ lt r ∧ sn (lt r).toNat = false then ⟨lt r, (i : Int)⟩ :: chF t (i + 1) (upd sn (lt r).toNat true) else chF t (i + 1) sn
theorem chF_len : ∀ (rs : List Int) (i : Nat) (sn : Nat → Bool), (chF rs i sn).length ≤ rs.length
  | [], _, _ => Nat.le_refl _
  | r :: t, i, sn => by
    unfold chF
    split
    · have := chF_len t (i + 1) (upd sn (lt r).toNat true); simp; omega
    · have := chF_len t (i + 1) sn; simp; omega
theorem chF_rng : ∀ (rs : List Int) (i : Nat) (sn : Nat → Bool), ∀ c ∈ chF rs i sn, 0 ≤ c.letter ∧ c.letter < 36
  | [], _, _, c, h => by cases h
  | r :: t, i, sn, c, h => by
    unfold chF at h
    split at h
    · rename_i hc
      rcases List.mem_cons.1 h with e | e
      · subst e; exact ⟨hc.1, (lt_rng r).2⟩
      · exact chF_rng t _ _ c e
    · exact chF_rng t _ _ c h
theorem choices_eq {s : Str} (hs : s.size ≤ 100000) : sc_choices s = some (chF (runes s) 0 fun _ => false) := by
  have hr : (runes s).length ≤ 100000 := Nat.le_trans (runes_len s) hs
  have hN : (runes s).length < N0 := by unfold N0; omega
  unfold sc_choices
  rw [jn_eq]
  have key : ∀ (n i : Nat) (acc : List shortcut_choice) (sn : Nat → Bool), (runes s).length - i < n → acc.length ≤ i →
      loopK (sc_choices_L1 s fun s1 => some s1) n (acc, (i : Int), sn) = some (acc ++ chF ((runes s).drop i) i sn) := by
    intro n
    induction n with
    | zero => intro i _ _ h; exact absurd h (Nat.not_lt_zero _)
    | succ n ih =>
      intro i acc sn h ha
      show sc_choices_L1 s _ (loopK _ n) (acc, (i : Int), sn) = _
      generalize loopK (sc_choices_L1 s fun s1 => some s1) n = again at ih ⊢
      unfold sc_choices_L1
      dsimp only
      by_cases hi : i < (runes s).length
      · rw [nz_lt hi, sel_true, jn_eq, idxO_nat, List.getElem?_eq_getElem hi, bind_some', letter_eq, bind_some', List.drop_eq_getElem_cons hi, wrap_suc hi hN]
        unfold chF
        generalize (runes s)[i] = r
        have hrg := lt_rng r
        by_cases h0 : 0 ≤ lt r
        · have hix : ixO 36 (lt r) = some (lt r).toNat := ixO_ok (by omega) (by omega)
          have hd : decide (lt r ≥ 0) = true := decide_eq_true h0
          rw [hd, gO_true, hix, bind_some', Bool.true_and]
          by_cases hn : sn (lt r).toNat = false
          · have : (!sn (lt r).toNat) = true := by rw [hn]; rfl
            rw [this, sel_true, bind_some', appO_eq (by simp; omega), bind_some', if_pos ⟨h0, hn⟩]
            refine (ih (i + 1) (acc ++ [⟨lt r, (i : Int)⟩]) (upd sn (lt r).toNat true) (by omega) (by simp; omega)).trans ?_
            rw [List.append_assoc]; rfl
          · have : (!sn (lt r).toNat) = false := by simpa using hn
            rw [this, sel_false, if_neg (fun h => hn h.2)]
            exact ih (i + 1) acc sn (by omega) (by omega)
        · have hd : decide (lt r ≥ 0) = false := decide_eq_false h0
          rw [hd, gO_false, bind_some', Bool.false_and, sel_false, if_neg (fun h => h0 h.1)]
          exact ih (i + 1) acc sn (by omega) (by omega)
      · rw [nz_ge (by omega), sel_false, List.drop_eq_nil_of_le (by omega)]; simp [chF]
  have := key N0 0 [] (fun _ => false) (by omega) (by simp)
  simpa using this
theorem row_okP {s : Str} (hs : s.size ≤ 100000) : RowOk (chF (runes s) 0 fun _ => false) := by
  refine ⟨?_, chF_rng _ _ _⟩
  have h1 := chF_len (runes s) 0 fun _ => false
  have h2 := runes_len s
  unfold N0; omega
theorem row_okR {s : Str} (hs : s.size ≤ 100000) : RowOkR ((runes s).map lt) := by
  refine ⟨?_, fun x hx => ?_⟩
  · have h2 := runes_len s
    rw [List.length_map]; unfold N0; omega
  · obtain ⟨r, _, rfl⟩ := List.mem_map.1 hx; exact lt_rng r
end Go.Proofs.YtodddfoehcfcnaaDoor

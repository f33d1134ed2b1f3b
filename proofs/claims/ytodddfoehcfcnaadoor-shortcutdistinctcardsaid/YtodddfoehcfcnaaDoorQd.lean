/-
  The program's mnemonics are the plain specification's. No program in sight.
-/
import Derived.Test.YtodddfoehcfcnaaDoorQc
namespace Go.Proofs.YtodddfoehcfcnaaDoor
open Go Go.E2
theorem chF_mem {c : Nat} : ∀ (rs : List Int) (i : Nat) (sn : Nat → Bool), (∃ ch ∈ chF rs i sn, ch.letter.toNat = c) ↔ (∃ r ∈ rs, 0 ≤ lt r ∧ (lt r).toNat = c) ∧ sn c = false
  | [], _, _ => by simp [chF]
  | r :: t, i, sn => by
    unfold chF
    by_cases h : 0 ≤ lt r ∧ sn (lt r).toNat = false
    · rw [if_pos h]
      have ih := chF_mem t (i + 1) (upd sn (lt r).toNat true) (c := c)
      constructor
      · rintro ⟨ch, hm, hc⟩
        rcases List.mem_cons.1 hm with e | e
        · subst e; dsimp only at hc; subst hc; exact ⟨⟨r, by simp, h.1, rfl⟩, h.2⟩
        · obtain ⟨⟨r', h1, h2⟩, h3⟩ := ih.1 ⟨ch, e, hc⟩
          refine ⟨⟨r', by simp [h1], h2⟩, ?_⟩
          by_cases e : c = (lt r).toNat
          · subst e; rw [upd_self] at h3; cases h3
          · rw [upd_ne e] at h3; exact h3
      · rintro ⟨⟨r', hm, h1, h2⟩, h3⟩
        by_cases e : c = (lt r).toNat
        · exact ⟨⟨lt r, (i : Int)⟩, by simp, e.symm⟩
        · rcases List.mem_cons.1 hm with e' | e'
          · subst e'; exact absurd h2.symm e
          · obtain ⟨ch, h4, h5⟩ := ih.2 ⟨⟨r', e', h1, h2⟩, by rw [upd_ne e]; exact h3⟩
            exact ⟨ch, by simp [h4], h5⟩
    · rw [if_neg h]
      have ih := chF_mem t (i + 1) sn (c := c)
      rw [ih]
      constructor
      · rintro ⟨⟨r', h1, h2⟩, h3⟩; exact ⟨⟨r', by simp [h1], h2⟩, h3⟩
      · rintro ⟨⟨r', hm, h1, h2⟩, h3⟩
        rcases List.mem_cons.1 hm with e' | e'
        · subst e'; exact absurd ⟨h1, by rw [h2]; exact h3⟩ h
        · exact ⟨⟨r', e', h1, h2⟩, h3⟩
def rowsP (a0 : List Str) : List (List shortcut_choice) := a0.map fun s => chF (runes s) 0 fun _ => false
def rowsR (a0 : List Str) : List (List Int) := a0.map fun s => (runes s).map lt
theorem Ep_Ee (a0 : List Str) (T : Nat → Bool) : ∀ a l, l ∈ Ep (rowsP a0) T a ↔ l ∈ Ee (rowsR a0) T a := by
  intro a l
  unfold Ep Ee Er rowsP rowsR
  rw [List.mem_filter, List.mem_filter, List.getElem?_map, List.getElem?_map]
  refine and_congr_left fun _ => ?_
  cases a0[a]? with
  | none => simp
  | some s =>
    show l ∈ List.map _ (chF (runes s) 0 fun _ => false) ↔ l ∈ List.map _ (List.filter _ (List.map lt (runes s)))
    rw [List.mem_map, chF_mem, List.mem_map]
    constructor
    · rintro ⟨⟨r, h1, h2, h3⟩, _⟩
      exact ⟨lt r, List.mem_filter.2 ⟨List.mem_map.2 ⟨r, h1, rfl⟩, decide_eq_true h2⟩, h3⟩
    · rintro ⟨x, h1, h2⟩
      obtain ⟨h3, h4⟩ := List.mem_filter.1 h1
      obtain ⟨r, h5, rfl⟩ := List.mem_map.1 h3
      exact ⟨⟨r, h5, of_decide_eq_true h4, h2⟩, rfl⟩
theorem most_mx {a0 : List Str} {ow : Own} {T : Nat → Bool} {first : Nat} (hs : ∀ s ∈ a0, s.size ≤ 100000) (hL : a0.length ≤ 1000) (hf : first ≤ a0.length) :
    ∃ w, sc_matcher_most ⟨rowsP a0, ow, T⟩ (first : Int) = some ((mx (Ee (rowsR a0) T) first a0.length : Int), ⟨rowsP a0, w, T⟩) := by
  have hl : (rowsP a0).length = a0.length := by simp [rowsP]
  obtain ⟨w, h1, h2⟩ := most_ok (l := rowsP a0) (ow := ow) (tk := T) (first := first) (fun row hrow => by
    obtain ⟨s, h1, rfl⟩ := List.mem_map.1 hrow
    exact row_okP (hs s h1)) (by omega) (by omega)
  rw [hl] at h2
  exact ⟨w, by rw [h1, ← mx_congr (Ep_Ee a0 T), mx_eq h2]⟩
theorem mnem_in {a0 : List Str} {i : Nat} {T : Nat → Bool} {B : Nat} {acc : List Int} {ow0 : Own} {kk : (Int × Int × (List (List shortcut_choice)) × (Nat → Int) × (Nat → Bool)) → Option ((List Int) × Int)} {row : List shortcut_choice}
    (hs : ∀ s ∈ a0, s.size ≤ 100000) (hL : a0.length ≤ 1000) (hi : i < a0.length) (hrow : RowOk row) (hB : B ≤ 1000) : ∀ (n j : Nat) (ow : Own), row.length - j < n →
    ∃ ow', loopK (sc_Mnemonics_L1 (acc, (B : Int), (i : Int), rowsP a0, ow0, T) kk row) n ((j : Int), rowsP a0, ow, T) = match pickC (gP (rowsR a0) a0.length i T B) (row.drop j) with
      | none => kk ((B : Int), -1, rowsP a0, ow', T)
      | some (at_, x) => kk (((B - 1 : Nat) : Int), at_, rowsP a0, ow', upd T x true) := by
  intro n
  induction n with
  | zero => intro j ow h; exact absurd h (Nat.not_lt_zero _)
  | succ n ih =>
    intro j ow h
    show ∃ ow', sc_Mnemonics_L1 (acc, (B : Int), (i : Int), rowsP a0, ow0, T) kk row (loopK _ n) ((j : Int), rowsP a0, ow, T) = _
    generalize loopK (sc_Mnemonics_L1 (acc, (B : Int), (i : Int), rowsP a0, ow0, T) kk row) n = again at ih ⊢
    unfold sc_Mnemonics_L1
    dsimp only
    by_cases hj : j < row.length
    · obtain ⟨c0, c1⟩ := hrow.2 row[j] (List.getElem_mem hj)
      rw [nz_lt hj, sel_true, jn_eq, idxO_nat, List.getElem?_eq_getElem hj, bind_some', wrap_suc hj hrow.1, List.drop_eq_getElem_cons hj]
      generalize row[j] = ch at c0 c1
      have hix : ixO 36 ch.letter = some ch.letter.toNat := ixO_ok (by omega) (by omega)
      rw [hix, bind_some']
      unfold pickC gP
      by_cases ht : T ch.letter.toNat = true
      · rw [ht, sel_true, Bool.not_true, Bool.false_and, if_neg (by simp)]
        exact ih (j + 1) ow (by omega)
      · have ht' : T ch.letter.toNat = false := by simpa using ht
        rw [ht', sel_false, bind_some', wrap_id (x := (i : Int) + 1) (by omega) (by omega), wrap_id (x := (B : Int) - 1) (by omega) (by omega)]
        obtain ⟨w, hw⟩ := most_mx (a0 := a0) (ow := ow) (T := upd T ch.letter.toNat true) (first := i + 1) hs hL (by omega)
        rw [show ((i : Int) + 1) = ((i + 1 : Nat) : Int) by omega, hw, bind_some']
        dsimp only
        by_cases hg : mx (Ee (rowsR a0) (upd T ch.letter.toNat true)) (i + 1) a0.length + 1 = B
        · have e1 : ((mx (Ee (rowsR a0) (upd T ch.letter.toNat true)) (i + 1) a0.length : Int) == (B : Int) - 1) = true := by simp; omega
          rw [e1, sel_true]
          rw [if_pos (by simp [hg])]
          exact ⟨w, by dsimp only; rw [show ((B - 1 : Nat) : Int) = (B : Int) - 1 by omega]⟩
        · have e1 : ((mx (Ee (rowsR a0) (upd T ch.letter.toNat true)) (i + 1) a0.length : Int) == (B : Int) - 1) = false := by simp; omega
          rw [e1, sel_false, bind_some', if_neg (by simp [hg])]
          have e2 : upd (upd T ch.letter.toNat true) ch.letter.toNat false = T := by
            funext l
            by_cases e : l = ch.letter.toNat
            · subst e; rw [upd_self, ht']
            · rw [upd_ne e, upd_ne e]
          rw [e2]
          exact ih (j + 1) w (by omega)
    · rw [nz_ge (by omega), sel_false, List.drop_eq_nil_of_le (by omega)]
      exact ⟨ow, rfl⟩
end Go.Proofs.YtodddfoehcfcnaaDoor

/-
  The program's and the reference's search for letters are the plain search. No program in sight.
-/
import Derived.Test.YtodddfoehcfcnaaDoorA4
import Derived.Test.YtodddfoehcfcnaaDoorQ6
namespace Go.Proofs.YtodddfoehcfcnaaDoor
open Go Go.E2
/-- the letters that are open to a label, in the program -/
def Ep (l : List (List shortcut_choice)) (tk : Nat → Bool) (a : Nat) : List Nat := (((l[a]?).getD []).map (·.letter.toNat)).filter fun c => !tk c
def RowOk (row : List shortcut_choice) : Prop := row.length < N0 ∧ ∀ c ∈ row, 0 ≤ c.letter ∧ c.letter < 36
theorem ixO_ok {n c : Nat} {z : Int} (h : z = (c : Int)) (hc : c < n) : ixO n z = some c := by
  subst h; show (if c < n then some c else none) = _; rw [if_pos hc]
def wrapP (l : List (List shortcut_choice)) (tk : Nat → Bool) (r : Bool × Own × Seen) : Bool × shortcut_matcher × (Nat → Bool) := (r.1, ⟨l, r.2.1, tk⟩, r.2.2)
theorem assign_eq {l : List (List shortcut_choice)} {tk : Nat → Bool} (hl : ∀ row ∈ l, RowOk row) : ∀ (n : Nat) (ow : Own) (tr : Seen) (k : Int),
    sc_matcher_assign n ⟨l, ow, tk⟩ k tr = (kuhn (Ep l tk) l.length n ow tr k).map (wrapP l tk) := by
  intro n
  induction n with
  | zero => intro ow tr k; rfl
  | succ n ih =>
    intro ow tr k
    show sc_matcher_assign_B (sc_matcher_assign n) ⟨l, ow, tk⟩ k tr = _
    unfold sc_matcher_assign_B kuhn
    dsimp only
    by_cases hk : 0 ≤ k ∧ k < l.length
    · obtain ⟨a, rfl⟩ : ∃ a : Nat, k = a := ⟨k.toNat, by omega⟩
      have ha : a < l.length := by omega
      rw [if_pos hk, jn_eq, idxO_nat, List.getElem?_eq_getElem ha, bind_some', Int.toNat_natCast]
      have hrow := hl l[a] (List.getElem_mem ha)
      have hE : Ep l tk a = (l[a].map (·.letter.toNat)).filter fun c => !tk c := by unfold Ep; rw [List.getElem?_eq_getElem ha]; rfl
      rw [hE]
      generalize l[a] = row at hrow
      obtain ⟨hlen, hlet⟩ := hrow
      rw [show ((0, l, ow, tk, tr) : Int × List (List shortcut_choice) × (Nat → Int) × (Nat → Bool) × (Nat → Bool)) = (fun (s : Own × Seen) (i : Nat) => ((i : Int), l, s.1, tk, s.2)) (ow, tr) 0 from rfl]
      rw [range0 (L := row) (k := fun s : Own × Seen => some (false, shortcut_matcher.mk l s.1 tk, s.2)) (fun (s : Own × Seen) (i : Nat) => ((i : Int), l, s.1, tk, s.2))
        (fun _ ch s => if s.2 ch.letter.toNat = true ∨ tk ch.letter.toNat = true then .inr s else if s.1 ch.letter.toNat < 0 then .inl (some (true, ⟨l, upd s.1 ch.letter.toNat (a : Int), tk⟩, upd s.2 ch.letter.toNat true)) else
          match kuhn (Ep l tk) l.length n s.1 (upd s.2 ch.letter.toNat true) (s.1 ch.letter.toNat) with
          | none => .inl none
          | some (true, w', s') => .inl (some (true, ⟨l, upd w' ch.letter.toNat (a : Int), tk⟩, s'))
          | some (false, w', s') => .inr (w', s')) hlen]
      · generalize 0 = i
        clear hE hlen
        induction row generalizing ow tr i with
        | nil => rfl
        | cons ch cs ihr =>
          have ihr' := fun ow tr i => ihr ow tr (fun c hc => hlet c (by simp [hc])) i
          rw [List.map_cons]
          cases ht : tk ch.letter.toNat with
          | true =>
            rw [List.filter_cons_of_neg (by simp [ht]), scanL_r (s' := (ow, tr)) (if_pos (.inr ht))]
            exact ihr' ow tr (i + 1)
          | false =>
            rw [List.filter_cons_of_pos (by simp [ht])]
            unfold kuhnL
            by_cases hs : tr ch.letter.toNat = true
            · rw [if_pos hs, scanL_r (s' := (ow, tr)) (if_pos (.inl hs))]
              exact ihr' ow tr (i + 1)
            · have hn : ¬ (tr ch.letter.toNat = true ∨ tk ch.letter.toNat = true) := by rw [ht]; simpa using hs
              rw [if_neg hs]
              by_cases hw : ow ch.letter.toNat < 0
              · rw [if_pos hw, scanL_l (r := some (true, ⟨l, upd ow ch.letter.toNat (a : Int), tk⟩, upd tr ch.letter.toNat true)) (by dsimp only; rw [if_neg hn, if_pos hw])]; rfl
              · rw [if_neg hw]
                rcases hr : kuhn (Ep l tk) l.length n ow (upd tr ch.letter.toNat true) (ow ch.letter.toNat) with _ | ⟨b, w', s'⟩
                · rw [scanL_l (r := none) (by dsimp only; rw [if_neg hn, if_neg hw, hr])]; rfl
                · cases b with
                  | true => rw [scanL_l (r := some (true, ⟨l, upd w' ch.letter.toNat (a : Int), tk⟩, s')) (by dsimp only; rw [if_neg hn, if_neg hw, hr])]; rfl
                  | false =>
                    rw [scanL_r (s' := (w', s')) (by dsimp only; rw [if_neg hn, if_neg hw, hr])]
                    exact ihr' w' s' (i + 1)
      · intro again s i ch hx hi
        obtain ⟨w, t⟩ := s
        obtain ⟨c0, c1⟩ := hlet ch (List.mem_of_getElem? hx)
        have hix : ixO 36 ch.letter = some ch.letter.toNat := ixO_ok (by omega) (by omega)
        unfold sc_matcher_assign_L1
        dsimp only
        rw [nz_lt hi, sel_true, jn_eq, idxO_nat, hx, bind_some', hix, bind_some', wrap_suc hi hlen]
        generalize ch.letter.toNat = c
        by_cases ht : t c = true
        · simp [ht]
        · have ht' : t c = false := by simpa using ht
          simp only [ht', Bool.not_false, gO_true, bind_some', Bool.false_or]
          by_cases hk : tk c = true
          · simp [hk]
          · have hk' : tk c = false := by simpa using hk
            simp only [hk', sel_false]
            by_cases hw : w c < 0
            · simp [hw]
            · simp only [hw, decide_false, Bool.not_false, gO_true, bind_some', sel_true, Bool.false_or]
              rw [ih]
              rcases hr : kuhn (Ep l tk) l.length n w (upd t c true) (w c) with _ | ⟨b, w', s'⟩
              · simp
              · cases b with
                | true => simp [wrapP]
                | false => simp [wrapP]
      · intro again s i hi
        unfold sc_matcher_assign_L1
        dsimp only
        rw [nz_ge hi, sel_false]
    · rw [if_neg hk, jn_eq]
      have : idxO l k = none := by
        cases k with
        | ofNat a =>
          show l[a]? = none
          rw [List.getElem?_eq_none]
          simp at hk ⊢; omega
        | negSucc a => rfl
      rw [this]; rfl
end Go.Proofs.YtodddfoehcfcnaaDoor

/-
  The reference's search for letters is the plain search. No program in sight.
-/
import Derived.Test.YtodddfoehcfcnaaDoorQ7
namespace Go.Proofs.YtodddfoehcfcnaaDoor
open Go Go.E2
/-- a function as a list of 36 -/
def toL {α : Type} (w : Nat → α) : List α := (List.range 36).map w
theorem toL_len {α : Type} (w : Nat → α) : (toL w).length = 36 := by simp [toL]
theorem toL_get {α : Type} (w : Nat → α) {c : Nat} (h : c < 36) : (toL w)[c]? = some (w c) := by
  unfold toL; rw [List.getElem?_map, List.getElem?_range h]; rfl
theorem toL_set {α : Type} (w : Nat → α) {c : Nat} (v : α) : List.set (toL w) c v = toL (upd w c v) := by
  apply List.ext_getElem?
  intro i
  by_cases h : i < 36
  · rw [toL_get _ h]
    by_cases e : c = i
    · subst e; rw [List.getElem?_set_self (by rw [toL_len]; exact h), upd_self]
    · rw [List.getElem?_set_ne e, toL_get _ h, upd_ne (fun e' => e e'.symm)]
  · rw [List.getElem?_eq_none (by rw [List.length_set, toL_len]; omega), List.getElem?_eq_none (by rw [toL_len]; omega)]
def Er (l : List (List Int)) (a : Nat) : List Nat := (((l[a]?).getD []).filter fun x => decide (0 ≤ x)).map (·.toNat)
def RowOkR (row : List Int) : Prop := row.length < N0 ∧ ∀ x ∈ row, -1 ≤ x ∧ x < 36
def wrapR (r : Bool × Own × Seen) : Bool × List Int × List Bool := (r.1, toL r.2.1, toL r.2.2)
theorem loopK_first {S R : Type} (B : (S → Option R) → S → Option R) (s : S) : loopK B N0 s = B (loopK B (N0 - 1)) s := by
  have : N0 = (N0 - 1) + 1 := by unfold N0; omega
  conv => lhs; rw [this]
  rfl
theorem grow_eq {l : List (List Int)} (hl : ∀ row ∈ l, RowOkR row) : ∀ (n : Nat) (w : Own) (s : Seen) (k : Int),
    r32_grow n l (toL w) (toL s) k = (kuhn (Er l) l.length n w s k).map wrapR := by
  intro n
  induction n with
  | zero => intro w s k; rfl
  | succ n ih =>
    intro w s k
    show r32_grow_B (r32_grow n) l (toL w) (toL s) k = _
    unfold r32_grow_B kuhn
    rw [jn_eq]
    by_cases hk : 0 ≤ k ∧ k < l.length
    · obtain ⟨a, rfl⟩ : ∃ a : Nat, k = a := ⟨k.toNat, by omega⟩
      have ha : a < l.length := by omega
      rw [if_pos hk, Int.toNat_natCast]
      have hrow := hl l[a] (List.getElem_mem ha)
      have hE : Er l a = (l[a].filter fun x => decide (0 ≤ x)).map (·.toNat) := by unfold Er; rw [List.getElem?_eq_getElem ha]; rfl
      have hla : l[a]? = some l[a] := List.getElem?_eq_getElem ha
      rw [hE]
      generalize l[a] = row at hrow hla
      obtain ⟨hlen, hlet⟩ := hrow
      rw [show ((0, toL w, toL s) : Int × List Int × List Bool) = (fun (s : Own × Seen) (i : Nat) => ((i : Int), toL s.1, toL s.2)) (w, s) 0 from rfl]
      rw [range0 (L := row) (k := fun s : Own × Seen => some (false, toL s.1, toL s.2)) (fun (s : Own × Seen) (i : Nat) => ((i : Int), toL s.1, toL s.2))
        (fun _ x s => if x < 0 ∨ s.2 x.toNat = true then .inr s else if s.1 x.toNat < 0 then .inl (some (true, toL (upd s.1 x.toNat (a : Int)), toL (upd s.2 x.toNat true))) else
          match kuhn (Er l) l.length n s.1 (upd s.2 x.toNat true) (s.1 x.toNat) with
          | none => .inl none
          | some (true, w', s') => .inl (some (true, toL (upd w' x.toNat (a : Int)), toL s'))
          | some (false, w', s') => .inr (w', s')) hlen]
      · generalize 0 = i
        clear hE hlen hla
        induction row generalizing w s i with
        | nil => rfl
        | cons x cs ihr =>
          have ihr' := fun w s i => ihr w s (fun c hc => hlet c (by simp [hc])) i
          by_cases hx : x < 0
          · rw [List.filter_cons_of_neg (by simp; omega), scanL_r (s' := (w, s)) (if_pos (.inl hx))]
            exact ihr' w s (i + 1)
          · rw [List.filter_cons_of_pos (by simp; omega), List.map_cons]
            unfold kuhnL
            by_cases hs : s x.toNat = true
            · rw [if_pos hs, scanL_r (s' := (w, s)) (if_pos (.inr hs))]
              exact ihr' w s (i + 1)
            · have hn : ¬ (x < 0 ∨ s x.toNat = true) := fun h => h.elim hx hs
              rw [if_neg hs]
              by_cases hw : w x.toNat < 0
              · rw [if_pos hw, scanL_l (r := some (true, toL (upd w x.toNat (a : Int)), toL (upd s x.toNat true))) (by dsimp only; rw [if_neg hn, if_pos hw])]; rfl
              · rw [if_neg hw]
                rcases hr : kuhn (Er l) l.length n w (upd s x.toNat true) (w x.toNat) with _ | ⟨b, w', s'⟩
                · rw [scanL_l (r := none) (by dsimp only; rw [if_neg hn, if_neg hw, hr])]; rfl
                · cases b with
                  | true => rw [scanL_l (r := some (true, toL (upd w' x.toNat (a : Int)), toL s')) (by dsimp only; rw [if_neg hn, if_neg hw, hr])]; rfl
                  | false =>
                    rw [scanL_r (s' := (w', s')) (by dsimp only; rw [if_neg hn, if_neg hw, hr])]
                    exact ihr' w' s' (i + 1)
      · intro again st i x hx hi
        obtain ⟨w, t⟩ := st
        obtain ⟨c0, c1⟩ := hlet x (List.mem_of_getElem? hx)
        unfold r32_grow_L1
        dsimp only
        rw [idxO_nat, hla, bind_some', nz_lt hi, sel_true, jn_eq, bind_some', idxO_nat, hx, bind_some', wrap_suc hi hlen]
        by_cases hx0 : x < 0
        · simp [hx0]
        · have hix : ixO 36 x = some x.toNat := ixO_ok (by omega) (by omega)
          have hc : x.toNat < 36 := by omega
          simp only [hx0, decide_false, Bool.not_false, gO_true, toL_len, hix, bind_some', toL_get _ hc, Bool.false_or, false_or]
          generalize x.toNat = c at hc hix ⊢
          by_cases ht : t c = true
          · simp [ht]
          · have ht' : t c = false := by simpa using ht
            simp only [ht', sel_false, toL_set]
            by_cases hw : w c < 0
            · simp [hw, toL_len, hix, toL_set]
            · simp only [hw, decide_false, Bool.not_false, gO_true, bind_some', sel_true, Bool.false_or, toL_get _ hc]
              rw [ih]
              rcases hr : kuhn (Er l) l.length n w (upd t c true) (w c) with _ | ⟨b, w', s'⟩
              · simp
              · cases b with
                | true => simp [wrapR, toL_len, hix, toL_set]
                | false => simp [wrapR]
      · intro again st i hi
        unfold r32_grow_L1
        dsimp only
        rw [idxO_nat, hla, bind_some', nz_ge hi, sel_false]
    · rw [if_neg hk, loopK_first]
      have : idxO l k = none := by
        cases k with
        | ofNat a =>
          show l[a]? = none
          rw [List.getElem?_eq_none]
          simp at hk ⊢; omega
        | negSucc a => rfl
      unfold r32_grow_L1
      rw [this]; rfl
end Go.Proofs.YtodddfoehcfcnaaDoor

/-
  The mnemonics of labels, as a plain specification. No program in sight.
-/
import Derived.Test.YtodddfoehcfcnaaDoorQb
namespace Go.E2
open Go
/-- the size of a largest matching -/
noncomputable def mx (E : Nat → List Nat) (lo hi : Nat) : Nat := sz (@Classical.epsilon Own ⟨fun _ => 0⟩ (IsMax E lo hi))
theorem mx_eq {E : Nat → List Nat} {lo hi : Nat} {w : Own} (h : IsMax E lo hi w) : mx E lo hi = sz w :=
  IsMax.size (@Classical.epsilon_spec_aux Own ⟨fun _ => 0⟩ (IsMax E lo hi) ⟨w, h⟩) h
theorem Mat_congr {E E' : Nat → List Nat} (h : ∀ a l, l ∈ E a ↔ l ∈ E' a) {lo hi : Nat} {m : Own} : Mat E lo hi m ↔ Mat E' lo hi m := by
  unfold Mat
  simp only [h]
theorem IsMax_congr {E E' : Nat → List Nat} (h : ∀ a l, l ∈ E a ↔ l ∈ E' a) {lo hi : Nat} {m : Own} : IsMax E lo hi m ↔ IsMax E' lo hi m := by
  unfold IsMax
  simp only [Mat_congr h]
theorem mx_congr {E E' : Nat → List Nat} (h : ∀ a l, l ∈ E a ↔ l ∈ E' a) (lo hi : Nat) : mx E lo hi = mx E' lo hi := by
  have : IsMax E lo hi = IsMax E' lo hi := by funext m; exact propext (IsMax_congr h)
  unfold mx; rw [this]
end Go.E2
namespace Go.Proofs.YtodddfoehcfcnaaDoor
open Go Go.E2
/-- the first place whose letter passes -/
def pick (g : Nat → Bool) : List Int → Nat → Option (Nat × Nat)
  | [], _ => none
  | x :: t, i => if 0 ≤ x ∧ g x.toNat = true then some (i, x.toNat) else pick g t (i + 1)
/-- the first choice whose letter passes -/
def pickC (g : Nat → Bool) : List shortcut_choice → Option (Int × Nat)
  | [] => none
  | c :: t => if g c.letter.toNat = true then some (c.at_, c.letter.toNat) else pickC g t
theorem pick_chF {g : Nat → Bool} : ∀ (rs : List Int) (i : Nat) (sn : Nat → Bool), (∀ l, sn l = true → g l = false) → pickC g (chF rs i sn) = (pick g (rs.map lt) i).map fun p => ((p.1 : Int), p.2)
  | [], _, _, _ => rfl
  | r :: t, i, sn, h => by
    rw [List.map_cons]
    unfold chF pick
    by_cases h0 : 0 ≤ lt r
    · by_cases hs : sn (lt r).toNat = false
      · rw [if_pos ⟨h0, hs⟩]
        unfold pickC
        dsimp only
        by_cases hg : g (lt r).toNat = true
        · rw [if_pos hg, if_pos ⟨h0, hg⟩]; rfl
        · rw [if_neg hg, if_neg (fun h => hg h.2)]
          refine pick_chF t (i + 1) _ (fun l hl => ?_)
          by_cases e : l = (lt r).toNat
          · subst e; simpa using hg
          · rw [upd_ne e] at hl; exact h l hl
      · rw [if_neg (fun h => hs h.2)]
        have hs' : sn (lt r).toNat = true := by simpa using hs
        rw [if_neg (fun h' => by rw [h _ hs'] at h'; exact absurd h'.2 (by simp))]
        exact pick_chF t (i + 1) sn h
    · rw [if_neg (fun h => h0 h.1), if_neg (fun h => h0 h.1)]
      exact pick_chF t (i + 1) sn h
/-- the letters that are open to a label -/
def Ee (rows : List (List Int)) (T : Nat → Bool) (a : Nat) : List Nat := (Er rows a).filter fun c => !T c
/-- a letter that the label i may take: it is free, and the labels behind lose nothing -/
noncomputable def gP (rows : List (List Int)) (L i : Nat) (T : Nat → Bool) (B : Nat) (x : Nat) : Bool := !T x && decide (mx (Ee rows (upd T x true)) (i + 1) L + 1 = B)
noncomputable def outP (rows : List (List Int)) (L : Nat) : Nat → Nat → (Nat → Bool) → Nat → List Int
  | 0, _, _, _ => []
  | n + 1, i, T, B => match pick (gP rows L i T B) ((rows[i]?).getD []) 0 with
    | none => -1 :: outP rows L n (i + 1) T B
    | some (k, x) => (k : Int) :: outP rows L n (i + 1) (upd T x true) (B - 1)
end Go.Proofs.YtodddfoehcfcnaaDoor

/-
  Feed and Conflicts, plainly: the program and the reference compute the same. No program in sight.
-/
import Derived.Test.YtodddfoehcfcnaaDoorA4
import Derived.Test.YtodddfoehcfcnaaDoorQ1
namespace Go.Proofs.YtodddfoehcfcnaaDoor
open Go Go.E2
deriving instance DecidableEq for Chord
theorem awake_true : l32_awake = some true := by kernel_rfl
theorem chord_ne (x y : Chord) : (!((x.Key == y.Key) && (x.Mods == y.Mods))) = !decide (x = y) := by
  obtain ⟨a, b⟩ := x; obtain ⟨c, d⟩ := y
  by_cases h1 : a = c <;> by_cases h2 : b = d <;> simp [h1, h2]
theorem pair_ne (x y : Int × Int) : (!((x.1 == y.1) && (x.2 == y.2))) = !decide (x = y) := by
  obtain ⟨a, b⟩ := x; obtain ⟨c, d⟩ := y
  by_cases h1 : a = c <;> by_cases h2 : b = d <;> simp [h1, h2]
theorem ne_if {α : Type} {p : Prop} [Decidable p] (a b : α) : sel (!decide p) a b = if p then b else a := by
  by_cases h : p <;> simp [h]
theorem same_eq {a b : List Chord} (hn : a.length < N0) : l32_same a b = some (decide (a = b)) := by
  unfold l32_same
  by_cases hl : a.length = b.length
  · have : ((a.length : Int) != (b.length : Int)) = false := by simp [hl]
    rw [this, sel_false, jn_eq, eq_loop (a := a) (b := b) (by omega) hn]
    · rw [hl, List.take_length]; simp only [eq_comm]
    · intro again i x y hi hx hy
      unfold l32_same_L1
      rw [nz_lt hi, sel_true, idxO_nat, idxO_nat, hx, hy, bind_some', bind_some', chord_ne, ne_if, wrap_suc hi hn]
    · intro again i hi
      unfold l32_same_L1
      rw [nz_ge hi, sel_false]
  · have : ((a.length : Int) != (b.length : Int)) = true := by simp; omega
    rw [this, sel_true]
    have : ¬ a = b := fun e => hl (by rw [e])
    simp [this]
theorem samePairs_eq {a b : List (Int × Int)} (hn : a.length < N0) : l32_samePairs a b = some (decide (a = b)) := by
  unfold l32_samePairs
  by_cases hl : a.length = b.length
  · have : ((a.length : Int) != (b.length : Int)) = false := by simp [hl]
    rw [this, sel_false, jn_eq, eq_loop (a := a) (b := b) (by omega) hn]
    · rw [hl, List.take_length]; simp only [eq_comm]
    · intro again i x y hi hx hy
      unfold l32_samePairs_L1
      rw [nz_lt hi, sel_true, idxO_nat, idxO_nat, hx, hy, bind_some', bind_some', pair_ne, ne_if, wrap_suc hi hn]
    · intro again i hi
      unfold l32_samePairs_L1
      rw [nz_ge hi, sel_false]
  · have : ((a.length : Int) != (b.length : Int)) = true := by simp; omega
    rw [this, sel_true]
    have : ¬ a = b := fun e => hl (by rw [e])
    simp [this]
theorem equal_eq {a b : List Chord} (hn : a.length < N0) : slices_Equal_Sl_Chord_Chord a b = some (decide (a = b)) := by
  unfold slices_Equal_Sl_Chord_Chord
  by_cases hl : a.length = b.length
  · have : ((a.length : Int) != (b.length : Int)) = false := by simp [hl]
    rw [this, sel_false, jn_eq, eq_loop (a := a) (b := b) (by omega) hn]
    · rw [hl, List.take_length]; simp only [eq_comm]
    · intro again i x y hi hx hy
      unfold slices_Equal_Sl_Chord_Chord_L1
      rw [nz_lt hi, sel_true, idxO_nat, idxO_nat, hx, hy, bind_some', bind_some', chord_ne, ne_if, wrap_suc hi hn]
    · intro again i hi
      unfold slices_Equal_Sl_Chord_Chord_L1
      rw [nz_ge hi, sel_false]
  · have : ((a.length : Int) != (b.length : Int)) = true := by simp; omega
    rw [this, sel_true]
    have : ¬ a = b := fun e => hl (by rw [e])
    simp [this]
/-- p begins l -/
def pre (l p : List Chord) : Bool := decide (l.take p.length = p)
theorem pre_len {l p : List Chord} (h : pre l p = true) : p.length ≤ l.length := by
  have h := of_decide_eq_true h
  have := congrArg List.length h
  rw [List.length_take] at this; omega
theorem begins_eq {l p : List Chord} (hn : p.length < N0) : sc_begins l p = some (pre l p) := by
  unfold sc_begins
  by_cases hl : p.length ≤ l.length
  · have : decide ((p.length : Int) ≤ (l.length : Int)) = true := by simpa using hl
    rw [this, gO_true, slcO_eq hl, bind_some', gO_true, equal_eq (by rw [List.length_take]; omega), bind_some', Bool.true_and]; rfl
  · have : decide ((p.length : Int) ≤ (l.length : Int)) = false := by simpa using hl
    rw [this, gO_false, bind_some', gO_false, bind_some', Bool.false_and]
    cases hp : pre l p with
    | true => exact absurd (pre_len hp) hl
    | false => rfl
theorem r_begins_eq {l p : List Chord} (hn : p.length < N0) : r32_begins l p = some (pre l p) := by
  unfold r32_begins
  by_cases hl : p.length ≤ l.length
  · have : decide ((l.length : Int) < (p.length : Int)) = false := by simpa using hl
    rw [this, sel_false, jn_eq, eq_loop (a := p) (b := l) hl hn]
    · rfl
    · intro again i x y hi hx hy
      unfold r32_begins_L1
      rw [nz_lt hi, sel_true, idxO_nat, idxO_nat, hx, hy, bind_some', bind_some', chord_ne, ne_if, wrap_suc hi hn]
      simp only [eq_comm]
    · intro again i hi
      unfold r32_begins_L1
      rw [nz_ge hi, sel_false]
  · have : decide ((l.length : Int) < (p.length : Int)) = true := by simp; omega
    rw [this, sel_true]
    cases hp : pre l p with
    | true => exact absurd (pre_len hp) hl
    | false => rfl

/-- one scope: the node that fires, or whether any waits -/
def scanS (s : Int) (keys : List Chord) : List Shortcut → Bool → Int ⊕ Bool
  | [], b => .inr b
  | x :: t, b => if x.Scope = s ∧ pre x.Keys keys = true then (if x.Keys.length = keys.length then .inl x.Node else scanS s keys t true) else scanS s keys t b
def findP (l : List Shortcut) (keys : List Chord) : List Int → Int × Int
  | [] => (0, 0)
  | s :: t => match scanS s keys l false with
    | .inl n => (n, 2)
    | .inr true => (0, 1)
    | .inr false => findP l keys t
theorem find1 {l : List Shortcut} {keys : List Chord} {s : Int} (hl : l.length < N0) (hk : keys.length < N0) (k : Bool → Option (Int × Int)) (b : Bool) :
    loopK (sc_find_L1 l keys s k) N0 (b, 0) = match scanS s keys l b with
      | .inl n => some (n, 2)
      | .inr b' => k b' := by
  rw [show ((b, 0) : Bool × Int) = (fun (b : Bool) (i : Nat) => (b, (i : Int))) b 0 from rfl]
  rw [range0 (L := l) (k := k) (fun (b : Bool) (i : Nat) => (b, (i : Int))) (fun _ x b => if x.Scope = s ∧ pre x.Keys keys = true then (if x.Keys.length = keys.length then .inl (some (x.Node, 2)) else .inr true) else .inr b) hl]
  · generalize 0 = i
    induction l generalizing i b with
    | nil => rfl
    | cons x t ih =>
      have ht : t.length < N0 := by simp at hl; omega
      unfold scanL scanS
      by_cases h1 : x.Scope = s ∧ pre x.Keys keys = true
      · by_cases h2 : x.Keys.length = keys.length
        · simp only [if_pos h1, if_pos h2]
        · simp only [if_pos h1, if_neg h2]; exact ih ht _ _
      · simp only [if_neg h1]; exact ih ht _ _
  · intro again b i x hx hi
    unfold sc_find_L1
    dsimp only
    rw [nz_lt hi, sel_true, jn_eq, idxO_nat, hx, bind_some', begins_eq hk, wrap_suc hi hl]
    by_cases h1 : x.Scope = s
    · have e1 : (x.Scope != s) = false := by simp [h1]
      rw [e1, Bool.not_false, gO_true, bind_some', Bool.false_or]
      cases hp : pre x.Keys keys with
      | true =>
        rw [Bool.not_true, sel_false]
        by_cases h2 : x.Keys.length = keys.length
        · have : ((x.Keys.length : Int) == (keys.length : Int)) = true := by simp [h2]
          rw [this, sel_true]; simp [h1, h2]
        · have : ((x.Keys.length : Int) == (keys.length : Int)) = false := by simp; omega
          rw [this, sel_false]; simp [h1, h2]
      | false => simp
    · have e1 : (x.Scope != s) = true := by simp [h1]
      rw [e1, Bool.not_true, gO_false, bind_some', Bool.true_or, sel_true]; simp [h1]
  · intro again b i hi
    unfold sc_find_L1
    dsimp only
    rw [nz_ge hi, sel_false]
theorem find_eq {l : List Shortcut} {keys : List Chord} {scopes : List Int} (hl : l.length < N0) (hk : keys.length < N0) (hs : scopes.length < N0) :
    sc_find l scopes keys = some (findP l keys scopes) := by
  unfold sc_find
  rw [jn_eq]
  rw [rangeI (R := Int × Int) (L := scopes) (k := some (0, 0)) (fun _ s => match scanS s keys l false with
    | .inl n => .inl (some (n, 2))
    | .inr true => .inl (some (0, 1))
    | .inr false => .inr ()) hs]
  · generalize 0 = i
    induction scopes generalizing i with
    | nil => rfl
    | cons s t ih =>
      have ht : t.length < N0 := by simp at hs; omega
      unfold scanL findP
      rcases hsc : scanS s keys l false with n | b
      · rfl
      · cases b
        · exact ih ht _
        · rfl
  · intro again i x hx hi
    unfold sc_find_L2
    dsimp only
    rw [nz_lt hi, sel_true, jn_eq, idxO_nat, hx, bind_some', jn_eq, find1 hl hk, wrap_suc hi hs]
    rcases hsc : scanS x keys l false with n | b
    · rfl
    · cases b <;> rfl
  · intro again i hi
    unfold sc_find_L2
    dsimp only
    rw [nz_ge hi, sel_false]
/-- what the reference makes of it -/
def matchP (keys : List Chord) (t : Int) (x : Int × Int) : PendingKeys × Int × Int := (if x.2 = 1 then PendingKeys.mk keys t else PendingKeys.mk [] 0, x.1, x.2)
theorem match1 {l : List Shortcut} {scopes : List Int} {keys : List Chord} {s : Int} {j : Nat} (hj : scopes[j]? = some s) (hl : l.length < N0) (hk : keys.length < N0) (k : Bool → Option (PendingKeys × Int × Int)) (b : Bool) :
    loopK (r32_match_L1 l scopes keys (j : Int) k) N0 (b, 0) = match scanS s keys l b with
      | .inl n => some (PendingKeys.mk [] 0, n, 2)
      | .inr b' => k b' := by
  rw [show ((b, 0) : Bool × Int) = (fun (b : Bool) (i : Nat) => (b, (i : Int))) b 0 from rfl]
  rw [range0 (L := l) (k := k) (fun (b : Bool) (i : Nat) => (b, (i : Int))) (fun _ x b => if x.Scope = s ∧ pre x.Keys keys = true then (if x.Keys.length = keys.length then .inl (some (PendingKeys.mk [] 0, x.Node, 2)) else .inr true) else .inr b) hl]
  · generalize 0 = i
    induction l generalizing i b with
    | nil => rfl
    | cons x t ih =>
      have ht : t.length < N0 := by simp at hl; omega
      unfold scanL scanS
      by_cases h1 : x.Scope = s ∧ pre x.Keys keys = true
      · by_cases h2 : x.Keys.length = keys.length
        · simp only [if_pos h1, if_pos h2]
        · simp only [if_pos h1, if_neg h2]; exact ih ht _ _
      · simp only [if_neg h1]; exact ih ht _ _
  · intro again b i x hx hi
    unfold r32_match_L1
    dsimp only
    rw [nz_lt hi, sel_true, jn_eq, idxO_nat, hx, bind_some', idxO_nat, hj, bind_some', wrap_suc hi hl]
    by_cases h1 : x.Scope = s
    · have e1 : (x.Scope != s) = false := by simp [h1]
      rw [e1, Bool.not_false, gO_true, bind_some', gO_true, r_begins_eq hk, bind_some', Bool.false_or, bind_some']
      cases hp : pre x.Keys keys with
      | true =>
        rw [Bool.not_true, sel_false]
        by_cases h2 : x.Keys.length = keys.length
        · have : ((x.Keys.length : Int) == (keys.length : Int)) = true := by simp [h2]
          rw [this, sel_true]; simp [h1, h2]
        · have : ((x.Keys.length : Int) == (keys.length : Int)) = false := by simp; omega
          rw [this, sel_false]; simp [h1, h2]
      | false => simp
    · have e1 : (x.Scope != s) = true := by simp [h1]
      rw [e1, Bool.not_true, gO_false, bind_some', gO_false, bind_some', Bool.true_or, sel_true]; simp [h1]
  · intro again b i hi
    unfold r32_match_L1
    dsimp only
    rw [nz_ge hi, sel_false]
theorem match_eq {l : List Shortcut} {keys : List Chord} {scopes : List Int} {t : Int} (hl : l.length < N0) (hk : keys.length < N0) (hs : scopes.length < N0) :
    r32_match l scopes keys t = some (matchP keys t (findP l keys scopes)) := by
  unfold r32_match
  rw [jn_eq]
  rw [rangeI (R := PendingKeys × Int × Int) (L := scopes) (k := some (PendingKeys.mk [] 0, 0, 0)) (fun _ s => match scanS s keys l false with
    | .inl n => .inl (some (PendingKeys.mk [] 0, n, 2))
    | .inr true => .inl (some (PendingKeys.mk keys t, 0, 1))
    | .inr false => .inr ()) hs]
  · generalize 0 = i
    induction scopes generalizing i with
    | nil => rfl
    | cons s r ih =>
      have ht : r.length < N0 := by simp at hs; omega
      unfold scanL findP
      rcases hsc : scanS s keys l false with n | b
      · rfl
      · cases b
        · exact ih ht _
        · rfl
  · intro again i x hx hi
    unfold r32_match_L2
    dsimp only
    rw [nz_lt hi, sel_true, jn_eq, jn_eq, match1 hx hl hk, wrap_suc hi hs]
    rcases hsc : scanS x keys l false with n | b
    · rfl
    · cases b <;> rfl
  · intro again i hi
    unfold r32_match_L2
    dsimp only
    rw [nz_ge hi, sel_false]
end Go.Proofs.YtodddfoehcfcnaaDoor

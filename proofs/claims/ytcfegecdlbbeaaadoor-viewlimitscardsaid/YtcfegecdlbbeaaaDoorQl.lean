/-
  Loops of plain functions: how they end. No program in sight.
-/
import Derived.Test.YtcfegecdlbbeaaaDoorXw
namespace Go.E2
open Go
theorem wrap_id {x : Int} (h1 : -9223372036854775808 ≤ x) (h2 : x < 9223372036854775808) : IntKind.i64.wrap x = x := by
  rw [IntKind.wrap_i64]; omega
theorem wrap_suc {i n : Nat} (h : i < n) (hn : n < N0) : IntKind.i64.wrap ((i : Int) + 1) = ((i + 1 : Nat) : Int) := by
  unfold N0 at hn; rw [wrap_id (by omega) (by omega)]; omega
/-- a loop whose state grows smaller -/
theorem loopK_ind {S R : Type} {B : (S → Option R) → S → Option R} (P : S → Option R → Prop) (μ : S → Nat)
    (step : ∀ s again, (∀ s', μ s' < μ s → P s' (again s')) → P s (B again s)) : ∀ n s, μ s < n → P s (loopK B n s)
  | 0, _, h => absurd h (Nat.not_lt_zero _)
  | n + 1, s, h => step s _ (fun s' h' => loopK_ind P μ step n s' (by omega))
theorem idxO_nat {α : Type} {L : List α} {k : Nat} : idxO L (k : Int) = L[k]? := rfl
theorem sel_dec {α : Type} {p : Prop} [Decidable p] (a b : α) : sel (decide p) a b = if p then a else b := by
  by_cases h : p <;> simp [h, sel]
theorem sel_if {α : Type} (c : Bool) (a b : α) : sel c a b = if c = true then a else b := by cases c <;> rfl
@[simp] theorem sel_true {α : Type} (a b : α) : sel true a b = a := rfl
@[simp] theorem sel_false {α : Type} (a b : α) : sel false a b = b := rfl
@[simp] theorem gO_true {α : Type} [Inhabited α] (o : Option α) : gO true o = o := rfl
@[simp] theorem gO_false {α : Type} [Inhabited α] (o : Option α) : gO false o = some default := rfl
@[simp] theorem bind_some' {α β : Type} (x : α) (k : α → Option β) : (some x).bind k = k x := rfl
@[simp] theorem jn_eq {S R : Type} (k : S → Option R) (b : (S → Option R) → Option R) : jn k b = b k := rfl
theorem appO_eq {α : Type} {L X : List α} (h : L.length + X.length ≤ 1073741824) : appO L X = some (L ++ X) := if_pos h
theorem slcO_eq {α : Type} {L : List α} {n : Nat} (h : n ≤ L.length) : slcO L 0 (n : Int) = some (L.take n) := by
  have : slcO L 0 (n : Int) = some ((L.take (n : Int).toNat).drop (0 : Int).toNat) := if_pos ⟨Int.le_refl 0, by omega, by omega⟩
  rw [this]; simp
theorem nz_lt {i n : Nat} (h : i < n) : decide ((i : Int) < (n : Int)) = true := by simpa using h
theorem nz_ge {i n : Nat} (h : n ≤ i) : decide ((i : Int) < (n : Int)) = false := by simpa using h

/-- a walk along a list: `f` says whether to leave with a result, or how to go on -/
def scanL {α σ R : Type} (f : Nat → α → σ → (Option R ⊕ σ)) (k : σ → Option R) : Nat → List α → σ → Option R
  | _, [], s => k s
  | i, x :: t, s => match f i x s with
    | .inl r => r
    | .inr s' => scanL f k (i + 1) t s'
theorem scanL_l {α σ R : Type} {f : Nat → α → σ → (Option R ⊕ σ)} {k : σ → Option R} {i : Nat} {x : α} {t : List α} {s : σ} {r : Option R} (h : f i x s = .inl r) : scanL f k i (x :: t) s = r := by
  unfold scanL; rw [h]
theorem scanL_r {α σ R : Type} {f : Nat → α → σ → (Option R ⊕ σ)} {k : σ → Option R} {i : Nat} {x : α} {t : List α} {s s' : σ} (h : f i x s = .inr s') : scanL f k i (x :: t) s = scanL f k (i + 1) t s' := by
  conv => lhs; unfold scanL
  rw [h]
theorem range_loop {α σ R S : Type} {L : List α} {B : (S → Option R) → S → Option R} {k : σ → Option R} (st : σ → Nat → S) (f : Nat → α → σ → (Option R ⊕ σ))
    (hc : ∀ again s i x, L[i]? = some x → i < L.length → B again (st s i) = match f i x s with
        | .inl r => r
        | .inr s' => again (st s' (i + 1)))
    (he : ∀ again s i, L.length ≤ i → B again (st s i) = k s) :
    ∀ (n i : Nat) (s : σ), L.length - i < n → loopK B n (st s i) = scanL f k i (L.drop i) s
  | 0, _, _, h => absurd h (Nat.not_lt_zero _)
  | n + 1, i, s, h => by
    show B (loopK B n) (st s i) = _
    by_cases hi : i < L.length
    · rw [hc _ s i L[i] (List.getElem?_eq_getElem hi) hi, List.drop_eq_getElem_cons hi]
      show _ = match f i L[i] s with
        | .inl r => r
        | .inr s' => scanL f k (i + 1) (L.drop (i + 1)) s'
      cases hf : f i L[i] s with
      | inl r => rfl
      | inr s' => exact range_loop st f hc he n (i + 1) s' (by omega)
    · rw [he _ s i (by omega), List.drop_eq_nil_of_le (by omega)]; rfl
theorem range0 {α σ R S : Type} {L : List α} {B : (S → Option R) → S → Option R} {k : σ → Option R} (st : σ → Nat → S) (f : Nat → α → σ → (Option R ⊕ σ)) (hn : L.length < N0)
    (hc : ∀ again s i x, L[i]? = some x → i < L.length → B again (st s i) = match f i x s with
        | .inl r => r
        | .inr s' => again (st s' (i + 1)))
    (he : ∀ again s i, L.length ≤ i → B again (st s i) = k s) (s : σ) : loopK B N0 (st s 0) = scanL f k 0 L s :=
  range_loop st f hc he N0 0 s (by omega)
theorem rangeI {α R : Type} {L : List α} {B : (Int → Option R) → Int → Option R} {k : Option R} (f : Nat → α → Option R ⊕ Unit) (hn : L.length < N0)
    (hc : ∀ again (i : Nat) x, L[i]? = some x → i < L.length → B again (i : Int) = match f i x with
        | .inl r => r
        | .inr _ => again ((i + 1 : Nat) : Int))
    (he : ∀ again (i : Nat), L.length ≤ i → B again (i : Int) = k) : loopK B N0 0 = scanL (fun i x _ => f i x) (fun _ => k) 0 L () :=
  range0 (σ := Unit) (fun _ i => (i : Int)) (fun i x _ => f i x) hn (fun again _ i x hx hi => (hc again i x hx hi).trans (by cases f i x <;> rfl)) (fun again _ i => he again i) ()
/-- a loop of checks that leave with true -/
theorem guard_scan {α : Type} {bad : α → Prop} [DecidablePred bad] {k : Option Bool} : ∀ (l : List α) (i : Nat), ((∀ x ∈ l, ¬ bad x) → k = some true) →
    scanL (fun (_ : Nat) (x : α) (_ : Unit) => if bad x then (.inl (some true) : Option Bool ⊕ Unit) else .inr ()) (fun _ => k) i l () = some true
  | [], _, hk => hk (by simp)
  | x :: t, i, hk => by
    by_cases hx : bad x
    · exact scanL_l (if_pos hx)
    · rw [scanL_r (s' := ()) (if_neg hx)]
      exact guard_scan t (i + 1) (fun h => hk (by
        intro y hy
        rcases List.mem_cons.1 hy with e | e
        · subst e; exact hx
        · exact h y e))
/-- two lists are compared -/
theorem eq_loop {α : Type} [DecidableEq α] {a b : List α} {B : (Int → Option Bool) → Int → Option Bool} (hl : a.length ≤ b.length) (hn : a.length < N0)
    (hc : ∀ again (i : Nat) x y, i < a.length → a[i]? = some x → b[i]? = some y → B again (i : Int) = if x = y then again ((i + 1 : Nat) : Int) else some false)
    (he : ∀ again (i : Nat), a.length ≤ i → B again (i : Int) = some true) : loopK B N0 0 = some (decide (b.take a.length = a)) := by
  have key : ∀ (n i : Nat), a.length - i < n → b.take i = a.take i → loopK B n (i : Int) = some (decide (b.take a.length = a)) := by
    intro n
    induction n with
    | zero => intro i h; exact absurd h (Nat.not_lt_zero _)
    | succ n ih =>
      intro i h hp
      show B (loopK B n) (i : Int) = _
      by_cases hi : i < a.length
      · have hb : i < b.length := by omega
        rw [hc _ i a[i] b[i] hi (List.getElem?_eq_getElem hi) (List.getElem?_eq_getElem hb)]
        by_cases hx : a[i] = b[i]
        · rw [if_pos hx]
          refine ih (i + 1) (by omega) ?_
          rw [List.take_add_one, List.take_add_one, hp, List.getElem?_eq_getElem hi, List.getElem?_eq_getElem hb, hx]
        · rw [if_neg hx]
          have : ¬ b.take a.length = a := by
            intro e
            apply hx
            have e1 : (b.take a.length)[i]? = a[i]? := by rw [e]
            rw [List.getElem?_take_of_lt hi, List.getElem?_eq_getElem hi, List.getElem?_eq_getElem hb] at e1
            exact (Option.some.inj e1).symm
          simp [this]
      · rw [he _ i (by omega)]
        have : b.take a.length = a := by
          have := congrArg (List.take a.length) hp
          rw [List.take_take, List.take_take, Nat.min_eq_left (by omega), List.take_length] at this
          exact this
        simp [this]
  exact key N0 0 (by omega) rfl
/-- a loop that comes to true at every place -/
theorem allLoop {n : Nat} {B : (Int → Option Bool) → Int → Option Bool} {o : Option Bool} (hn : n < N0) (p : Nat → Prop)
    (hc : ∀ again (i : Nat), i < n → B again (i : Int) = some true ∨ (p i ∧ B again (i : Int) = again ((i + 1 : Nat) : Int))) (he : ∀ again (i : Nat), n ≤ i → B again (i : Int) = o) (ho : (∀ j, j < n → p j) → o = some true) : loopK B N0 0 = some true := by
  have key := loopK_ind (B := B) (fun st r => ∀ i : Nat, st = i → (∀ j, j < i → j < n → p j) → r = some true) (fun st => n - st.toNat) (fun st again ih => by
      intro i hi hp
      subst hi
      by_cases hl : i < n
      · rcases hc again i hl with h | ⟨h1, h2⟩
        · exact h
        · rw [h2]
          refine ih _ (by omega) (i + 1) rfl (fun j hj hjn => ?_)
          by_cases e : j = i
          · subst e; exact h1
          · exact hp j (by omega) hjn
      · rw [he again i (by omega)]
        exact ho (fun j hj => hp j (by omega) hj)) N0 0 (by omega) 0 rfl (fun j hj => by omega)
  exact key
/-- a loop that passes -/
theorem passLoop {R : Type} {n : Nat} {B : (Int → Option R) → Int → Option R} {o : Option R} (hn : n < N0) (hc : ∀ again (i : Nat), i < n → B again (i : Int) = again ((i + 1 : Nat) : Int)) (he : ∀ again (i : Nat), n ≤ i → B again (i : Int) = o) : loopK B N0 0 = o := by
  have key := loopK_ind (B := B) (fun st r => ∀ i : Nat, st = i → r = o) (fun st => n - st.toNat) (fun st again ih => by
      intro i hi
      subst hi
      by_cases hl : i < n
      · rw [hc again i hl]
        exact ih _ (by omega) (i + 1) rfl
      · exact he again i (by omega)) N0 0 (by omega) 0 rfl
  exact key
theorem loopK_first {S R : Type} (B : (S → Option R) → S → Option R) (s : S) : loopK B N0 s = B (loopK B (N0 - 1)) s := by
  have : N0 = (N0 - 1) + 1 := by unfold N0; omega
  conv => lhs; rw [this]
  rfl
/-- two texts with the same bytes -/
theorem toList_loop_eq (bs : ByteArray) : ∀ (n i : Nat) (acc : List UInt8), bs.size - i = n → ByteArray.toList.loop bs i acc = acc.reverse ++ bs.data.toList.drop i := by
  intro n
  induction n with
  | zero =>
    intro i acc h
    unfold ByteArray.toList.loop
    rw [if_neg (by omega), List.drop_eq_nil_of_le (by show bs.data.toList.length ≤ i; have : bs.data.toList.length = bs.size := Array.length_toList
                                                      omega)]
    simp
  | succ n ih =>
    intro i acc h
    have hi : i < bs.size := by omega
    unfold ByteArray.toList.loop
    rw [if_pos hi, ih (i + 1) _ (by omega)]
    have hd : i < bs.data.toList.length := by rw [Array.length_toList]; exact hi
    rw [List.drop_eq_getElem_cons hd]
    have : bs.get! i = bs.data.toList[i] := by
      show bs.data[i]! = _
      rw [getElem!_pos bs.data i (by simpa using hd)]; simp
    simp [this]
theorem toList_eq (bs : ByteArray) : bs.toList = bs.data.toList := by
  unfold ByteArray.toList
  rw [toList_loop_eq bs _ 0 [] rfl]; simp
theorem bytes_inj {a b : Str} (h : a.toList = b.toList) : a = b := by
  rw [toList_eq, toList_eq] at h
  obtain ⟨a⟩ := a; obtain ⟨b⟩ := b
  congr
  exact Array.toList_inj.1 h
theorem ixO_nat {n i : Nat} (h : i < n) : ixO n (i : Int) = some i := by
  show (if i < n then some i else none) = _; rw [if_pos h]
theorem idxO_ok {α : Type} {L : List α} {r : Int} (h0 : 0 ≤ r) (h1 : r < L.length) : ∃ x, idxO L r = some x ∧ x ∈ L := by
  obtain ⟨n, rfl⟩ : ∃ n : Nat, r = n := ⟨r.toNat, by omega⟩
  have : n < L.length := by omega
  exact ⟨L[n], by rw [idxO_nat, List.getElem?_eq_getElem this], List.getElem_mem this⟩
theorem idxO_at {α : Type} {L : List α} {i : Nat} (h : i < L.length) : idxO L (i : Int) = some L[i] := by rw [idxO_nat, List.getElem?_eq_getElem h]
theorem bs_eq (a b : Str) : (a.toList == b.toList) = decide (a = b) := by
  by_cases h : a = b
  · subst h; simp
  · have : a.toList ≠ b.toList := fun e => h (bytes_inj e)
    simp [h, this]
end Go.E2

/-
  The reference's mnemonics are the plain specification's. No program in sight.
-/
import Derived.Test.YtodddfoehcfcnaaDoorQf
namespace Go.Proofs.YtodddfoehcfcnaaDoor
open Go Go.E2
theorem ixO_nat {n i : Nat} (h : i < n) : ixO n (i : Int) = some i := ixO_ok rfl h
/-- no row ahead has the letter -/
theorem firm_eq {S R : List (List Int)} {T : Nat → Bool} {c : Nat} (h : Done S T) (hc : c < 36) (hS : S.length < N0) : r32_firm (S ++ [(c : Int)] :: R) (S.length : Int) = some (!T c) := by
  unfold r32_firm
  rw [jn_eq]
  have hget : ∀ j, j < S.length → (S ++ [(c : Int)] :: R)[j]? = some S[j]! := fun j hj => by
    rw [List.getElem?_append_left hj, getElem!_pos S j hj, List.getElem?_eq_getElem hj]
  have hself : (S ++ [(c : Int)] :: R)[S.length]? = some [(c : Int)] := by rw [List.getElem?_append_right (Nat.le_refl _)]; simp
  have key : ∀ (n j : Nat), S.length - j < n → j ≤ S.length → ∃ b, loopK (r32_firm_L1 (S ++ [(c : Int)] :: R) (S.length : Int) fun _ => some true) n (j : Int) = some b ∧ (b = true ↔ ∀ k, j ≤ k → k < S.length → S[k]! ≠ [(c : Int)]) := by
    intro n
    induction n with
    | zero => intro j h; exact absurd h (Nat.not_lt_zero _)
    | succ n ih =>
      intro j hn hj
      show ∃ b, r32_firm_L1 (S ++ [(c : Int)] :: R) (S.length : Int) (fun _ => some true) (loopK _ n) (j : Int) = some b ∧ _
      generalize loopK (r32_firm_L1 (S ++ [(c : Int)] :: R) (S.length : Int) fun _ => some true) n = again at ih ⊢
      unfold r32_firm_L1
      by_cases hl : j < S.length
      · rw [nz_lt hl, sel_true, idxO_nat, hget j hl, bind_some', wrap_suc hl hS]
        have hrow := h.row j S[j]! (by rw [getElem!_pos S j hl]; exact List.getElem?_eq_getElem hl)
        have step : (∀ k, j ≤ k → k < S.length → S[k]! ≠ [(c : Int)]) ↔ (S[j]! ≠ [(c : Int)] ∧ ∀ k, j + 1 ≤ k → k < S.length → S[k]! ≠ [(c : Int)]) := by
          constructor
          · intro h; exact ⟨h j (Nat.le_refl _) hl, fun k hk => h k (by omega)⟩
          · rintro ⟨h1, h2⟩ k hk hkl
            by_cases e : k = j
            · subst e; exact h1
            · exact h2 k (by omega) hkl
        rw [step]
        obtain ⟨b, ih1, ih2⟩ := ih (j + 1) (by omega) (by omega)
        rcases hrow with e | ⟨c', _, e, _⟩
        · rw [e]
          have e1 : ((([] : List Int).length : Int) == 1) = false := rfl
          rw [e1]
          refine ⟨b, ih1, ih2.trans ⟨fun h => ⟨by simp, h⟩, fun h => h.2⟩⟩
        · rw [e]
          have e1 : (([(c' : Int)].length : Int) == 1) = true := rfl
          rw [e1]
          simp only [gO_true, bind_some', idxO_nat]
          rw [show idxO [(c' : Int)] 0 = some (c' : Int) from rfl, bind_some', hself, bind_some', show idxO [(c : Int)] 0 = some (c : Int) from rfl, bind_some', Bool.true_and]
          by_cases ec : c' = c
          · subst ec
            refine ⟨false, by simp, ⟨fun h => (by cases h), fun h => absurd rfl h.1⟩⟩
          · have : ((c' : Int) == (c : Int)) = false := by simp; omega
            rw [this, sel_false]
            exact ⟨b, ih1, ih2.trans ⟨fun h => ⟨by simp; omega, h⟩, fun h => h.2⟩⟩
      · have e0 : decide ((j : Int) < (S.length : Int)) = false := nz_ge (by omega)
        rw [e0, sel_false]
        exact ⟨true, rfl, ⟨fun _ k h1 h2 => absurd h2 (by omega), fun _ => rfl⟩⟩
  obtain ⟨b, h1, h2⟩ := key N0 0 (by omega) (by omega)
  rw [show ((0 : Nat) : Int) = 0 from rfl] at h1
  rw [h1]
  congr 1
  by_cases ht : T c = true
  · obtain ⟨_, j, hj⟩ := h.own c ht
    have hjl := (List.getElem?_eq_some_iff.1 hj).1
    rw [ht]
    cases b with
    | false => rfl
    | true =>
      refine absurd ?_ (h2.1 rfl j (Nat.zero_le _) hjl)
      rw [getElem!_pos S j hjl]
      rw [List.getElem?_eq_getElem hjl] at hj
      exact Option.some.inj hj
  · have ht' : T c = false := by simpa using ht
    rw [ht']
    refine h2.2 ?_
    intro k _ hk e
    rcases h.row k S[k]! (by rw [getElem!_pos S k hk]; exact List.getElem?_eq_getElem hk) with e' | ⟨c', _, e', h3⟩
    · rw [e] at e'; cases e'
    · rw [e] at e'
      have : c = c' := by simp at e'; omega
      subst this; rw [h3] at ht'; cases ht'
theorem cnt_upd {T : Nat → Bool} {c : Nat} (hc : c < 36) (ht : T c = false) : cntN (upd T c true) 36 = cntN T 36 + 1 := by
  have := cntN_upd (p := upd T c true) (q := T) (c := c) (fun l hl => upd_ne hl) hc
  rw [upd_self, ht] at this
  simpa using this
theorem most_eqR {l : List (List Int)} {L : Nat} (hl : ∀ row ∈ l, RowOkR row) (hL : l.length = L) (hb : L ≤ 1000) : r32_most l = some (mx (Er l) 0 L : Int) := by
  subst hL
  obtain ⟨w, h1, h2⟩ := most_okR hl hb
  rw [h1, mx_eq h2]
theorem ref_in {rows S : List (List Int)} {T : Nat → Bool} {B L : Nat} {acc O1 mine : List Int} {s8 : Int × List Int × List (List Int)} {k18 : (List Int × List (List Int)) → Option (List Int × Int)}
    (hr : ∀ row ∈ rows, RowOkR row) (hL : rows.length = L) (hLb : L ≤ 1000) (h : Done S T) (hi : S.length < L) (ha : acc.length = S.length) (h8 : s8.1 = (S.length : Int)) (hm : RowOkR mine) (_hmine : rows[S.length]? = some mine) :
    ∀ (n j : Nat), mine.length - j + 1 < n →
      loopK (r32_Mnemonics_L1 ((B + cntN T 36 : Nat) : Int) s8 mine k18) n ((j : Int), acc ++ (-1) :: O1, S ++ [] :: rows.drop (S.length + 1)) = match pick (gP rows L S.length T B) (mine.drop j) j with
        | none => k18 (acc ++ (-1) :: O1, S ++ [] :: rows.drop (S.length + 1))
        | some (k, x) => k18 (acc ++ (k : Int) :: O1, S ++ [(x : Int)] :: rows.drop (S.length + 1)) := by
  have hset : ∀ (a b : List Int), (S ++ a :: rows.drop (S.length + 1)).set S.length b = S ++ b :: rows.drop (S.length + 1) := fun a b => by
    rw [List.set_append_right _ _ (Nat.le_refl _)]; simp
  have hseto : ∀ (a b : Int), (acc ++ a :: O1).set S.length b = acc ++ b :: O1 := fun a b => by
    rw [← ha, List.set_append_right _ _ (Nat.le_refl _)]; simp
  have hgeto : ∀ a : Int, (acc ++ a :: O1)[S.length]? = some a := fun a => by rw [← ha, List.getElem?_append_right (Nat.le_refl _)]; simp
  have hlen : ∀ a : List Int, (S ++ a :: rows.drop (S.length + 1)).length = L := fun a => by simp; omega
  have hleno : ∀ a : Int, S.length < (acc ++ a :: O1).length := fun a => by simp; omega
  have out : ∀ (n j k : Nat) (x : List Int), n ≠ 0 → loopK (r32_Mnemonics_L1 ((B + cntN T 36 : Nat) : Int) s8 mine k18) n ((j : Int), acc ++ (k : Int) :: O1, S ++ x :: rows.drop (S.length + 1)) = k18 (acc ++ (k : Int) :: O1, S ++ x :: rows.drop (S.length + 1)) := by
    intro n j k x hn
    obtain ⟨n, rfl⟩ : ∃ m, n = m + 1 := ⟨n - 1, by omega⟩
    show r32_Mnemonics_L1 _ s8 mine k18 (loopK _ n) _ = _
    unfold r32_Mnemonics_L1
    dsimp only
    rw [h8, ixO_nat (hleno _)]
    by_cases hj : j < mine.length
    · rw [nz_lt hj, gO_true, bind_some', hgeto, gO_true, bind_some']
      have : decide ((k : Int) < 0) = false := decide_eq_false (by omega)
      rw [this]; rfl
    · rw [nz_ge (by omega), gO_false, bind_some', gO_false, bind_some', Bool.false_and, sel_false]
  intro n
  induction n with
  | zero => intro j h; exact absurd h (Nat.not_lt_zero _)
  | succ n ih =>
    intro j hn
    show r32_Mnemonics_L1 _ s8 mine k18 (loopK _ n) _ = _
    have hn0 : n ≠ 0 := by omega
    have out' := fun j k x => out n j k x hn0
    generalize loopK (r32_Mnemonics_L1 ((B + cntN T 36 : Nat) : Int) s8 mine k18) n = again at ih out' ⊢
    unfold r32_Mnemonics_L1
    dsimp only
    rw [h8, ixO_nat (hleno _)]
    by_cases hj : j < mine.length
    · have hmj := hm.2 mine[j] (List.getElem_mem hj)
      rw [nz_lt hj, gO_true, bind_some', hgeto, gO_true, bind_some', show decide ((-1 : Int) < 0) = true from rfl, Bool.true_and, sel_true, jn_eq, idxO_nat, List.getElem?_eq_getElem hj, bind_some', wrap_suc hj hm.1, List.drop_eq_getElem_cons hj]
      generalize mine[j] = x at hmj
      unfold pick
      by_cases hx : x < 0
      · rw [show decide (x < 0) = true from decide_eq_true hx, sel_true, if_neg (fun h => by omega)]
        exact ih (j + 1) (by omega)
      · obtain ⟨c, rfl⟩ : ∃ c : Nat, x = c := ⟨x.toNat, by omega⟩
        rw [show decide ((c : Int) < 0) = false from decide_eq_false hx, sel_false, bind_some', hlen, ixO_nat hi, bind_some', hset, firm_eq h (by omega) (by unfold N0; omega), bind_some', Int.toNat_natCast]
        by_cases ht : T c = true
        · rw [ht, Bool.not_true, gO_false, bind_some', Bool.false_and, sel_false, hlen, ixO_nat hi, bind_some', hset, if_neg (by unfold gP; rw [ht]; simp)]
          exact ih (j + 1) (by omega)
        · have ht' : T c = false := by simpa using ht
          have hd := done_take h (x := c) (by omega) ht'
          have hrow : ∀ row ∈ S ++ [(c : Int)] :: rows.drop (S.length + 1), RowOkR row := by
            intro row hrow
            rcases List.mem_append.1 hrow with h1 | h1
            · obtain ⟨q, hq⟩ := List.getElem?_of_mem h1
              rcases h.row q row hq with e | ⟨c', e1, e, _⟩
              · subst e; exact ⟨by unfold N0; simp, fun x hx => by cases hx⟩
              · subst e; exact ⟨by unfold N0; simp, fun x hx => by simp at hx; omega⟩
            · rcases List.mem_cons.1 h1 with e | e
              · subst e; exact ⟨by unfold N0; simp, fun x hx => by simp at hx; omega⟩
              · exact hr row (List.mem_of_mem_drop e)
          have hmx := done_mx (rows := rows) (L := L) hd hr (by simp; omega) hL
          have hap : S ++ [[(c : Int)]] ++ rows.drop (S ++ [[(c : Int)]]).length = S ++ [(c : Int)] :: rows.drop (S.length + 1) := by simp
          have hsl : (S ++ [[(c : Int)]]).length = S.length + 1 := by simp
          rw [hap, hsl, cnt_upd (by omega) ht'] at hmx
          rw [ht', Bool.not_false, gO_true, most_eqR hrow (hlen _) hLb, bind_some', Bool.true_and, hmx]
          by_cases hg : mx (Ee rows (upd T c true)) (S.length + 1) L + 1 = B
          · have e1 : (((mx (Ee rows (upd T c true)) (S.length + 1) L + (cntN T 36 + 1) : Nat) : Int) == ((B + cntN T 36 : Nat) : Int)) = true := by simp; omega
            rw [e1, sel_true, bind_some', hseto, if_pos ⟨by omega, by unfold gP; simp [ht', hg]⟩]
            exact out' (j + 1) j _
          · have e1 : (((mx (Ee rows (upd T c true)) (S.length + 1) L + (cntN T 36 + 1) : Nat) : Int) == ((B + cntN T 36 : Nat) : Int)) = false := by simp; omega
            rw [e1, sel_false, hlen, ixO_nat hi, bind_some', hset, if_neg (by unfold gP; simp [hg])]
            exact ih (j + 1) (by omega)
    · rw [nz_ge (by omega), gO_false, bind_some', gO_false, bind_some', Bool.false_and, sel_false, show mine.drop j = [] from List.drop_eq_nil_of_le (by omega)]
      rfl
theorem ref_out {rows : List (List Int)} {L : Nat} (hr : ∀ row ∈ rows, RowOkR row) (hsm : ∀ row ∈ rows, row.length ≤ 100000) (hL : rows.length = L) (hLb : L ≤ 1000) {A : Nat} : ∀ (n : Nat) (S : List (List Int)) (acc : List Int) (T : Nat → Bool) (B : Nat), L - S.length < n → S.length ≤ L → acc.length = S.length → Done S T → (∀ i, B + cntN T 36 = i → (i : Nat) = A) → 
    loopK (r32_Mnemonics_L2 (A : Int) fun s6 => some (s6, 0)) n ((S.length : Int), acc ++ List.replicate (L - S.length) 0, S ++ rows.drop S.length) = some (acc ++ outP rows L (L - S.length) S.length T B, 0) := by
  intro n
  induction n with
  | zero => intro S _ _ _ h; exact absurd h (Nat.not_lt_zero _)
  | succ n ih =>
    intro S acc T B hn hi ha h hB
    have hA : B + cntN T 36 = A := hB _ rfl
    show r32_Mnemonics_L2 _ _ (loopK _ n) _ = _
    generalize loopK (r32_Mnemonics_L2 (A : Int) fun s6 => some (s6, 0)) n = again at ih ⊢
    unfold r32_Mnemonics_L2
    dsimp only
    have hlen : (S ++ rows.drop S.length).length = L := by simp; omega
    rw [hlen]
    by_cases hl : S.length < L
    · obtain ⟨m, hm⟩ : ∃ m, L - S.length = m + 1 := ⟨L - S.length - 1, by omega⟩
      have hrl : S.length < rows.length := by omega
      have hg : (S ++ rows.drop S.length)[S.length]? = some rows[S.length] := by rw [List.getElem?_append_right (Nat.le_refl _)]; simp [List.getElem?_eq_getElem hrl]
      have hmok := hr _ (List.getElem_mem hrl)
      have hgg : rows[S.length]? = some rows[S.length] := List.getElem?_eq_getElem hrl
      rw [nz_lt hl, sel_true, jn_eq, ixO_nat hl, bind_some', hg, bind_some', hm, List.replicate_succ, ixO_nat (by simp; omega), bind_some', bind_some', jn_eq, wrap_suc hl (by unfold N0; omega)]
      have e1 : (acc ++ 0 :: List.replicate m (0 : Int)).set S.length (-1) = acc ++ (-1) :: List.replicate m 0 := by rw [← ha, List.set_append_right _ _ (Nat.le_refl _)]; simp
      have e2 : (S ++ rows.drop S.length).set S.length [] = S ++ [] :: rows.drop (S.length + 1) := by rw [List.set_append_right _ _ (Nat.le_refl _), List.drop_eq_getElem_cons hrl, Nat.sub_self]; rfl
      have hin := ref_in (rows := rows) (S := S) (T := T) (B := B) (L := L) (acc := acc) (O1 := List.replicate m 0) (mine := rows[S.length]) (s8 := ((S.length : Int), acc ++ 0 :: List.replicate m 0, S ++ rows.drop S.length)) (k18 := fun s17 => again (((S.length + 1 : Nat) : Int), s17.1, s17.2)) hr hL hLb h hl ha rfl hmok hgg N0 0 (by have := hsm _ (List.getElem_mem hrl); unfold N0; omega)
      rw [hA] at hin
      have hin' : loopK (r32_Mnemonics_L1 (A : Int) ((S.length : Int), acc ++ 0 :: List.replicate m 0, S ++ rows.drop S.length) rows[S.length] fun s17 => again (((S.length + 1 : Nat) : Int), s17.1, s17.2)) N0 (0, acc ++ (-1) :: List.replicate m 0, S ++ [] :: rows.drop (S.length + 1)) = _ := hin
      have hixl : ixO L (S.length : Int) = some S.length := ixO_nat hl
      rw [e1, e2]
      refine hin'.trans ?_
      rw [List.drop_zero]
      unfold outP
      rw [hgg]
      dsimp only [Option.getD_some]
      rcases hp : pick (gP rows L S.length T B) rows[S.length] 0 with _ | ⟨k, x⟩
      · dsimp only
        have := ih (S ++ [[]]) (acc ++ [-1]) T B (by simp; omega) (by simp; omega) (by simp; omega) (done_skip h) hB
        rw [List.length_append, List.length_singleton, show L - (S.length + 1) = m by omega, List.append_assoc, List.append_assoc] at this
        refine Eq.trans this ?_
        simp
      · dsimp only
        have hx : x < 36 ∧ T x = false ∧ mx (Ee rows (upd T x true)) (S.length + 1) L + 1 = B := by
          have : ∀ (l : List Int) (i : Nat), (∀ y ∈ l, y < 36) → pick (gP rows L S.length T B) l i = some (k, x) → x < 36 ∧ gP rows L S.length T B x = true := by
            intro l
            induction l with
            | nil => intro i _ h; cases h
            | cons y t iht =>
              intro i hy h
              unfold pick at h
              split at h
              · rename_i hc
                have := hy y (by simp)
                cases h
                exact ⟨by omega, hc.2⟩
              · exact iht (i + 1) (fun z hz => hy z (by simp [hz])) h
          obtain ⟨h1, h2⟩ := this _ 0 (fun y hy => (hmok.2 y hy).2) hp
          unfold gP at h2
          simp at h2
          exact ⟨h1, h2.1, h2.2⟩
        have := ih (S ++ [[(x : Int)]]) (acc ++ [(k : Int)]) (upd T x true) (B - 1) (by simp; omega) (by simp; omega) (by simp; omega) (done_take h hx.1 hx.2.1) (fun i hi => by rw [cnt_upd hx.1 hx.2.1] at hi; omega)
        rw [List.length_append, List.length_singleton, show L - (S.length + 1) = m by omega, List.append_assoc, List.append_assoc] at this
        refine Eq.trans this ?_
        simp
    · have e0 : L - S.length = 0 := by omega
      rw [nz_ge (by omega), sel_false, e0]
      unfold outP; simp
theorem ref_row {s : Str} (hs : s.size ≤ 100000) {kk : List Int → Option (List Int × Int)} : loopK (r32_Mnemonics_L3 s kk) N0 ([], 0) = kk ((runes s).map lt) := by
  have hr : (runes s).length ≤ 100000 := Nat.le_trans (runes_len s) hs
  have hN : (runes s).length < N0 := by unfold N0; omega
  have key : ∀ (n i : Nat), (runes s).length - i < n → i ≤ (runes s).length → loopK (r32_Mnemonics_L3 s kk) n (((runes s).take i).map lt, (i : Int)) = kk ((runes s).map lt) := by
    intro n
    induction n with
    | zero => intro i h; exact absurd h (Nat.not_lt_zero _)
    | succ n ih =>
      intro i h hi
      show r32_Mnemonics_L3 s kk (loopK _ n) _ = _
      generalize loopK (r32_Mnemonics_L3 s kk) n = again at ih ⊢
      unfold r32_Mnemonics_L3
      dsimp only
      by_cases hl : i < (runes s).length
      · rw [nz_lt hl, sel_true, idxO_nat, List.getElem?_eq_getElem hl, bind_some', rletter_eq, bind_some', appO_eq (by simp; omega), bind_some', wrap_suc hl hN]
        have e : ((runes s).take i).map lt ++ [lt (runes s)[i]] = ((runes s).take (i + 1)).map lt := by
          rw [List.take_add_one, List.getElem?_eq_getElem hl, List.map_append]; rfl
        rw [e]
        exact ih (i + 1) (by omega) (by omega)
      · rw [nz_ge (by omega), sel_false, List.take_of_length_le (by omega)]
  exact key N0 0 (by omega) (by omega)
theorem ref_rows {a0 : List Str} {kk : List (List Int) → Option (List Int × Int)} (hL : a0.length ≤ 1000) :
    loopK (r32_Mnemonics_L4 a0 kk) N0 ([], 0) = if ∀ s ∈ a0, s.size ≤ 2000 then kk (rowsR a0) else some ([], 2) := by
  have hN : a0.length < N0 := by unfold N0; omega
  have key : ∀ (n i : Nat), a0.length - i < n → i ≤ a0.length → (∀ s ∈ a0.take i, s.size ≤ 2000) → loopK (r32_Mnemonics_L4 a0 kk) n (rowsR (a0.take i), (i : Int)) = if ∀ s ∈ a0, s.size ≤ 2000 then kk (rowsR a0) else some ([], 2) := by
    intro n
    induction n with
    | zero => intro i h; exact absurd h (Nat.not_lt_zero _)
    | succ n ih =>
      intro i h hi hall
      show r32_Mnemonics_L4 a0 kk (loopK _ n) _ = _
      generalize loopK (r32_Mnemonics_L4 a0 kk) n = again at ih ⊢
      unfold r32_Mnemonics_L4
      dsimp only
      by_cases hl : i < a0.length
      · rw [nz_lt hl, sel_true, jn_eq, idxO_nat, List.getElem?_eq_getElem hl, bind_some']
        by_cases hz : a0[i].size ≤ 2000
        · have : decide ((a0[i].size : Int) > 2000) = false := decide_eq_false (by omega)
          rw [this, sel_false, bind_some', jn_eq, ref_row (by omega), appO_eq (by simp [rowsR]; omega), bind_some', wrap_suc hl hN]
          have e : rowsR (a0.take i) ++ [(runes a0[i]).map lt] = rowsR (a0.take (i + 1)) := by
            unfold rowsR; rw [List.take_add_one, List.getElem?_eq_getElem hl, List.map_append]; rfl
          rw [e]
          refine ih (i + 1) (by omega) (by omega) (fun s hs => ?_)
          rw [List.take_add_one, List.getElem?_eq_getElem hl] at hs
          rcases List.mem_append.1 hs with h | h
          · exact hall s h
          · simp at h; subst h; exact hz
        · have : decide ((a0[i].size : Int) > 2000) = true := decide_eq_true (by omega)
          rw [this, sel_true, if_neg (fun h => hz (h _ (List.getElem_mem hl)))]
      · rw [nz_ge (by omega), sel_false]
        rw [List.take_of_length_le (by omega)] at hall ⊢
        rw [if_pos hall]
  exact key N0 0 (by omega) (by omega) (by simp)
theorem RMnemonics_eq (a0 : List Str) : r32_Mnemonics a0 = some (if a0.length ≤ 24 ∧ ∀ s ∈ a0, s.size ≤ 2000 then (outP (rowsR a0) a0.length a0.length 0 (fun _ => false) (mx (Ee (rowsR a0) fun _ => false) 0 a0.length), 0) else ([], 2)) := by
  unfold r32_Mnemonics
  by_cases hl : a0.length ≤ 24
  · have : decide ((a0.length : Int) > 24) = false := decide_eq_false (by omega)
    rw [this, sel_false, jn_eq, ref_rows (by omega)]
    by_cases hs : ∀ s ∈ a0, s.size ≤ 2000
    · rw [if_pos hs, if_pos ⟨hl, hs⟩]
      have hrl : (rowsR a0).length = a0.length := by simp [rowsR]
      have hrok : ∀ row ∈ rowsR a0, RowOkR row := fun row hrow => by
        obtain ⟨s, h1, rfl⟩ := List.mem_map.1 hrow
        exact row_okR (by have := hs s h1; omega)
      have e1 : mkO ((rowsR a0).length : Int) (0 : Int) = some (List.replicate a0.length 0) := by
        unfold mkO; rw [hrl, if_pos (by omega)]; simp
      rw [e1, bind_some', most_eqR hrok hrl (by omega), bind_some', jn_eq]
      have hEe : mx (Er (rowsR a0)) 0 a0.length = mx (Ee (rowsR a0) fun _ => false) 0 a0.length := mx_congr (fun a l => by unfold Ee; simp) 0 a0.length
      have := ref_out (rows := rowsR a0) (L := a0.length) (A := mx (Er (rowsR a0)) 0 a0.length) hrok (fun row hrow => by
        obtain ⟨s, h1, rfl⟩ := List.mem_map.1 hrow
        have h2 := hs s h1
        have h3 := runes_len s
        rw [List.length_map]; omega) hrl (by omega) N0 [] [] (fun _ => false) (mx (Er (rowsR a0)) 0 a0.length) (by unfold N0; simp; omega) (by simp) rfl done_nil (fun i hi => by
        rw [cntN_none (fun _ _ => rfl)] at hi; omega)
      simp only [List.length_nil, Nat.sub_zero, List.nil_append, List.drop_zero] at this
      rw [← hEe]
      exact this
    · rw [if_neg hs, if_neg (fun h => hs h.2)]
  · have : decide ((a0.length : Int) > 24) = true := decide_eq_true (by omega)
    rw [this, sel_true, if_neg (fun h => hl h.1)]
end Go.Proofs.YtodddfoehcfcnaaDoor

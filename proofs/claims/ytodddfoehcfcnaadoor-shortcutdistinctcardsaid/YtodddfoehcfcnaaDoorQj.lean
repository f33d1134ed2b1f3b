/-
  The law of the distinct mnemonics, plainly. No program in sight.
-/
import Derived.Test.YtodddfoehcfcnaaDoorQi
namespace Go.Proofs.YtodddfoehcfcnaaDoor
open Go Go.E2
def ff (r : Int) : Int := if lt r < 0 then 0 else if lt r < 26 then 97 + lt r else 22 + lt r
theorem fold_eq (r : Int) : l32_fold r = some (ff r) := by
  unfold l32_fold ff
  by_cases h1 : r ≥ 65 ∧ r ≤ 90
  · have : (decide (r ≥ 65) && decide (r ≤ 90)) = true := by simp; omega
    have hl : lt r = r - 65 := by unfold lt; rw [if_neg (by omega), if_pos (by omega)]
    rw [this, sel_true, wrap32_id (x := r - 65) (by omega) (by omega), wrap32_id (by omega) (by omega), hl, if_neg (by omega), if_pos (by omega)]
    congr 1; omega
  · have : (decide (r ≥ 65) && decide (r ≤ 90)) = false := by simp only [Bool.and_eq_false_iff, decide_eq_false_iff_not]; omega
    rw [this, sel_false]
    by_cases h2 : (r ≥ 97 ∧ r ≤ 122) ∨ (r ≥ 48 ∧ r ≤ 57)
    · have : (decide (r ≥ 97) && decide (r ≤ 122) || decide (r ≥ 48) && decide (r ≤ 57)) = true := by simp only [Bool.or_eq_true, Bool.and_eq_true, decide_eq_true_eq]; exact h2
      rw [this, sel_true]
      congr 1
      rcases h2 with h2 | h2
      · have hl : lt r = r - 97 := by unfold lt; rw [if_pos h2]
        rw [hl, if_neg (by omega), if_pos (by omega)]; omega
      · have hl : lt r = r - 48 + 26 := by unfold lt; rw [if_neg (by omega), if_neg h1, if_pos h2]
        rw [hl, if_neg (by omega), if_neg (by omega)]; omega
    · have : (decide (r ≥ 97) && decide (r ≤ 122) || decide (r ≥ 48) && decide (r ≤ 57)) = false := by
        simp only [Bool.or_eq_false_iff, Bool.and_eq_false_iff, decide_eq_false_iff_not]; omega
      have hl : lt r = -1 := by unfold lt; rw [if_neg (by omega), if_neg h1, if_neg (by omega)]
      rw [this, sel_false, hl]
      rfl
theorem ff_zero {r : Int} : ff r = 0 ↔ lt r < 0 := by
  unfold ff
  split
  · simp_all
  · split <;> omega
theorem ff_inj {r r' : Int} (h : 0 ≤ lt r) (h' : 0 ≤ lt r') : ff r = ff r' ↔ lt r = lt r' := by
  unfold ff
  rw [if_neg (show ¬ lt r < 0 by omega), if_neg (show ¬ lt r' < 0 by omega)]
  have := lt_rng r
  have := lt_rng r'
  split <;> split <;> omega
/-- a loop that passes -/
theorem passLoop {R : Type} {n : Nat} {B : (Int → Option R) → Int → Option R} {o : Option R} (hn : n < N0) (hc : ∀ again (i : Nat), i < n → B again (i : Int) = again ((i + 1 : Nat) : Int)) (he : ∀ again (i : Nat), n ≤ i → B again (i : Int) = o) : loopK B N0 0 = o := by
  have key := loopK_ind (B := B) (fun st r => ∀ i : Nat, st = i → r = o) (fun st => n - st.toNat) (fun st again ih => by
      intro i hi
      subst hi
      by_cases hl : i < n
      · rw [hc again i hl]
        exact ih _ (by omega) (i + 1) rfl
      · exact he again i (by omega)) N0 0 (by omega) 0 rfl
  exact key
def hadP (l : List Str) (o : List Int) : Nat → List Int
  | 0 => []
  | n + 1 => hadP l o n ++ match l[n]? with
    | none => []
    | some s => match o[n]? with
      | none => []
      | some k => if 0 ≤ k then match (runes s)[k.toNat]? with
        | some r => [ff r]
        | none => [] else []
theorem hadP_len (l : List Str) (o : List Int) : ∀ n, (hadP l o n).length ≤ n
  | 0 => Nat.le_refl _
  | n + 1 => by
    have := hadP_len l o n
    unfold hadP
    rw [List.length_append]
    split
    · simp; omega
    · split
      · simp; omega
      · split
        · split <;> simp <;> omega
        · simp; omega
theorem hadP_mem (l : List Str) (o : List Int) : ∀ n y, y ∈ hadP l o n ↔ ∃ (i : Nat) (s : Str) (j : Nat) (r : Int), i < n ∧ l[i]? = some s ∧ o[i]? = some (j : Int) ∧ (runes s)[j]? = some r ∧ y = ff r
  | 0, y => by simp [hadP]
  | n + 1, y => by
    unfold hadP
    rw [List.mem_append, hadP_mem l o n y]
    constructor
    · rintro (⟨i, s, j, r, h1, h2⟩ | h)
      · exact ⟨i, s, j, r, by omega, h2⟩
      · split at h
        · cases h
        · rename_i s hs
          split at h
          · cases h
          · rename_i k hk
            split at h
            · rename_i h0
              split at h
              · rename_i r hr
                simp at h
                exact ⟨n, s, k.toNat, r, by omega, hs, by rw [hk]; congr 1; omega, hr, h⟩
              · cases h
            · cases h
    · rintro ⟨i, s, j, r, h1, h2, h3, h4, h5⟩
      by_cases e : i = n
      · subst e
        refine .inr ?_
        rw [h2, h3]
        dsimp only
        rw [if_pos (by omega), Int.toNat_natCast, h4]
        simp [h5]
      · exact .inl ⟨i, s, j, r, by omega, h2, h3, h4, h5⟩
theorem hadP_nodup {l : List Str} {o : List Int} (h : DistOk l o) : ∀ n, (hadP l o n).Nodup
  | 0 => by simp [hadP]
  | n + 1 => by
    have ih := hadP_nodup h n
    have one : ∀ t : List Int, (∀ y ∈ t, ∃ (s : Str) (j : Nat) (r : Int), l[n]? = some s ∧ o[n]? = some (j : Int) ∧ (runes s)[j]? = some r ∧ y = ff r) → t.length ≤ 1 → (hadP l o n ++ t).Nodup := by
      intro t ht hl
      rw [List.nodup_append]
      refine ⟨ih, ?_, fun a ha b hb e => ?_⟩
      · match t, hl with
        | [], _ => simp
        | [x], _ => simp
      · subst e
        obtain ⟨i, s, j, r, h1, h2, h3, h4, h5⟩ := (hadP_mem l o n a).1 ha
        obtain ⟨s', j', r', h2', h3', h4', h5'⟩ := ht a hb
        have hp := h.place i s j h2 h3
        have hp' := h.place n s' j' h2' h3'
        rcases hp with hp | ⟨q, r2, e1, e2, e3⟩
        · omega
        · rcases hp' with hp' | ⟨q', r2', e1', e2', e3'⟩
          · omega
          · have : q = j := by omega
            subst this
            have : q' = j' := by omega
            subst this
            rw [h4] at e2; cases e2
            rw [h4'] at e2'; cases e2'
            exact h.dist i n s s' _ _ r r' (by omega) h2 h2' h3 h3' h4 h4' ((ff_inj e3 e3').1 (h5.symm.trans h5'))
    unfold hadP
    apply one
    · intro y hy
      split at hy
      · cases hy
      · rename_i s hs
        split at hy
        · cases hy
        · rename_i k hk
          split at hy
          · rename_i h0
            split at hy
            · rename_i r hr
              simp at hy
              exact ⟨s, k.toNat, r, hs, by rw [hk]; congr 1; omega, hr, hy⟩
            · cases hy
          · cases hy
    · split
      · simp
      · split
        · simp
        · split
          · split <;> simp
          · simp
theorem hadP_pos {l : List Str} {o : List Int} (h : DistOk l o) (n : Nat) : ∀ y ∈ hadP l o n, y ≠ 0 := by
  intro y hy e
  obtain ⟨i, s, j, r, h1, h2, h3, h4, h5⟩ := (hadP_mem l o n y).1 hy
  rcases h.place i s j h2 h3 with hp | ⟨q, r2, e1, e2, e3⟩
  · omega
  · have : q = j := by omega
    subst this
    rw [h4] at e2; cases e2
    have := ff_zero.1 (h5.symm.trans e)
    omega
theorem dist_true (a0 : List Int) : l32_ShortcutDistinct a0 = some true := by
  unfold l32_ShortcutDistinct
  obtain ⟨s0, e0, k0⟩ := New_ok a0
  rw [e0, bind_some', jn_eq]
  obtain ⟨r2, s2, e2, a2, b2, k2⟩ := N_ok (n := 12) k0 (by decide) (by decide)
  rw [e2, bind_some']
  obtain ⟨m, rfl⟩ : ∃ m : Nat, r2 = m := ⟨r2.toNat, by omega⟩
  have hB0 : ∀ (kk : List Str → Option Bool) again s, l32_ShortcutDistinct_L7 kk again s = sel (decide (s.2.1 > 0)) ((b_Src_Word (widgetrybase_Src.mk s.2.2.1 s.2.2.2) 3).bind fun x32 => (b_Src_N x32.2 5).bind fun x33 => (idxO [(ByteArray.mk #[]), (ByteArray.mk #[65]), (ByteArray.mk #[66, 57]), (ByteArray.mk #[32]), (ByteArray.mk #[67])] x33.1).bind fun x34 => (catO x32.1 x34).bind fun x35 => (appO s.1 ([x35])).bind fun x36 => again (x36, IntKind.i64.wrap (s.2.1 - 1), x33.2.L, x33.2.At)) (kk s.1) := fun kk again s => by unfold l32_ShortcutDistinct_L7; rfl
  refine few_ok (n := 5) (w := 3) (L0 := [(ByteArray.mk #[]), (ByteArray.mk #[65]), (ByteArray.mk #[66, 57]), (ByteArray.mk #[32]), (ByteArray.mk #[67])]) (by decide) (by decide) (by decide) rfl (by decide) (by decide) (hB0 _) (by omega) k2 (fun l hm hs => ?_)
  have h24 : l.length ≤ 24 := by omega
  have h2000 : ∀ s ∈ l, s.size ≤ 2000 := fun s h => by have := hs s h; omega
  have hM := Mnemonics_eq l
  rw [if_pos ⟨h24, h2000⟩] at hM
  have hol := outP_len (rowsR l) l.length l.length 0 (fun _ => false) (mx (Ee (rowsR l) fun _ => false) 0 l.length)
  have hD := dist_ok h2000
  generalize outP (rowsR l) l.length l.length 0 (fun _ => false) (mx (Ee (rowsR l) fun _ => false) 0 l.length) = o at hM hol hD
  have e1 : (((0 : Int) != 0) || ((o.length : Int) != (l.length : Int))) = false := by rw [hol]; simp
  rw [hM, bind_some']
  dsimp only
  rw [e1, sel_false, jn_eq]
  have hrun : ∀ (i : Nat) s, l[i]? = some s → (runes s).length ≤ 2000 := fun i s h => Nat.le_trans (runes_len s) (h2000 s (List.mem_of_getElem? h))
  have hlN : l.length < N0 := by unfold N0; omega
  -- the letters that are had
  have L6 : ∀ k7, loopK (l32_ShortcutDistinct_L6 l (o, 0) k7) N0 ([], 0) = k7 (hadP l o l.length) := by
    intro k7
    have key := loopK_ind (B := l32_ShortcutDistinct_L6 l (o, 0) k7) (fun st r => ∀ i : Nat, st.2 = i → i ≤ l.length → st.1 = hadP l o i → r = k7 (hadP l o l.length)) (fun st => l.length - st.2.toNat) (fun st again ih => by
      obtain ⟨had, iz⟩ := st
      intro i hi hil hh
      dsimp only at hi hh ih ⊢
      subst hi; subst hh
      unfold l32_ShortcutDistinct_L6
      dsimp only
      rw [hol]
      by_cases hl : i < l.length
      · have ho : i < o.length := by omega
        have hs1 : l[i]? = some l[i] := List.getElem?_eq_getElem hl
        have ho1 : o[i]? = some o[i] := List.getElem?_eq_getElem ho
        rw [nz_lt hl, sel_true, jn_eq, idxO_nat, hs1, bind_some', idxO_nat, ho1, bind_some', wrap_suc hl hlN]
        have step : hadP l o (i + 1) = hadP l o i ++ if 0 ≤ o[i] then match (runes l[i])[o[i].toNat]? with
            | some r => [ff r]
            | none => [] else [] := by
          conv => lhs; unfold hadP
          rw [hs1, ho1]
        have hN := hadP_len l o i
        rcases hD.place i _ _ hs1 ho1 with h | ⟨j, r, h1, h2, h3⟩
        · rw [h] at step ⊢
          have hlen := hrun i _ hs1
          have c1 : decide ((-1 : Int) < -1) = false := rfl
          have c2 : decide ((-1 : Int) ≥ ((runes l[i]).length : Int)) = false := decide_eq_false (by omega)
          have c3 : decide ((-1 : Int) ≥ 0) = false := rfl
          simp only [c1, c2, c3, Bool.not_false, gO_true, bind_some', Bool.or_false, sel_false]
          refine ih _ (by dsimp only; omega) (i + 1) rfl (by omega) ?_
          rw [step, if_neg (by omega), List.append_nil]
        · rw [h1] at step ⊢
          have hjl := (List.getElem?_eq_some_iff.1 h2).1
          have c1 : decide ((j : Int) < -1) = false := decide_eq_false (by omega)
          have c2 : decide ((j : Int) ≥ ((runes l[i]).length : Int)) = false := decide_eq_false (by omega)
          have c3 : decide ((j : Int) ≥ 0) = true := decide_eq_true (by omega)
          simp only [c1, c2, c3, Bool.not_false, gO_true, bind_some', Bool.or_false, sel_false, sel_true, idxO_nat, h2, fold_eq]
          rw [appO_eq (by simp; omega), bind_some']
          refine ih _ (by dsimp only; omega) (i + 1) rfl (by omega) ?_
          rw [step, if_pos (by omega), Int.toNat_natCast, h2]
      · rw [nz_ge (by omega), sel_false]
        have : i = l.length := by omega
        subst this; rfl) N0 ([], 0) (by dsimp only; omega) 0 rfl (by omega) rfl
    exact key
  rw [L6, jn_eq]
  have hhl := hadP_len l o l.length
  have hnd := hadP_nodup hD l.length
  have hps := hadP_pos hD l.length
  have hmem := hadP_mem l o l.length
  generalize hadP l o l.length = had at hhl hnd hps hmem
  have hhN : had.length < N0 := by omega
  refine Eq.trans (passLoop (n := had.length) (o := _) hhN (fun again i hi => ?_) (fun again i hi => by unfold l32_ShortcutDistinct_L5; rw [nz_ge hi, sel_false])) ?_
  · unfold l32_ShortcutDistinct_L5
    rw [nz_lt hi, sel_true, jn_eq, jn_eq, wrap_suc hi hhN]
    have hg : had[i]? = some had[i] := List.getElem?_eq_getElem hi
    refine Eq.trans (passLoop (n := i) (o := _) (by omega) (fun again j hj => ?_) (fun again j hj => by unfold l32_ShortcutDistinct_L4; rw [show decide ((j : Int) < (i : Int)) = false from nz_ge hj, sel_false])) ?_
    · unfold l32_ShortcutDistinct_L4
      have hjl : j < had.length := by omega
      rw [show decide ((j : Int) < (i : Int)) = true from nz_lt hj, sel_true, idxO_nat, List.getElem?_eq_getElem hjl, bind_some', idxO_nat, hg, bind_some', wrap_suc hj (by omega)]
      have : (had[j] == had[i]) = false := by
        rw [beq_eq_false_iff_ne]
        exact List.pairwise_iff_getElem.1 hnd j i hjl hi hj
      rw [this, sel_false]
    · dsimp only
      rw [idxO_nat, hg, bind_some']
      have : (had[i] == 0) = false := by
        rw [beq_eq_false_iff_ne]; exact hps _ (List.getElem_mem hi)
      rw [this, sel_false]
  · dsimp only
    rw [jn_eq]
    refine Eq.trans (passLoop (n := l.length) (o := _) hlN (fun again i hi => ?_) (fun again i hi => by unfold l32_ShortcutDistinct_L3; dsimp only; rw [hol, nz_ge hi, sel_false])) ?_
    · unfold l32_ShortcutDistinct_L3
      dsimp only
      have hs1 : l[i]? = some l[i] := List.getElem?_eq_getElem hi
      have ho1 : o[i]? = some o[i] := List.getElem?_eq_getElem (by omega)
      rw [hol, nz_lt hi, sel_true, jn_eq, idxO_nat, hs1, bind_some', jn_eq, wrap_suc hi hlN]
      have hlen := hrun i _ hs1
      rcases hD.place i _ _ hs1 ho1 with h | ⟨j, r, h1, h2, h3⟩
      · refine passLoop (n := (runes l[i]).length) (by unfold N0; omega) (fun again2 q hq => ?_) (fun again2 q hq => ?_)
        · unfold l32_ShortcutDistinct_L2
          dsimp only
          have hr1 : (runes l[i])[q]? = some (runes l[i])[q] := List.getElem?_eq_getElem hq
          rw [nz_lt hq, gO_true, idxO_nat, ho1, bind_some', h, show decide ((-1 : Int) < 0) = true from rfl, Bool.true_and, sel_true, jn_eq, idxO_nat, hr1, bind_some', fold_eq, bind_some', jn_eq, wrap_suc hq (by unfold N0; omega)]
          have hrm := List.getElem_mem hq
          generalize (runes l[i])[q] = r at hr1 hrm
          have key := loopK_ind (B := l32_ShortcutDistinct_L1 had l[i] (q : Int) fun s29 => sel s29 (some false) (again2 ((q + 1 : Nat) : Int)))
            (fun st res => ∀ j : Nat, st.2 = j → (st.1 = false ∨ ∃ p, j ≤ p ∧ had[p]? = some (ff r)) → res = again2 ((q + 1 : Nat) : Int)) (fun st => had.length - st.2.toNat) (fun st again3 ih => by
            obtain ⟨b, jz⟩ := st
            intro j hj hb
            dsimp only at hj hb ih ⊢
            subst hj
            unfold l32_ShortcutDistinct_L1
            dsimp only
            by_cases hl : j < had.length
            · rw [nz_lt hl, sel_true, wrap_suc hl hhN, idxO_nat, List.getElem?_eq_getElem hl]
              cases b with
              | false =>
                simp only [gO_false, bind_some', Bool.false_and]
                exact ih _ (by dsimp only; omega) (j + 1) rfl (.inl rfl)
              | true =>
                simp only [gO_true, bind_some', Bool.true_and, idxO_nat, hr1, fold_eq]
                refine ih _ (by dsimp only; omega) (j + 1) rfl ?_
                rcases hb with hb | ⟨p, p1, p2⟩
                · cases hb
                · by_cases e : p = j
                  · subst e
                    rw [List.getElem?_eq_getElem hl] at p2
                    refine .inl ?_
                    rw [Option.some.inj p2]; simp
                  · exact .inr ⟨p, by omega, p2⟩
            · rw [nz_ge (by omega), sel_false]
              rcases hb with hb | ⟨p, p1, p2⟩
              · subst hb; rfl
              · have := (List.getElem?_eq_some_iff.1 p2).1; omega) N0 (ff r != 0, 0) (by dsimp only; omega) 0 rfl ?_
          · exact key
          · by_cases h0 : 0 ≤ lt r
            · refine .inr ?_
              obtain ⟨i', s', j', r', f1, f2, f3, f4⟩ := hD.free i _ hs1 (by rw [ho1, h]) r hrm h0
              have : ff r ∈ had := (hmem _).2 ⟨i', s', j', r', (List.getElem?_eq_some_iff.1 f1).1, f1, f2, f3, by unfold ff; rw [f4]⟩
              obtain ⟨p, hp⟩ := List.getElem?_of_mem this
              exact ⟨p, by omega, hp⟩
            · refine .inl ?_
              dsimp only
              rw [ff_zero.2 (by omega)]; rfl
        · unfold l32_ShortcutDistinct_L2
          dsimp only
          rw [nz_ge hq, gO_false, bind_some', Bool.false_and, sel_false]
      · rw [loopK_first]
        unfold l32_ShortcutDistinct_L2
        dsimp only
        rw [idxO_nat, ho1, h1]
        have c : decide ((j : Int) < 0) = false := decide_eq_false (by omega)
        by_cases hq : 0 < (runes l[i]).length
        · rw [show decide ((0 : Int) < ((runes l[i]).length : Int)) = true from decide_eq_true (by omega), gO_true, bind_some', c, Bool.true_and, sel_false]
        · rw [show decide ((0 : Int) < ((runes l[i]).length : Int)) = false from decide_eq_false (by omega), gO_false, bind_some', Bool.false_and, sel_false]
    · rw [awake_true]; rfl
end Go.Proofs.YtodddfoehcfcnaaDoor

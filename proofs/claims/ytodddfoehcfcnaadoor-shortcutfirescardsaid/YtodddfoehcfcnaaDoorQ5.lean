/-
  The law of the shortcuts that fire, plainly. No program in sight.
-/
import Derived.Test.YtodddfoehcfcnaaDoorQ4
namespace Go.Proofs.YtodddfoehcfcnaaDoor
open Go Go.E2
/-- a chord that is no capital -/
def NoCap (c : Chord) : Prop := ¬ (c.Key ≥ 65 ∧ c.Key ≤ 90)
theorem foldC_id {c : Chord} (h : NoCap c) : foldC c = c := if_neg h
theorem Chords_ok' {s : widgetrybase_Src} (h : SrcOk s) : ∃ ks s', b_Src_Chords s = some (ks, s') ∧ 1 ≤ ks.length ∧ ks.length ≤ 3 ∧ (∀ c ∈ ks, NoCap c) ∧ SrcOk s' := by
  unfold b_Src_Chords
  rw [jn_eq]
  obtain ⟨r, s1, e1, r0, r1, k1⟩ := Range_ok (lo := 1) (hi := 3) h (by decide) (by decide) (by decide)
  rw [e1, bind_some']
  have key := loopK_ind (B := b_Src_Chords_L1 fun s1 => some (s1.1, (widgetrybase_Src.mk s1.2.1 s1.2.2)))
    (fun st o => 0 ≤ st.2.1 → st.2.1 ≤ 3 → st.1.length + st.2.1.toNat ≤ 3 → (∀ c ∈ st.1, NoCap c) → SrcOk ⟨st.2.2.1, st.2.2.2⟩ → ∃ ks s', o = some (ks, s') ∧ ks.length = st.1.length + st.2.1.toNat ∧ (∀ c ∈ ks, NoCap c) ∧ SrcOk s')
    (fun st => st.2.1.toNat) (fun st again ih => by
      obtain ⟨acc, i, L, at_⟩ := st
      intro i0 i3 hl hcap hk
      dsimp only at i0 i3 hl hk ih hcap ⊢
      unfold b_Src_Chords_L1
      dsimp only
      by_cases hi : i > 0
      · have : decide (i > 0) = true := by simpa using hi
        rw [this, sel_true]
        obtain ⟨r1, s1, e1, a1, b1, k1⟩ := N_ok (n := (([97, 107, 99, 49, 32, 2, 12] : List Nat).length : Int)) hk (by decide) (by decide)
        rw [e1, bind_some']
        obtain ⟨x2, e2, m2⟩ := idxO_ok (L := ([97, 107, 99, 49, 32, 2, 12] : List Int)) a1 b1
        rw [e2, bind_some']
        obtain ⟨r3, s3, e3, a3, b3, k3⟩ := N_ok (n := 3) k1 (by decide) (by decide)
        rw [e3, bind_some', appO_eq (by simp; omega), bind_some', wrap_id (by omega) (by omega)]
        obtain ⟨ks, s', h1, h2, h3, h4⟩ := ih (acc ++ [⟨x2, r3⟩], i - 1, s3.L, s3.At) (by dsimp only; omega) (by dsimp only; omega) (by dsimp only; omega) (by simp; omega) (by
          intro c hc
          rcases List.mem_append.1 hc with h | h
          · exact hcap c h
          · simp at h; subst h; unfold NoCap; dsimp only; simp at m2; omega) k3
        exact ⟨ks, s', h1, by simp at h2; omega, h3, h4⟩
      · have : decide (i > 0) = false := by simpa using hi
        rw [this, sel_false]
        exact ⟨_, _, rfl, by simp; omega, hcap, hk⟩)
    N0 ([], r, s1.L, s1.At) (by dsimp only; unfold N0; omega) (by dsimp only; omega) (by dsimp only; omega) (by simp; omega) (by simp) k1
  obtain ⟨ks, s', h1, h2, h3, h4⟩ := key
  exact ⟨ks, s', h1, by simp at h2; omega, by simp at h2; omega, h3, h4⟩
def GoodKeys (ks : List Chord) : Prop := 1 ≤ ks.length ∧ ks.length ≤ 3 ∧ ∀ c ∈ ks, NoCap c
theorem table_ok' {s : widgetrybase_Src} (h : SrcOk s) : ∃ t s', l32_table s = some (t, s') ∧ t.length ≤ 7 ∧ (∀ x ∈ t, GoodKeys x.Keys) ∧ SrcOk s' := by
  unfold l32_table
  rw [jn_eq]
  obtain ⟨r, s1, e1, r0, r1, k1⟩ := N_ok (n := 8) h (by decide) (by decide)
  rw [e1, bind_some']
  have key := loopK_ind (B := l32_table_L1 fun s1 => some (s1.1, (widgetrybase_Src.mk s1.2.1 s1.2.2)))
    (fun st o => 0 ≤ st.2.1 → st.1.length + st.2.1.toNat ≤ 7 → (∀ x ∈ st.1, GoodKeys x.Keys) → SrcOk ⟨st.2.2.1, st.2.2.2⟩ → ∃ ks s', o = some (ks, s') ∧ ks.length ≤ 7 ∧ (∀ x ∈ ks, GoodKeys x.Keys) ∧ SrcOk s')
    (fun st => st.2.1.toNat) (fun st again ih => by
      obtain ⟨acc, i, L, at_⟩ := st
      intro i0 hl hx hk
      dsimp only at i0 hl hx hk ih ⊢
      unfold l32_table_L1
      dsimp only
      by_cases hi : i > 0
      · have : decide (i > 0) = true := by simpa using hi
        rw [this, sel_true]
        obtain ⟨r1, s1, e1, a1, b1, k1⟩ := Range_ok (lo := 1) (hi := 20) hk (by decide) (by decide) (by decide)
        rw [e1, bind_some']
        obtain ⟨r2, s2, e2, a2, b2, k2⟩ := Range_ok (lo := 1) (hi := 3) k1 (by decide) (by decide) (by decide)
        rw [e2, bind_some']
        obtain ⟨ks, s3, e3, a3, b3, c3, k3⟩ := Chords_ok' k2
        rw [e3, bind_some', appO_eq (by simp; omega), bind_some', wrap_id (by omega) (by omega)]
        exact ih (acc ++ [⟨r1, r2, ks⟩], i - 1, s3.L, s3.At) (by dsimp only; omega) (by dsimp only; omega) (by simp; omega) (by
          intro x hx'
          rcases List.mem_append.1 hx' with h | h
          · exact hx x h
          · simp at h; subst h; exact ⟨a3, b3, c3⟩) k3
      · have : decide (i > 0) = false := by simpa using hi
        rw [this, sel_false]
        exact ⟨_, _, rfl, by omega, hx, hk⟩)
    N0 ([], r, s1.L, s1.At) (by dsimp only; unfold N0; omega) (by dsimp only; omega) (by simp; omega) (by simp) k1
  exact key

/-! ### no conflicts -/
theorem confI_ge (i : Nat) (x : Shortcut) : ∀ (l : List Shortcut) (j : Nat) (acc : List (Int × Int)), acc.length ≤ (confI i x j l acc).length
  | [], _, _ => Nat.le_refl _
  | y :: t, j, acc => by
    unfold confI
    have := confI_ge i x t (j + 1) (if conf x y = true then acc ++ [((i : Int), (j : Int))] else acc)
    split at this
    · rw [if_pos (by assumption)]; simp at this; omega
    · rw [if_neg (by assumption)]; exact this
theorem confI_nil {i : Nat} {x : Shortcut} : ∀ {l : List Shortcut} {j : Nat} {acc : List (Int × Int)}, (confI i x j l acc).length = acc.length → ∀ y ∈ l, conf x y = false
  | [], _, _, _, _, h => by cases h
  | y :: t, j, acc, h, z, hz => by
    unfold confI at h
    cases hc : conf x y with
    | true =>
      rw [hc, if_pos rfl] at h
      have := confI_ge i x t (j + 1) (acc ++ [((i : Int), (j : Int))])
      simp at this; omega
    | false =>
      rw [hc, if_neg (by simp)] at h
      rcases List.mem_cons.1 hz with e | e
      · subst e; exact hc
      · exact confI_nil h z e
theorem confP_ge : ∀ (l : List Shortcut) (i : Nat) (acc : List (Int × Int)), acc.length ≤ (confP i l acc).length
  | [], _, _ => Nat.le_refl _
  | x :: t, i, acc => by
    unfold confP
    exact Nat.le_trans (confI_ge i x t (i + 1) acc) (confP_ge t (i + 1) _)
theorem confP_nil : ∀ {l : List Shortcut} {i : Nat} {acc : List (Int × Int)}, (confP i l acc).length = acc.length → l.Pairwise fun x y => conf x y = false
  | [], _, _, _ => List.Pairwise.nil
  | x :: t, i, acc, h => by
    unfold confP at h
    have h1 := confI_ge i x t (i + 1) acc
    have h2 := confP_ge t (i + 1) (confI i x (i + 1) t acc)
    exact List.Pairwise.cons (fun y hy => confI_nil (i := i) (j := i + 1) (acc := acc) (by omega) y hy) (confP_nil (i := i + 1) (acc := confI i x (i + 1) t acc) (by omega))
theorem conf_false {x y : Shortcut} (hs : x.Scope = y.Scope) (h : conf x y = false) : pre x.Keys y.Keys = false ∧ pre y.Keys x.Keys = false := by
  unfold conf at h
  rw [hs] at h
  simpa using h
/-- a table whose shortcuts are apart: no one begins another -/
def Apart (t : List Shortcut) : Prop := ∀ (i j : Nat) x y, t[i]? = some x → t[j]? = some y → i ≠ j → pre x.Keys y.Keys = false
theorem apart_of {t : List Shortcut} (hs : ∀ x ∈ t, x.Scope = 1) (h : t.Pairwise fun x y => conf x y = false) : Apart t := by
  intro i j x y hi hj hne
  have mi := List.mem_of_getElem? hi
  have mj := List.mem_of_getElem? hj
  obtain ⟨li, ei⟩ := List.getElem?_eq_some_iff.1 hi
  obtain ⟨lj, ej⟩ := List.getElem?_eq_some_iff.1 hj
  rcases Nat.lt_or_ge i j with h1 | h1
  · have := List.pairwise_iff_getElem.1 h i j li lj h1
    rw [ei, ej] at this
    exact (conf_false (by rw [hs x mi, hs y mj]) this).1
  · have := List.pairwise_iff_getElem.1 h j i lj li (by omega)
    rw [ei, ej] at this
    exact (conf_false (by rw [hs x mi, hs y mj]) this).2
theorem pre_take {l : List Chord} {n : Nat} : pre l (l.take n) = true := by
  unfold pre; rw [decide_eq_true_eq, List.length_take, List.take_eq_take_iff]; omega
theorem pre_self {l : List Chord} : pre l l = true := by unfold pre; simp
theorem pre_trans {a b c : List Chord} (h1 : pre a b = true) (h2 : pre b c = true) : pre a c = true := by
  have h3 := of_decide_eq_true h1
  have h4 := of_decide_eq_true h2
  have h5 := pre_len h2
  unfold pre
  rw [decide_eq_true_eq]
  rw [← h3, List.take_take, Nat.min_eq_left h5] at h4
  exact h4
/-- scanning: the i-th shortcut fires -/
theorem scan_fire {keys : List Chord} : ∀ {t : List Shortcut} {i : Nat} {x : Shortcut} {b : Bool}, t[i]? = some x → x.Scope = 1 → x.Keys = keys → (∀ (j : Nat) y, j < i → t[j]? = some y → pre y.Keys keys = false) → scanS 1 keys t b = .inl x.Node
  | [], _, _, _, h, _, _, _ => by cases h
  | y :: t, i, x, b, h, hs, hk, ho => by
    cases i with
    | zero =>
      cases h
      unfold scanS
      rw [if_pos ⟨hs, by rw [hk]; exact pre_self⟩, if_pos (by rw [hk])]
    | succ i =>
      unfold scanS
      rw [if_neg (by rw [ho 0 y (by omega) rfl]; simp)]
      exact scan_fire (t := t) h hs hk (fun j z hj hz => ho (j + 1) z (by omega) hz)
/-- scanning: something waits -/
theorem scan_wait {keys : List Chord} : ∀ {t : List Shortcut} {b : Bool}, (∀ y ∈ t, y.Keys.length = keys.length → pre y.Keys keys = false) → (b = true ∨ ∃ y ∈ t, y.Scope = 1 ∧ pre y.Keys keys = true) → scanS 1 keys t b = .inr true
  | [], b, _, h => by
    rcases h with h | ⟨y, hy, _⟩
    · subst h; rfl
    · cases hy
  | y :: t, b, hn, h => by
    unfold scanS
    by_cases hc : y.Scope = 1 ∧ pre y.Keys keys = true
    · rw [if_pos hc, if_neg (fun e => by rw [hn y (by simp) e] at hc; exact absurd hc.2 (by simp))]
      exact scan_wait (fun z hz => hn z (by simp [hz])) (.inl rfl)
    · rw [if_neg hc]
      refine scan_wait (fun z hz => hn z (by simp [hz])) ?_
      rcases h with h | ⟨z, hz, h1⟩
      · exact .inl h
      · rcases List.mem_cons.1 hz with e | e
        · subst e; exact absurd h1 hc
        · exact .inr ⟨z, e, h1⟩
/-- one key of the i-th shortcut is fed -/
theorem feed_key {t : List Shortcut} {i k : Nat} {x : Shortcut} {tm : Int} (ha : Apart t) (hi : t[i]? = some x) (hs : x.Scope = 1) (hk : k < x.Keys.length) :
    feedP (x.Keys.take k) x.Keys[k] tm t [1] = if k + 1 = x.Keys.length then (PendingKeys.mk [] 0, x.Node, 2) else (PendingKeys.mk (x.Keys.take (k + 1)) tm, 0, 1) := by
  have hE : x.Keys.take k ++ [x.Keys[k]] = x.Keys.take (k + 1) := by simp
  have hF : findP t (x.Keys.take (k + 1)) [1] = if k + 1 = x.Keys.length then (x.Node, 2) else (0, 1) := by
    unfold findP
    by_cases hl : k + 1 = x.Keys.length
    · rw [if_pos hl, scan_fire hi hs (by rw [hl, List.take_length])]
      intro j y hj hy
      rw [hl, List.take_length]
      exact ha j i y x hy hi (by omega)
    · rw [if_neg hl, scan_wait]
      · intro y hy he
        obtain ⟨j, hj⟩ := List.getElem?_of_mem hy
        cases hp : pre y.Keys (x.Keys.take (k + 1)) with
        | false => rfl
        | true =>
          have h1 := of_decide_eq_true hp
          rw [← he, List.take_length] at h1
          have h2 : pre x.Keys y.Keys = true := by rw [h1]; exact pre_take
          have hne : i ≠ j := by
            intro e
            subst e
            rw [hi] at hj; cases hj
            rw [List.length_take] at he; omega
          rw [ha i j x y hi hj hne] at h2; cases h2
      · exact .inr ⟨x, List.mem_of_getElem? hi, hs, pre_take⟩
  unfold feedP
  rw [hE, hF]
  by_cases hr : x.Keys.take k = []
  · rw [if_pos hr]
    rw [hr, List.nil_append] at hE
    rw [hE, hF]
    by_cases hl : k + 1 = x.Keys.length
    · rw [if_pos hl, if_pos hl]; rfl
    · rw [if_neg hl, if_neg hl]; rfl
  · rw [if_neg hr]
    by_cases hl : k + 1 = x.Keys.length
    · rw [if_pos hl, if_pos hl]; rfl
    · rw [if_neg hl, if_neg hl]; rfl
theorem fires1 {t : List Shortcut} {i : Nat} {x : Shortcut} {kk : Unit → Option Bool} (ha : Apart t) (hi : t[i]? = some x) (hs : x.Scope = 1) (hn : x.Node = (i : Int) + 1) (hg : GoodKeys x.Keys) (hl : t.length ≤ 7) :
    loopK (l32_ShortcutFires_L1 t (i : Int) kk) N0 (0, [], 0) = kk () := by
  obtain ⟨g1, g2, g3⟩ := hg
  have hlt : i < t.length := (List.getElem?_eq_some_iff.1 hi).1
  have key := loopK_ind (B := l32_ShortcutFires_L1 t (i : Int) kk)
    (fun st o => ∀ k : Nat, st.1 = (k : Int) → k ≤ x.Keys.length → (k < x.Keys.length → st.2.1 = x.Keys.take k ∧ ((k = 0 ∧ st.2.2 = 0) ∨ st.2.2 = ((k : Int) - 1) * 1500)) → o = kk ())
    (fun st => x.Keys.length - st.1.toNat) (fun st again ih => by
      obtain ⟨kz, keys, tm⟩ := st
      intro k hk hkl hst
      dsimp only at hk hst ih ⊢
      subst hk
      unfold l32_ShortcutFires_L1
      dsimp only
      rw [idxO_nat, hi, bind_some']
      by_cases hkk : k < x.Keys.length
      · obtain ⟨h1, h2⟩ := hst hkk
        subst h1
        rw [nz_lt hkk, sel_true, bind_some', idxO_nat, List.getElem?_eq_getElem hkk, bind_some', wrap_id (x := (k : Int) * 1500) (by omega) (by omega)]
        have hN : (1000001 : Nat) < N0 := by unfold N0; omega
        rw [Feed_eq (by omega) (by simp; unfold N0; omega) (by simp; omega) (by dsimp only; omega) (by dsimp only; omega) (by omega) (by omega), bind_some', bind_some', foldC_id (g3 _ (List.getElem_mem hkk))]
        have hlive : liveP ⟨x.Keys.take k, tm⟩ ((k : Int) * 1500) = x.Keys.take k := by
          unfold liveP
          dsimp only
          rw [if_pos (by omega)]
        rw [hlive, feed_key ha hi hs hkk]
        rw [wrap_id (x := (x.Keys.length : Int) - 1) (by omega) (by omega), wrap_id (x := (k : Int) + 1) (by omega) (by omega), wrap_id (x := (i : Int) + 1) (by omega) (by omega)]
        by_cases hlast : k + 1 = x.Keys.length
        · have e1 : ((k : Int) == (x.Keys.length : Int) - 1) = true := by simp; omega
          rw [if_pos hlast, e1, hn]
          simp only [bne_self_eq_false, Bool.or_self, Bool.not_true, Bool.false_and, Bool.or_false, Bool.true_and, Bool.false_or]
          have e2 : decide (((([] : List Chord).length : Nat) : Int) > 0) = false := rfl
          rw [e2, sel_false]
          exact ih _ (by dsimp only; omega) (k + 1) (by simp) (by omega) (fun h => by omega)
        · have e1 : ((k : Int) == (x.Keys.length : Int) - 1) = false := by simp; omega
          rw [if_neg hlast, e1]
          have e3 : (((x.Keys.take (k + 1)).length : Int) != (k : Int) + 1) = false := by simp; omega
          simp only [bne_self_eq_false, Bool.or_self, Bool.not_false, Bool.false_and, Bool.true_and, e3]
          rw [sel_false]
          exact ih _ (by dsimp only; omega) (k + 1) (by simp) (by omega) (fun _ => ⟨rfl, .inr (by dsimp only; omega)⟩)
      · rw [nz_ge (by omega), sel_false])
    N0 (0, [], 0) (by dsimp only; unfold N0; omega) 0 rfl (by omega) (fun _ => ⟨rfl, .inl ⟨rfl, rfl⟩⟩)
  exact key
theorem set_loop {t : List Shortcut} {kk : List Shortcut → Option Bool} (hl : t.length ≤ 7) (hk : ∀ t' : List Shortcut, t'.length = t.length → (∀ (j : Nat) y, t'[j]? = some y → y.Scope = 1 ∧ y.Node = (j : Int) + 1 ∧ ∃ x, t[j]? = some x ∧ y.Keys = x.Keys) → kk t' = some true) :
    loopK (l32_ShortcutFires_L3 kk) N0 (0, t) = some true := by
  have key := loopK_ind (B := l32_ShortcutFires_L3 kk)
    (fun st o => ∀ i : Nat, st.1 = (i : Int) → st.2.length = t.length → i ≤ t.length → (∀ (j : Nat) y, st.2[j]? = some y → (j < i → y.Scope = 1 ∧ y.Node = (j : Int) + 1) ∧ ∃ x, t[j]? = some x ∧ y.Keys = x.Keys) → o = some true)
    (fun st => t.length - st.1.toNat) (fun st again ih => by
      obtain ⟨iz, s⟩ := st
      intro i hi hsl hil hall
      dsimp only at hi hsl hall ih ⊢
      subst hi
      unfold l32_ShortcutFires_L3
      dsimp only
      by_cases hlt : i < s.length
      · rw [nz_lt hlt, sel_true]
        have hx : ixO s.length (i : Int) = some i := by show (if i < s.length then some i else none) = _; rw [if_pos hlt]
        rw [hx, bind_some', List.getElem?_eq_getElem hlt, bind_some']
        have hx2 : ixO (List.set s i (Shortcut.mk s[i].Node 1 s[i].Keys)).length (i : Int) = some i := by
          show (if i < _ then some i else none) = _; rw [if_pos (by rw [List.length_set]; exact hlt)]
        rw [hx2, bind_some', List.getElem?_set_self (by simpa using hlt), bind_some', List.set_set, wrap_id (by omega) (by omega)]
        obtain ⟨_, x, hx3, hx4⟩ := hall i s[i] (List.getElem?_eq_getElem hlt)
        refine ih _ (by dsimp only; omega) (i + 1) (by simp) (by simpa using hsl) (by omega) (fun j y hj => ?_)
        dsimp only at hj
        by_cases hji : i = j
        · subst hji
          rw [List.getElem?_set_self (by simpa using hlt)] at hj
          cases hj
          exact ⟨fun _ => ⟨rfl, rfl⟩, x, hx3, hx4⟩
        · rw [List.getElem?_set_ne hji] at hj
          obtain ⟨h1, h2⟩ := hall j y hj
          exact ⟨fun h => h1 (by omega), h2⟩
      · rw [nz_ge (by omega), sel_false]
        exact hk s hsl (fun j y hj => by
          obtain ⟨h1, h2⟩ := hall j y hj
          have : j < s.length := (List.getElem?_eq_some_iff.1 hj).1
          exact ⟨(h1 (by omega)).1, (h1 (by omega)).2, h2⟩))
    N0 (0, t) (by dsimp only; unfold N0; omega) 0 rfl rfl (by omega) (fun j y hj => ⟨fun h => by omega, y, hj, rfl⟩)
  exact key
theorem fires_true (l : List Int) : l32_ShortcutFires l = some true := by
  unfold l32_ShortcutFires
  obtain ⟨s0, e0, k0⟩ := New_ok l
  rw [e0, bind_some']
  obtain ⟨t0, s1, e1, tl, tk, _⟩ := table_ok' k0
  rw [e1, bind_some', jn_eq]
  refine set_loop tl (fun t hlen0 hall => ?_)
  have hlen : t.length = t0.length := hlen0
  have hN : (1000001 : Nat) < N0 := by unfold N0; omega
  have hsc : ∀ x ∈ t, x.Scope = 1 := fun x hx => by
    obtain ⟨j, hj⟩ := List.getElem?_of_mem hx
    exact (hall j x hj).1
  have hgk : ∀ x ∈ t, GoodKeys x.Keys := fun x hx => by
    obtain ⟨j, hj⟩ := List.getElem?_of_mem hx
    obtain ⟨_, _, y, h1, h2⟩ := hall j x hj
    rw [h2]; exact tk y (List.mem_of_getElem? h1)
  have hkl : ∀ y ∈ t, y.Keys.length < N0 := fun y hy => by have := (hgk y hy).2.1; omega
  rw [Conflicts_eq (by omega) hkl, bind_some']
  by_cases hc : ((confP 0 t []).length : Int) > 0
  · have : decide (((confP 0 t []).length : Int) > 0) = true := by simpa using hc
    rw [this, sel_true, rConflicts_eq (by omega) hkl, bind_some', this, gO_true, awake_true]; rfl
  · have : decide (((confP 0 t []).length : Int) > 0) = false := by simpa using hc
    rw [this, sel_false, jn_eq]
    have hap : Apart t := apart_of hsc (confP_nil (i := 0) (acc := []) (by show (confP 0 t []).length = 0; omega))
    rw [rangeI (R := Bool) (L := t) (k := some true) (fun _ _ => .inr ()) (by omega)]
    · have : ∀ (l : List Shortcut) (i : Nat), scanL (R := Bool) (fun (_ : Nat) (_ : Shortcut) (_ : Unit) => .inr ()) (fun _ => some true) i l () = some true := by
        intro l
        induction l with
        | nil => intro i; rfl
        | cons x r ih => intro i; exact ih (i + 1)
      exact this t 0
    · intro again i x hx hi
      unfold l32_ShortcutFires_L2
      obtain ⟨h1, h2, _⟩ := hall i x hx
      rw [nz_lt hi, sel_true, jn_eq, jn_eq, fires1 hap hx h1 h2 (hgk x (List.mem_of_getElem? hx)) (by omega), wrap_suc hi (by omega)]
    · intro again i hi
      unfold l32_ShortcutFires_L2
      rw [nz_ge hi, sel_false, awake_true]; rfl
end Go.Proofs.YtodddfoehcfcnaaDoor

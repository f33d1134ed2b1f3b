/-
  The source of choices, plainly: what its functions return is in range. The law of the sessions. No program in sight.
-/
import Derived.Test.YtodddfoehcfcnaaDoorQ3
namespace Go.Proofs.YtodddfoehcfcnaaDoor
open Go Go.E2
/-- a source within its list -/
def SrcOk (s : widgetrybase_Src) : Prop := 0 ≤ s.At ∧ s.At ≤ s.L.length ∧ s.L.length ≤ 4000
theorem idxO_ok {α : Type} {L : List α} {r : Int} (h0 : 0 ≤ r) (h1 : r < L.length) : ∃ x, idxO L r = some x ∧ x ∈ L := by
  obtain ⟨n, rfl⟩ : ∃ n : Nat, r = n := ⟨r.toNat, by omega⟩
  have : n < L.length := by omega
  exact ⟨L[n], by rw [idxO_nat, List.getElem?_eq_getElem this], List.getElem_mem this⟩
theorem New_ok (l : List Int) : ∃ s, b_New l = some s ∧ SrcOk s := by
  unfold b_New
  rw [jn_eq]
  by_cases h : (l.length : Int) > 4000
  · have : decide ((l.length : Int) > 4000) = true := by simpa using h
    rw [this, sel_true, show (4000 : Int) = ((4000 : Nat) : Int) from rfl, slcO_eq (by omega), bind_some']
    exact ⟨_, rfl, Int.le_refl 0, by simp, by simp; omega⟩
  · have : decide ((l.length : Int) > 4000) = false := by simpa using h
    rw [this, sel_false]
    exact ⟨_, rfl, Int.le_refl 0, by simp, by simp; omega⟩
theorem N_ok {s : widgetrybase_Src} {n : Int} (h : SrcOk s) (h1 : 1 ≤ n) (h2 : n ≤ 1000000) : ∃ r s', b_Src_N s n = some (r, s') ∧ 0 ≤ r ∧ r < n ∧ SrcOk s' := by
  obtain ⟨a0, a1, a2⟩ := h
  unfold b_Src_N
  by_cases hc : s.At ≥ s.L.length
  · have : (decide (s.At ≥ (s.L.length : Int)) || decide (n < 1)) = true := by simp; omega
    rw [this, sel_true]
    exact ⟨0, s, rfl, by omega, by omega, a0, a1, a2⟩
  · have : (decide (s.At ≥ (s.L.length : Int)) || decide (n < 1)) = false := by simp; omega
    rw [this, sel_false]
    obtain ⟨x, hx, _⟩ := idxO_ok a0 (by omega : s.At < s.L.length)
    rw [hx, bind_some']
    have hz : nzO n (x.tmod n) = some (x.tmod n) := if_neg (by omega)
    rw [hz, bind_some', jn_eq]
    have t1 : x.tmod n < n := Int.tmod_lt_of_pos x (by omega)
    have t2 : -n < x.tmod n := Int.lt_tmod_of_pos x (by omega)
    have hw : IntKind.i64.wrap (s.At + 1) = s.At + 1 := wrap_id (by omega) (by omega)
    rw [hw]
    by_cases hm : x.tmod n < 0
    · have : decide (x.tmod n < 0) = true := by simpa using hm
      rw [this, sel_true, wrap_id (by omega) (by omega)]
      exact ⟨_, _, rfl, by omega, by omega, by simp; omega, by simp; omega, a2⟩
    · have : decide (x.tmod n < 0) = false := by simpa using hm
      rw [this, sel_false]
      exact ⟨_, _, rfl, by omega, by omega, by simp; omega, by simp; omega, a2⟩
theorem Raw_ok {s : widgetrybase_Src} (h : SrcOk s) : ∃ r s', b_Src_Raw s = some (r, s') ∧ SrcOk s' := by
  obtain ⟨a0, a1, a2⟩ := h
  unfold b_Src_Raw
  by_cases hc : s.At ≥ s.L.length
  · have : decide (s.At ≥ (s.L.length : Int)) = true := by simpa using hc
    rw [this, sel_true]
    exact ⟨0, s, rfl, a0, a1, a2⟩
  · have : decide (s.At ≥ (s.L.length : Int)) = false := by simpa using hc
    rw [this, sel_false, wrap_id (x := s.At + 1) (by omega) (by omega), wrap_id (by omega) (by omega), show s.At + 1 - 1 = s.At by omega]
    obtain ⟨x, hx, _⟩ := idxO_ok a0 (by omega : s.At < s.L.length)
    rw [hx, bind_some']
    exact ⟨_, _, rfl, by simp; omega, by simp; omega, a2⟩
theorem More_ok (s : widgetrybase_Src) : ∃ b, b_Src_More s = some (b, s) := ⟨_, rfl⟩
theorem Chance_ok {s : widgetrybase_Src} {n : Int} (h : SrcOk s) (h1 : 1 ≤ n) (h2 : n ≤ 1000000) : ∃ r s', b_Src_Chance s n = some (r, s') ∧ SrcOk s' := by
  unfold b_Src_Chance
  obtain ⟨r, s', e, _, _, k⟩ := N_ok h h1 h2
  rw [e, bind_some']
  exact ⟨_, _, rfl, k⟩
theorem Range_ok {s : widgetrybase_Src} {lo hi : Int} (h : SrcOk s) (h0 : 0 ≤ lo) (h1 : lo ≤ hi) (h2 : hi ≤ 1000) : ∃ r s', b_Src_Range s lo hi = some (r, s') ∧ lo ≤ r ∧ r ≤ hi ∧ SrcOk s' := by
  unfold b_Src_Range
  rw [wrap_id (x := hi - lo) (by omega) (by omega), wrap_id (by omega) (by omega)]
  obtain ⟨r, s', e, r0, r1, k⟩ := N_ok (n := hi - lo + 1) h (by omega) (by omega)
  rw [e, bind_some', wrap_id (by omega) (by omega)]
  exact ⟨_, _, rfl, by omega, by omega, k⟩
theorem Chord_ok {s : widgetrybase_Src} (h : SrcOk s) : ∃ c s', b_Src_Chord s = some (c, s') ∧ SrcOk s' := by
  unfold b_Src_Chord
  obtain ⟨r1, s1, e1, a1, b1, k1⟩ := N_ok (n := (([97, 98, 107, 99, 115, 120, 75, 49, 32, 43, 1, 2, 3, 6, 12, 23, 1488] : List Nat).length : Int)) h (by decide) (by decide)
  rw [e1, bind_some']
  obtain ⟨x2, e2, _⟩ := idxO_ok (L := ([97, 98, 107, 99, 115, 120, 75, 49, 32, 43, 1, 2, 3, 6, 12, 23, 1488] : List Int)) a1 b1
  rw [e2, bind_some']
  obtain ⟨r3, s3, e3, a3, b3, k3⟩ := N_ok (n := 9) k1 (by decide) (by decide)
  rw [e3, bind_some']
  obtain ⟨x4, e4, _⟩ := idxO_ok (L := ([0, 0, 1, 1, 2, 4, 8, 15, 5] : List Int)) a3 b3
  rw [e4, bind_some']
  simp only [jn_eq]
  have last : ∀ (L : List Int) (at_ key : Int), SrcOk ⟨L, at_⟩ → ∃ c s', ((b_Src_Chance (widgetrybase_Src.mk L at_) 30).bind fun x9 => sel x9.1 ((b_Src_Raw x9.2).bind fun x11 => some ((Chord.mk key x11.1), (widgetrybase_Src.mk x11.2.L x11.2.At))) (some ((Chord.mk key x4), (widgetrybase_Src.mk x9.2.L x9.2.At)))) = some (c, s') ∧ SrcOk s' := by
    intro L at_ key hk
    obtain ⟨b, s5, e5, k5⟩ := Chance_ok (n := 30) hk (by decide) (by decide)
    rw [e5, bind_some']
    cases b with
    | true =>
      obtain ⟨r, s6, e6, k6⟩ := Raw_ok k5
      rw [sel_true, e6, bind_some']
      exact ⟨_, _, rfl, k6⟩
    | false => rw [sel_false]; exact ⟨_, _, rfl, k5⟩
  obtain ⟨b, s7, e7, k7⟩ := Chance_ok (n := 20) k3 (by decide) (by decide)
  rw [e7, bind_some']
  cases b with
  | true =>
    obtain ⟨r, s8, e8, k8⟩ := Raw_ok k7
    rw [sel_true, e8, bind_some']
    exact last s8.L s8.At r k8
  | false => rw [sel_false]; exact last s7.L s7.At x2 k7
theorem Chords_ok {s : widgetrybase_Src} (h : SrcOk s) : ∃ ks s', b_Src_Chords s = some (ks, s') ∧ 1 ≤ ks.length ∧ ks.length ≤ 3 ∧ SrcOk s' := by
  unfold b_Src_Chords
  rw [jn_eq]
  obtain ⟨r, s1, e1, r0, r1, k1⟩ := Range_ok (lo := 1) (hi := 3) h (by decide) (by decide) (by decide)
  rw [e1, bind_some']
  have key := loopK_ind (B := b_Src_Chords_L1 fun s1 => some (s1.1, (widgetrybase_Src.mk s1.2.1 s1.2.2)))
    (fun st o => 0 ≤ st.2.1 → st.2.1 ≤ 3 → st.1.length + st.2.1.toNat ≤ 3 → SrcOk ⟨st.2.2.1, st.2.2.2⟩ → ∃ ks s', o = some (ks, s') ∧ ks.length = st.1.length + st.2.1.toNat ∧ SrcOk s')
    (fun st => st.2.1.toNat) (fun st again ih => by
      obtain ⟨acc, i, L, at_⟩ := st
      intro i0 i3 hl hk
      dsimp only at i0 i3 hl hk ih ⊢
      unfold b_Src_Chords_L1
      dsimp only
      by_cases hi : i > 0
      · have : decide (i > 0) = true := by simpa using hi
        rw [this, sel_true]
        obtain ⟨r1, s1, e1, a1, b1, k1⟩ := N_ok (n := (([97, 107, 99, 49, 32, 2, 12] : List Nat).length : Int)) hk (by decide) (by decide)
        rw [e1, bind_some']
        obtain ⟨x2, e2, _⟩ := idxO_ok (L := ([97, 107, 99, 49, 32, 2, 12] : List Int)) a1 b1
        rw [e2, bind_some']
        obtain ⟨r3, s3, e3, a3, b3, k3⟩ := N_ok (n := 3) k1 (by decide) (by decide)
        rw [e3, bind_some', appO_eq (by simp; omega), bind_some', wrap_id (by omega) (by omega)]
        obtain ⟨ks, s', h1, h2, h3⟩ := ih (acc ++ [⟨x2, r3⟩], i - 1, s3.L, s3.At) (by dsimp only; omega) (by dsimp only; omega) (by dsimp only; omega) (by simp; omega) k3
        exact ⟨ks, s', h1, by simp at h2; omega, h3⟩
      · have : decide (i > 0) = false := by simpa using hi
        rw [this, sel_false]
        exact ⟨_, _, rfl, by simp; omega, hk⟩)
    N0 ([], r, s1.L, s1.At) (by dsimp only; unfold N0; omega) (by dsimp only; omega) (by dsimp only; omega) (by simp; omega) k1
  obtain ⟨ks, s', h1, h2, h3⟩ := key
  exact ⟨ks, s', h1, by simp at h2; omega, by simp at h2; omega, h3⟩
theorem table_ok {s : widgetrybase_Src} (h : SrcOk s) : ∃ t s', l32_table s = some (t, s') ∧ t.length ≤ 7 ∧ (∀ x ∈ t, 1 ≤ x.Keys.length ∧ x.Keys.length ≤ 3) ∧ SrcOk s' := by
  unfold l32_table
  rw [jn_eq]
  obtain ⟨r, s1, e1, r0, r1, k1⟩ := N_ok (n := 8) h (by decide) (by decide)
  rw [e1, bind_some']
  have key := loopK_ind (B := l32_table_L1 fun s1 => some (s1.1, (widgetrybase_Src.mk s1.2.1 s1.2.2)))
    (fun st o => 0 ≤ st.2.1 → st.1.length + st.2.1.toNat ≤ 7 → (∀ x ∈ st.1, 1 ≤ x.Keys.length ∧ x.Keys.length ≤ 3) → SrcOk ⟨st.2.2.1, st.2.2.2⟩ → ∃ ks s', o = some (ks, s') ∧ ks.length ≤ 7 ∧ (∀ x ∈ ks, 1 ≤ x.Keys.length ∧ x.Keys.length ≤ 3) ∧ SrcOk s')
    (fun st => st.2.1.toNat) (fun st again ih => by
      obtain ⟨acc, i, L, at_⟩ := st
      intro i0 hl hx hk
      dsimp only at i0 hl hx hk ih ⊢
      unfold l32_table_L1
      dsimp only
      by_cases hi : i > 0
      · have : decide (i > 0) = true := by simpa using hi
        rw [this, sel_true]
        obtain ⟨r1, s1, e1, a1, b1, k1⟩ := Range_ok (lo := 1) (hi := 20) hk (by decide) (by decide) (by decide)
        rw [e1, bind_some']
        obtain ⟨r2, s2, e2, a2, b2, k2⟩ := Range_ok (lo := 1) (hi := 3) k1 (by decide) (by decide) (by decide)
        rw [e2, bind_some']
        obtain ⟨ks, s3, e3, a3, b3, k3⟩ := Chords_ok k2
        rw [e3, bind_some', appO_eq (by simp; omega), bind_some', wrap_id (by omega) (by omega)]
        exact ih (acc ++ [⟨r1, r2, ks⟩], i - 1, s3.L, s3.At) (by dsimp only; omega) (by dsimp only; omega) (by simp; omega) (by
          intro x hx'
          rcases List.mem_append.1 hx' with h | h
          · exact hx x h
          · simp at h; subst h; exact ⟨a3, b3⟩) k3
      · have : decide (i > 0) = false := by simpa using hi
        rw [this, sel_false]
        exact ⟨_, _, rfl, by omega, hx, hk⟩)
    N0 ([], r, s1.L, s1.At) (by dsimp only; unfold N0; omega) (by dsimp only; omega) (by simp; omega) (by simp) k1
  exact key
theorem feedP_time (rest : List Chord) (c : Chord) (t : Int) (l : List Shortcut) (sc : List Int) : (feedP rest c t l sc).1.Time = 0 ∨ (feedP rest c t l sc).1.Time = t := by
  have m : ∀ (keys : List Chord) (x : Int × Int), (matchP keys t x).1.Time = 0 ∨ (matchP keys t x).1.Time = t := by
    intro keys x; unfold matchP; dsimp only; split
    · exact .inr rfl
    · exact .inl rfl
  unfold feedP
  split
  · exact m _ _
  · split
    · exact m _ _
    · exact m _ _
theorem session_true (l : List Int) : l32_ShortcutSession l = some true := by
  unfold l32_ShortcutSession
  obtain ⟨s0, e0, k0⟩ := New_ok l
  rw [e0, bind_some']
  obtain ⟨t, s1, e1, tl, tk, k1⟩ := table_ok k0
  rw [e1, bind_some']
  obtain ⟨r2, s2, e2, a2, b2, k2⟩ := N_ok (n := 5) k1 (by decide) (by decide)
  rw [e2, bind_some']
  obtain ⟨sc, e3, m3⟩ := idxO_ok (L := ([[1], [2, 1], [3, 1], [3, 2, 1], ([] : List Int)])) a2 b2
  rw [e3, bind_some', jn_eq]
  have hN : (1000001 : Nat) < N0 := by unfold N0; omega
  have hs : sc.length < N0 := by
    have : sc.length ≤ 3 := by
      simp at m3; rcases m3 with h | h | h | h | h <;> subst h <;> simp
    omega
  have hl : t.length < N0 := by omega
  have key := loopK_ind (B := l32_ShortcutSession_L1 (t, s1) sc fun _ => l32_awake.bind fun x7 => some x7)
    (fun st o => 0 ≤ st.1 → st.1 ≤ 2000 * st.2.1 → 0 ≤ st.2.1 → st.2.1 ≤ 20 → SrcOk ⟨st.2.2.1, st.2.2.2.1⟩ → st.2.2.2.2.1 = st.2.2.2.2.2.2.1 → st.2.2.2.2.2.1 = st.2.2.2.2.2.2.2 → st.2.2.2.2.1.length ≤ st.2.1 →
      0 ≤ st.2.2.2.2.2.1 → st.2.2.2.2.2.1 ≤ 2000 * st.2.1 → o = some true)
    (fun st => (20 - st.2.1).toNat) (fun st again ih => by
      obtain ⟨time, i, L, at_, pk, pt, qk, qt⟩ := st
      intro t0 t1 i0 i1 hk hpq htq hlen p0 p1
      dsimp only at t0 t1 i0 i1 hk hpq htq hlen p0 p1 ih ⊢
      subst hpq; subst htq
      unfold l32_ShortcutSession_L1
      dsimp only
      have hx : ∃ b, (sel (decide (i < 20) && !decide (i < 4)) (b_Src_More ⟨L, at_⟩) (some ((default : Bool), ⟨L, at_⟩))) = some (b, ⟨L, at_⟩) := by
        cases (decide (i < 20) && !decide (i < 4))
        · exact ⟨_, rfl⟩
        · exact More_ok _
      obtain ⟨b, eb⟩ := hx
      rw [eb, bind_some']
      cases hc : (decide (i < 20) && (decide (i < 4) || b)) with
      | false => rw [sel_false, awake_true]; rfl
      | true =>
        have hi : i < 20 := by
          have := (Bool.and_eq_true_iff.1 hc).1; simpa using this
        rw [sel_true]
        obtain ⟨r4, s4, e4, a4, b4, k4⟩ := N_ok (n := 5) hk (by decide) (by decide)
        rw [e4, bind_some']
        obtain ⟨dt, e5, m5⟩ := idxO_ok (L := ([0, 10, 1500, 1501, 800] : List Int)) a4 b4
        have hdt : 0 ≤ dt ∧ dt ≤ 1501 := by
          simp at m5; omega
        rw [e5, bind_some']
        obtain ⟨c, s6, e6, k6⟩ := Chord_ok k4
        rw [e6, bind_some', jn_eq]
        have hw : IntKind.i64.wrap (time + dt) = time + dt := wrap_id (by omega) (by omega)
        rw [hw]
        have fin : ∀ (L' : List Int) (at' key mods : Int), SrcOk ⟨L', at'⟩ → ((sc_Feed (PendingKeys.mk pk pt) t sc (Chord.mk key mods) (time + dt)).bind fun x17 => (r32_Feed (PendingKeys.mk pk pt) t sc (Chord.mk key mods) (time + dt)).bind fun x18 => (l32_same x17.1.Keys x18.1.Keys).bind fun x19 => sel (((!x19) || (x17.2.1 != x18.2.1)) || (x17.2.2 != x18.2.2)) (some false) (again (time + dt, IntKind.i64.wrap (i + 1), L', at', x17.1.Keys, x17.1.Time, x18.1.Keys, x18.1.Time))) = some true := by
          intro L' at' key mods hk'
          have hF := feedP_keys (liveP ⟨pk, pt⟩ (time + dt)) (foldC ⟨key, mods⟩) (time + dt) t sc
          have hL := liveP_keys ⟨pk, pt⟩ (time + dt)
          have hT := feedP_time (liveP ⟨pk, pt⟩ (time + dt)) (foldC ⟨key, mods⟩) (time + dt) t sc
          dsimp only at hL
          rw [Feed_eq hl hs (by dsimp only; omega) (by dsimp only; omega) (by dsimp only; omega) (by omega) (by omega), bind_some', rFeed_eq hl hs (by dsimp only; omega) (by dsimp only; omega) (by dsimp only; omega) (by omega) (by omega), bind_some',
            same_eq (by omega), bind_some']
          simp only [decide_true, Bool.not_true, bne_self_eq_false, Bool.or_self, sel_false]
          rw [wrap_id (by omega) (by omega)]
          exact ih _ (by dsimp only; omega) (by dsimp only; omega) (by dsimp only; omega) (by dsimp only; omega) (by dsimp only; omega) hk' rfl rfl (by dsimp only; omega) (by dsimp only; omega) (by dsimp only; omega)
        by_cases ht : t.length = 0
        · have : decide ((t.length : Int) > 0) = false := decide_eq_false (by omega)
          rw [this, sel_false, bind_some', Bool.false_and, sel_false]
          exact fin _ _ _ _ k6
        · have : decide ((t.length : Int) > 0) = true := decide_eq_true (by omega)
          rw [this, sel_true]
          obtain ⟨r7, s7, e7, a7, b7, k7⟩ := N_ok (n := 3) k6 (by decide) (by decide)
          rw [e7, bind_some', Bool.true_and]
          cases hr : decide (r7 > 0) with
          | false => rw [sel_false]; exact fin _ _ _ _ k7
          | true =>
            rw [sel_true]
            obtain ⟨r8, s8, e8, a8, b8, k8⟩ := N_ok (n := (t.length : Int)) k7 (by omega) (by omega)
            rw [e8, bind_some']
            obtain ⟨x9, e9, m9⟩ := idxO_ok a8 b8
            rw [e9, bind_some']
            have hk9 := tk x9 m9
            have : 0 ≤ mnI (pk.length : Int) (IntKind.i64.wrap ((x9.Keys.length : Int) - 1)) ∧ mnI (pk.length : Int) (IntKind.i64.wrap ((x9.Keys.length : Int) - 1)) < x9.Keys.length := by
              rw [wrap_id (by omega) (by omega)]
              unfold mnI
              split <;> omega
            obtain ⟨x10, e10, _⟩ := idxO_ok this.1 this.2
            rw [e10, bind_some']
            exact fin _ _ _ _ k8)
    N0 (0, 0, s2.L, s2.At, [], 0, [], 0) (by dsimp only; unfold N0; omega) (by dsimp only; omega) (by dsimp only; omega) (by dsimp only; omega) (by dsimp only; omega) k2 rfl rfl (by simp) (by dsimp only; omega) (by dsimp only; omega)
  exact key
end Go.Proofs.YtodddfoehcfcnaaDoor

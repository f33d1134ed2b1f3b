/-
  The law of the letters, plainly. No program in sight.
-/
import Derived.Test.YtodddfoehcfcnaaDoorQg
import Derived.Test.YtodddfoehcfcnaaDoorQ4
namespace Go.Proofs.YtodddfoehcfcnaaDoor
open Go Go.E2
theorem ofBytes_size (l : List Int) : (ofBytes l).size = l.length := by
  show (((l.map fun n => UInt8.ofNat n.toNat).toArray).size) = _
  simp
theorem Word_ok {s : widgetrybase_Src} {n : Int} (h : SrcOk s) (h0 : 0 ≤ n) (h1 : n ≤ 1000) : ∃ t s', b_Src_Word s n = some (t, s') ∧ t.size ≤ n ∧ SrcOk s' := by
  unfold b_Src_Word
  rw [wrap_id (x := n + 1) (by omega) (by omega)]
  obtain ⟨r, s1, e1, a1, b1, k1⟩ := N_ok (n := n + 1) h (by omega) (by omega)
  rw [e1, bind_some']
  have e2 : mkO r (0 : Int) = some (List.replicate r.toNat 0) := if_pos ⟨a1, by omega⟩
  rw [e2, bind_some', jn_eq]
  obtain ⟨m, rfl⟩ : ∃ m : Nat, r = m := ⟨r.toNat, by omega⟩
  have key := loopK_ind (B := b_Src_Word_L1 ((m : Int), s1) fun s3 => some (ofBytes s3.2.2, (widgetrybase_Src.mk s3.1 s3.2.1)))
    (fun st o => ∀ i : Nat, st.1 = i → i ≤ m → st.2.2.2.length = m → SrcOk ⟨st.2.1, st.2.2.1⟩ → ∃ t s', o = some (t, s') ∧ t.size ≤ n ∧ SrcOk s') (fun st => m - st.1.toNat) (fun st again ih => by
      obtain ⟨iz, L, at_, bs⟩ := st
      intro i hi him hb hk
      dsimp only at hi hb hk ih ⊢
      subst hi
      unfold b_Src_Word_L1
      dsimp only
      by_cases hl : i < m
      · rw [nz_lt hl, sel_true]
        obtain ⟨r4, s4, e4, a4, b4, k4⟩ := N_ok (n := 4) hk (by decide) (by decide)
        rw [e4, bind_some', hb, ixO_nat hl, bind_some', wrap_id (x := (i : Int) + 1) (by omega) (by omega)]
        exact ih _ (by dsimp only; omega) (i + 1) (by simp) (by omega) (by simpa using hb) k4
      · rw [nz_ge (by omega), sel_false]
        exact ⟨_, _, rfl, by rw [ofBytes_size, hb]; omega, hk⟩) N0 (0, s1.L, s1.At, List.replicate (m : Int).toNat 0) (by dsimp only; unfold N0; omega) 0 rfl (by omega) (by simp) k1
  exact key
theorem catO_ok {s t : Str} (h : s.size + t.size ≤ 1152921504606846976) : ∃ u, catO s t = some u ∧ u.size = s.size + t.size := ⟨s ++ t, if_pos h, by simp⟩
/-- the made-up labels are few and short -/
theorem few_ok {kk : List Str → Option Bool} {m : Nat} {n w : Int} {L0 : List Str} {B : (List Str × Int × List Int × Int → Option Bool) → List Str × Int × List Int × Int → Option Bool} (hL : ∀ s ∈ L0, s.size ≤ 10) (hw0 : 0 ≤ w) (hw1 : w ≤ 10) (hn : (L0.length : Int) = n) (hn0 : 1 ≤ n) (hn1 : n ≤ 100)
    (hB : ∀ again s, B again s = sel (decide (s.2.1 > 0)) ((b_Src_Word (widgetrybase_Src.mk s.2.2.1 s.2.2.2) w).bind fun x32 => (b_Src_N x32.2 n).bind fun x33 => (idxO L0 x33.1).bind fun x34 => (catO x32.1 x34).bind fun x35 => (appO s.1 ([x35])).bind fun x36 => again (x36, IntKind.i64.wrap (s.2.1 - 1), x33.2.L, x33.2.At)) (kk s.1))
    (hm : m ≤ 100) {L : List Int} {at_ : Int} (hk : SrcOk ⟨L, at_⟩) (hend : ∀ l : List Str, l.length = m → (∀ s ∈ l, s.size ≤ 20) → kk l = some true) : loopK B N0 (([] : List Str), (m : Int), L, at_) = some true := by
  have key := loopK_ind (B := B)
    (fun st o => ∀ i : Nat, st.2.1 = i → i + st.1.length = m → (∀ s ∈ st.1, s.size ≤ 20) → SrcOk ⟨st.2.2.1, st.2.2.2⟩ → o = some true) (fun st => st.2.1.toNat) (fun st again ih => by
      obtain ⟨l, iz, L, at_⟩ := st
      intro i hi him hb hk
      dsimp only at hi him hb hk ih ⊢
      subst hi
      rw [hB]
      dsimp only
      by_cases hl : 0 < i
      · have : decide ((i : Int) > 0) = true := decide_eq_true (by omega)
        rw [this, sel_true]
        obtain ⟨t, s4, e4, z4, k4⟩ := Word_ok (n := w) hk hw0 (by omega)
        rw [e4, bind_some']
        obtain ⟨r5, s5, e5, a5, b5, k5⟩ := N_ok (n := n) k4 (by omega) (by omega)
        rw [e5, bind_some']
        obtain ⟨x, e6, m6⟩ := idxO_ok (L := L0) a5 (by omega)
        have hx := hL x m6
        rw [e6, bind_some']
        obtain ⟨u, e7, z7⟩ := catO_ok (s := t) (t := x) (by omega)
        rw [e7, bind_some', appO_eq (by simp; omega), bind_some', wrap_id (x := (i : Int) - 1) (by omega) (by omega)]
        refine ih _ (by dsimp only; omega) (i - 1) (by dsimp only; omega) (by simp; omega) (fun s hs => ?_) k5
        rcases List.mem_append.1 hs with h | h
        · exact hb s h
        · simp at h; subst h; omega
      · have : decide ((i : Int) > 0) = false := decide_eq_false (by omega)
        rw [this, sel_false]
        exact hend l (by omega) hb) N0 ([], (m : Int), L, at_) (by dsimp only; unfold N0; omega) m rfl (by simp) (by simp) hk
  exact key
/-- a loop that comes to true at every place -/
theorem allLoop {n : Nat} {B : (Int → Option Bool) → Int → Option Bool} {o : Option Bool} (hn : n < N0) (p : Nat → Prop)
    (hc : ∀ again (i : Nat), i < n → B again (i : Int) = some true ∨ (p i ∧ B again (i : Int) = again ((i + 1 : Nat) : Int))) (he : ∀ again (i : Nat), n ≤ i → B again (i : Int) = o) (ho : (∀ j, j < n → p j) → o = some true) : loopK B N0 0 = some true := by
  have key := loopK_ind (B := B) (fun st r => ∀ i : Nat, st = i → (∀ j, j < i → j < n → p j) → r = some true) (fun st => n - st.toNat) (fun st again ih => by
      intro i hi hp
      subst hi
      by_cases hl : i < n
      · rcases hc again i hl with h | ⟨h1, h2⟩
        · exact h
        · rw [h2]
          refine ih _ (by omega) (i + 1) rfl (fun j hj hjn => ?_)
          by_cases e : j = i
          · subst e; exact h1
          · exact hp j (by omega) hjn
      · rw [he again i (by omega)]
        exact ho (fun j hj => hp j (by omega) hj)) N0 0 (by omega) 0 rfl (fun j hj => by omega)
  exact key
theorem outP_len (rows : List (List Int)) (L : Nat) : ∀ (n i : Nat) T B, (outP rows L n i T B).length = n := by
  intro n
  induction n with
  | zero => intro i T B; rfl
  | succ n ih =>
    intro i T B
    unfold outP
    split
    · simp [ih]
    · simp [ih]
theorem both_eq {l : List Str} (h1 : l.length ≤ 24) (h2 : ∀ s ∈ l, s.size ≤ 2000) : ∃ x, sc_Mnemonics l = some (x, 0) ∧ r32_Mnemonics l = some (x, 0) ∧ x.length = l.length := by
  have a := Mnemonics_eq l
  have b := RMnemonics_eq l
  rw [if_pos ⟨h1, h2⟩] at a b
  exact ⟨_, a, b, outP_len _ _ _ _ _ _⟩
theorem letters_true (a0 : List Str) (a1 : List Int) : l32_ShortcutLetters a0 a1 = some true := by
  unfold l32_ShortcutLetters
  by_cases h10 : a0.length ≤ 10
  · have : decide ((a0.length : Int) > 10) = false := decide_eq_false (by omega)
    rw [this, sel_false, jn_eq]
    have hN : a0.length < N0 := by unfold N0; omega
    refine allLoop (n := a0.length) hN (fun i => ∀ x, a0[i]? = some x → x.size ≤ 20) (fun again i hi => ?_) (fun again i hi => by unfold l32_ShortcutLetters_L4; rw [nz_ge hi, sel_false]) (fun hall => ?_)
    · unfold l32_ShortcutLetters_L4
      rw [nz_lt hi, sel_true, idxO_nat, List.getElem?_eq_getElem hi, bind_some']
      by_cases hz : a0[i].size ≤ 20
      · have : decide ((a0[i].size : Int) > 20) = false := decide_eq_false (by omega)
        rw [this, sel_false, wrap_suc hi hN]
        exact .inr ⟨fun x hx => by cases hx; exact hz, rfl⟩
      · have : decide ((a0[i].size : Int) > 20) = true := decide_eq_true (by omega)
        rw [this, sel_true]
        exact .inl rfl
    · have hall : ∀ x ∈ a0, x.size ≤ 20 := fun x hx => by
        obtain ⟨j, hj⟩ := List.getElem?_of_mem hx
        exact hall j (List.getElem?_eq_some_iff.1 hj).1 x hj
      obtain ⟨s0, e0, k0⟩ := New_ok a1
      rw [e0, bind_some', jn_eq]
      obtain ⟨r2, s2, e2, a2, b2, k2⟩ := N_ok (n := 8) k0 (by decide) (by decide)
      rw [e2, bind_some']
      obtain ⟨m, rfl⟩ : ∃ m : Nat, r2 = m := ⟨r2.toNat, by omega⟩
      have hB0 : ∀ (kk : List Str → Option Bool) again s, l32_ShortcutLetters_L3 kk again s = sel (decide (s.2.1 > 0)) ((b_Src_Word (widgetrybase_Src.mk s.2.2.1 s.2.2.2) 4).bind fun x32 => (b_Src_N x32.2 5).bind fun x33 => (idxO [(ByteArray.mk #[]), (ByteArray.mk #[65]), (ByteArray.mk #[66]), (ByteArray.mk #[32, 49]), (ByteArray.mk #[45])] x33.1).bind fun x34 => (catO x32.1 x34).bind fun x35 => (appO s.1 ([x35])).bind fun x36 => again (x36, IntKind.i64.wrap (s.2.1 - 1), x33.2.L, x33.2.At)) (kk s.1) := fun kk again s => by unfold l32_ShortcutLetters_L3; rfl
      refine few_ok (n := 5) (w := 4) (L0 := [(ByteArray.mk #[]), (ByteArray.mk #[65]), (ByteArray.mk #[66]), (ByteArray.mk #[32, 49]), (ByteArray.mk #[45])]) (by decide) (by decide) (by decide) rfl (by decide) (by decide) (hB0 _) (by omega) k2 (fun few hm hs => ?_)
      rw [jn_eq]
      have hlists : ∀ l ∈ [a0, few], l.length ≤ 24 ∧ ∀ s ∈ l, s.size ≤ 2000 := by
        intro l hl
        simp at hl
        rcases hl with rfl | rfl
        · exact ⟨by omega, fun s h => by have := hall s h; omega⟩
        · exact ⟨by omega, fun s h => by have := hs s h; omega⟩
      refine allLoop (n := 2) (by unfold N0; omega) (fun _ => True) (fun again i hi => .inr ⟨trivial, ?_⟩) (fun again i hi => by unfold l32_ShortcutLetters_L2; rw [show decide ((i : Int) < (([a0, few]).length : Int)) = false from nz_ge hi, sel_false]) (fun _ => by rw [awake_true]; rfl)
      unfold l32_ShortcutLetters_L2
      have hi' : i < [a0, few].length := hi
      have hm' := hlists _ (List.getElem_mem hi')
      rw [show decide ((i : Int) < (([a0, few]).length : Int)) = true from nz_lt hi', sel_true, jn_eq, idxO_nat, List.getElem?_eq_getElem hi', bind_some']
      generalize [a0, few][i] = l at hm'
      obtain ⟨x, hx1, hx2, hxl⟩ := both_eq hm'.1 hm'.2
      have hw := wrap_suc (i := i) (n := 2) hi (by unfold N0; omega)
      have hl24 := hm'.1
      rw [hx1, bind_some', bind_some', hx2, bind_some', hw]
      have e1 : (((0 : Int) != 0) || ((x.length : Int) != (x.length : Int))) = false := by simp
      dsimp only
      rw [e1, sel_false, jn_eq]
      have hxN : x.length < N0 := by unfold N0; omega
      rw [rangeI (L := x) (k := again ((i + 1 : Nat) : Int)) (fun _ _ => .inr ()) hxN]
      · have : ∀ (t : List Int) (i : Nat) (k : Unit → Option Bool), scanL (fun (_ : Nat) (_ : Int) (_ : Unit) => (.inr () : Option Bool ⊕ Unit)) k i t () = k () := by
          intro t
          induction t with
          | nil => intro i k; rfl
          | cons y t ih => intro i k; exact ih (i + 1) k
        rw [this]
      · intro ag j y hy hj
        unfold l32_ShortcutLetters_L1
        rw [nz_lt hj, sel_true, idxO_nat, hy, bind_some', bind_some', wrap_suc hj hxN]
        simp
      · intro ag j hj
        unfold l32_ShortcutLetters_L1
        rw [nz_ge hj, sel_false]
  · have : decide ((a0.length : Int) > 10) = true := decide_eq_true (by omega)
    rw [this, sel_true]
end Go.Proofs.YtodddfoehcfcnaaDoor

/-
  Matchings of labels and letters, plainly: the search for a larger matching finds one if there is one. No program in sight.
-/
import Derived.Test.YtodddfoehcfcnaaDoorQ1
namespace Go.E2
open Go
/-! ### counting -/
def cntN (p : Nat → Bool) : Nat → Nat
  | 0 => 0
  | n + 1 => cntN p n + (p n).toNat
theorem cntN_congr {p q : Nat → Bool} : ∀ {n : Nat}, (∀ l, l < n → p l = q l) → cntN p n = cntN q n
  | 0, _ => rfl
  | n + 1, h => by
    unfold cntN
    rw [cntN_congr (fun l hl => h l (by omega)), h n (by omega)]
theorem cntN_add {p q r : Nat → Bool} : ∀ {n : Nat}, (∀ l, l < n → (p l).toNat = (q l).toNat + (r l).toNat) → cntN p n = cntN q n + cntN r n
  | 0, _ => rfl
  | n + 1, h => by
    unfold cntN
    have := cntN_add (n := n) (fun l hl => h l (by omega))
    have := h n (by omega)
    omega
theorem cntN_le {p q : Nat → Bool} : ∀ {n : Nat}, (∀ l, l < n → p l = true → q l = true) → cntN p n ≤ cntN q n
  | 0, _ => Nat.le_refl _
  | n + 1, h => by
    unfold cntN
    have h1 := cntN_le (n := n) (fun l hl => h l (by omega))
    have h2 := h n (by omega)
    cases hp : p n with
    | false => simp; omega
    | true => rw [h2 hp]; omega
theorem cntN_le_n {p : Nat → Bool} : ∀ {n : Nat}, cntN p n ≤ n
  | 0 => Nat.le_refl _
  | n + 1 => by
    unfold cntN
    have := cntN_le_n (p := p) (n := n)
    have : (p n).toNat ≤ 1 := Bool.toNat_le _
    omega
theorem cntN_zero {p : Nat → Bool} : ∀ {n : Nat}, cntN p n = 0 → ∀ l, l < n → p l = false
  | 0, _, l, hl => by omega
  | n + 1, h, l, hl => by
    unfold cntN at h
    by_cases e : l = n
    · subst e
      cases hp : p l with
      | false => rfl
      | true => rw [hp] at h; simp at h
    · exact cntN_zero (n := n) (by omega) l (by omega)
theorem cntN_none {p : Nat → Bool} : ∀ {n : Nat}, (∀ l, l < n → p l = false) → cntN p n = 0
  | 0, _ => rfl
  | n + 1, h => by
    unfold cntN
    rw [cntN_none (n := n) (fun l hl => h l (by omega)), h n (by omega)]; rfl
theorem cntN_pos {p : Nat → Bool} {n : Nat} (h : 0 < cntN p n) : ∃ l, l < n ∧ p l = true := by
  induction n with
  | zero => simp [cntN] at h
  | succ n ih =>
    unfold cntN at h
    cases hp : p n with
    | true => exact ⟨n, by omega, hp⟩
    | false =>
      rw [hp] at h
      obtain ⟨l, h1, h2⟩ := ih (by simpa using h)
      exact ⟨l, by omega, h2⟩
theorem cntN_has {p : Nat → Bool} : ∀ {n l : Nat}, l < n → p l = true → 0 < cntN p n
  | 0, _, h, _ => by omega
  | n + 1, l, h, hp => by
    unfold cntN
    by_cases e : l = n
    · subst e; rw [hp]; simp
    · have := cntN_has (n := n) (l := l) (by omega) hp; omega
theorem cntN_inj {p : Nat → Bool} : ∀ {n : Nat}, cntN p n ≤ 1 → ∀ l l', l < n → l' < n → p l = true → p l' = true → l = l'
  | 0, _, l, _, h, _, _, _ => by omega
  | n + 1, h, l, l', hl, hl', hp, hp' => by
    unfold cntN at h
    by_cases e : l = n
    · by_cases e' : l' = n
      · omega
      · have := cntN_has (n := n) (l := l') (by omega) hp'
        subst e; rw [hp] at h; simp at h; omega
    · by_cases e' : l' = n
      · have := cntN_has (n := n) (l := l) (by omega) hp
        subst e'; rw [hp'] at h; simp at h; omega
      · exact cntN_inj (n := n) (by omega) l l' (by omega) (by omega) hp hp'
theorem cntN_one {p : Nat → Bool} : ∀ {n : Nat}, (∀ l l', l < n → l' < n → p l = true → p l' = true → l = l') → cntN p n ≤ 1
  | 0, _ => by unfold cntN; omega
  | n + 1, h => by
    unfold cntN
    cases hp : p n with
    | false => have := cntN_one (n := n) (fun l l' a b c d => h l l' (by omega) (by omega) c d); simpa using this
    | true =>
      rw [cntN_none (n := n) (fun l hl => by
        cases hq : p l with
        | false => rfl
        | true => have := h l n (by omega) (by omega) hq hp; omega)]
      simp
theorem cntN_upd {p q : Nat → Bool} {c : Nat} (h : ∀ l, l ≠ c → p l = q l) : ∀ {n : Nat}, c < n → cntN p n + (q c).toNat = cntN q n + (p c).toNat
  | 0, hc => by omega
  | n + 1, hc => by
    unfold cntN
    by_cases e : c = n
    · subst e
      rw [cntN_congr (p := p) (q := q) (n := c) (fun l hl => h l (by omega))]; omega
    · have := cntN_upd h (n := n) (by omega)
      rw [h n (fun e' => e e'.symm)]; omega

/-! ### the search -/
abbrev Own := Nat → Int
abbrev Seen := Nat → Bool
def kuhnL (self : Own → Seen → Int → Option (Bool × Own × Seen)) (k : Int) : List Nat → Own → Seen → Option (Bool × Own × Seen)
  | [], w, s => some (false, w, s)
  | c :: cs, w, s => if s c = true then kuhnL self k cs w s else
      if w c < 0 then some (true, upd w c k, upd s c true) else
        match self w (upd s c true) (w c) with
        | none => none
        | some (true, w', s') => some (true, upd w' c k, s')
        | some (false, w', s') => kuhnL self k cs w' s'
def kuhn (E : Nat → List Nat) (L : Nat) : Nat → Own → Seen → Int → Option (Bool × Own × Seen)
  | 0, _, _, _ => none
  | n + 1, w, s, k => if 0 ≤ k ∧ k < L then kuhnL (kuhn E L n) k (E k.toNat) w s else none
/-- the letters that label b owns -/
def cB (w : Own) (b : Nat) : Nat := cntN (fun l => decide (w l = (b : Int))) 36
def sz (w : Own) : Nat := cntN (fun l => decide (0 ≤ w l)) 36
def uns (s : Seen) : Nat := cntN (fun l => !s l) 36
structure Res (E : Nat → List Nat) (ls : List Nat) (k : Nat) (w : Own) (s : Seen) (r : Bool × Own × Seen) : Prop where
  mono : ∀ l, s l = true → r.2.2 l = true
  fail : r.1 = false → r.2.1 = w ∧ (∀ l ∈ ls, r.2.2 l = true) ∧ ∀ c, r.2.2 c = true → s c = false → 0 ≤ w c ∧ ∀ l ∈ E (w c).toNat, r.2.2 l = true
  ok : r.1 = true → (∀ l, s l = true → r.2.1 l = w l) ∧ (∀ l, r.2.1 l = w l ∨ ∃ a : Nat, r.2.1 l = (a : Int) ∧ l ∈ E a) ∧ (∀ b : Nat, cB r.2.1 b = cB w b + (decide (b = k)).toNat) ∧ sz r.2.1 = sz w + 1
theorem upd_self {α : Type} {f : Nat → α} {i : Nat} {x : α} : upd f i x i = x := by simp [upd]
theorem upd_ne {α : Type} {f : Nat → α} {i j : Nat} {x : α} (h : j ≠ i) : upd f i x j = f j := by simp [upd, h]
theorem cB_upd {w : Own} {c : Nat} {k b : Nat} (hc : c < 36) : cB (upd w c (k : Int)) b + (decide (w c = (b : Int))).toNat = cB w b + (decide (b = k)).toNat := by
  have := cntN_upd (p := fun l => decide (upd w c (k : Int) l = (b : Int))) (q := fun l => decide (w l = (b : Int))) (c := c) (fun l hl => by simp only [upd_ne hl]) hc
  simp only [upd_self] at this
  unfold cB
  rw [this]
  congr 2
  by_cases h : b = k
  · subst h; simp
  · have : ¬ (k : Int) = (b : Int) := by omega
    simp [h, this]
theorem sz_upd {w : Own} {c : Nat} {k : Nat} (hc : c < 36) : sz (upd w c (k : Int)) + (decide (0 ≤ w c)).toNat = sz w + 1 := by
  have := cntN_upd (p := fun l => decide (0 ≤ upd w c (k : Int) l)) (q := fun l => decide (0 ≤ w l)) (c := c) (fun l hl => by simp only [upd_ne hl]) hc
  simp only [upd_self] at this
  unfold sz
  rw [this]
  simp
theorem uns_upd {s : Seen} {c : Nat} (hc : c < 36) (h : s c = false) : uns (upd s c true) + 1 = uns s := by
  have := cntN_upd (p := fun l => !(upd s c true l)) (q := fun l => !s l) (c := c) (fun l hl => by simp only [upd_ne hl]) hc
  simp only [upd_self, h] at this
  unfold uns
  simpa using this
theorem uns_le {s s' : Seen} (h : ∀ l, s l = true → s' l = true) : uns s' ≤ uns s := by
  refine cntN_le (fun l _ hl => ?_)
  cases hs : s l with
  | false => rfl
  | true => rw [h l hs] at hl; simp at hl
theorem kuhn_spec {E : Nat → List Nat} {L : Nat} (hE : ∀ a, ∀ l ∈ E a, l < 36) : ∀ (n : Nat) (w : Own) (s : Seen) (k : Nat), uns s < n → k < L → (∀ l, l < 36 → w l < L) → ∃ r, kuhn E L n w s (k : Int) = some r ∧ Res E (E k) k w s r := by
  intro n
  induction n with
  | zero => intro w s k h; omega
  | succ n ih =>
    intro w s k hu hk hw
    unfold kuhn
    rw [if_pos ⟨by omega, by omega⟩, Int.toNat_natCast]
    have main : ∀ (ls : List Nat), (∀ l ∈ ls, l ∈ E k) → ∀ (s : Seen), uns s ≤ n → ∃ r, kuhnL (kuhn E L n) (k : Int) ls w s = some r ∧ Res E ls k w s r := by
      intro ls
      induction ls with
      | nil =>
        intro _ s _
        refine ⟨(false, w, s), rfl, ⟨fun l h => h, fun _ => ⟨rfl, fun l hl => (by cases hl), fun c h1 h2 => ?_⟩, fun h => (by cases h)⟩⟩
        dsimp only at h1; rw [h1] at h2; cases h2
      | cons c cs ihc =>
        intro hls s hu
        have hcE : c ∈ E k := hls c (by simp)
        have hc : c < 36 := hE k c hcE
        unfold kuhnL
        by_cases hs : s c = true
        · rw [if_pos hs]
          obtain ⟨r, h1, h2⟩ := ihc (fun l hl => hls l (by simp [hl])) s hu
          refine ⟨r, h1, ⟨h2.mono, fun h => ?_, h2.ok⟩⟩
          obtain ⟨a, b, d⟩ := h2.fail h
          refine ⟨a, fun l hl => ?_, d⟩
          rcases List.mem_cons.1 hl with e | e
          · subst e; exact h2.mono l hs
          · exact b l e
        · rw [if_neg hs]
          have hsf : s c = false := by simpa using hs
          have hu1 := uns_upd hc hsf
          have hmono : ∀ l, s l = true → upd s c true l = true := fun l hl => by
            by_cases e : l = c
            · subst e; exact upd_self
            · rw [upd_ne e]; exact hl
          by_cases hwc : w c < 0
          · rw [if_pos hwc]
            refine ⟨_, rfl, ⟨hmono, fun h => (by cases h), fun _ => ⟨fun l hl => ?_, fun l => ?_, fun b => ?_, ?_⟩⟩⟩
            · exact upd_ne (fun e => by subst e; rw [hsf] at hl; cases hl)
            · by_cases e : l = c
              · subst e; exact .inr ⟨k, upd_self, hcE⟩
              · exact .inl (upd_ne e)
            · have h1 := cB_upd (w := w) (k := k) (b := b) hc
              have h2 : decide (w c = (b : Int)) = false := by simp; omega
              rw [h2] at h1; simpa using h1
            · have h1 := sz_upd (w := w) (k := k) hc
              have h2 : decide (0 ≤ w c) = false := by simp; omega
              rw [h2] at h1; simpa using h1
          · rw [if_neg hwc]
            obtain ⟨a, ha⟩ : ∃ a : Nat, w c = (a : Int) := ⟨(w c).toNat, by omega⟩
            have hwL := hw c hc
            obtain ⟨r, h1, h2⟩ := ih w (upd s c true) a (by omega) (by omega) hw
            rw [ha, h1]
            obtain ⟨b, w', s'⟩ := r
            cases b with
            | true =>
              obtain ⟨o1, o2, o3, o4⟩ := h2.ok rfl
              dsimp only at o1 o2 o3 o4 ⊢
              have hc' : w' c = (a : Int) := (o1 c upd_self).trans ha
              refine ⟨_, rfl, ⟨fun l hl => h2.mono l (hmono l hl), fun h => (by cases h), fun _ => ⟨fun l hl => ?_, fun l => ?_, fun b => ?_, ?_⟩⟩⟩
              · dsimp only
                rw [upd_ne (fun e => by subst e; rw [hsf] at hl; cases hl)]
                exact o1 l (hmono l hl)
              · dsimp only
                by_cases e : l = c
                · subst e; exact .inr ⟨k, upd_self, hcE⟩
                · rw [upd_ne e]; exact o2 l
              · dsimp only
                have h3 := cB_upd (w := w') (k := k) (b := b) hc
                rw [hc', o3 b] at h3
                have h4 : decide ((a : Int) = (b : Int)) = decide (b = a) := by
                  by_cases e : b = a
                  · subst e; simp
                  · have : ¬ (a : Int) = (b : Int) := by omega
                    simp [e, this]
                rw [h4] at h3; omega
              · dsimp only
                have h3 := sz_upd (w := w') (k := k) hc
                have h4 : decide (0 ≤ w' c) = true := by rw [hc']; simp
                rw [h4, o4] at h3; simp at h3; omega
            | false =>
              obtain ⟨f1, f2, f3⟩ := h2.fail rfl
              dsimp only at f1 f2 f3 ⊢
              subst f1
              have hm := h2.mono
              dsimp only at hm
              obtain ⟨r', h3, h4⟩ := ihc (fun l hl => hls l (by simp [hl])) s' (by have := uns_le hm; omega)
              have hcs : s' c = true := hm c upd_self
              refine ⟨r', h3, ⟨fun l hl => h4.mono l (hm l (hmono l hl)), fun h => ?_, fun h => ?_⟩⟩
              · obtain ⟨g1, g2, g3⟩ := h4.fail h
                refine ⟨g1, fun l hl => ?_, fun x hx hxs => ?_⟩
                · rcases List.mem_cons.1 hl with e | e
                  · subst e; exact h4.mono l hcs
                  · exact g2 l e
                · by_cases hx' : s' x = true
                  · by_cases e : x = c
                    · subst e
                      refine ⟨by omega, fun l hl => h4.mono l ?_⟩
                      rw [ha, Int.toNat_natCast] at hl
                      exact f2 l hl
                    · obtain ⟨q1, q2⟩ := f3 x hx' (by rw [upd_ne e]; exact hxs)
                      exact ⟨q1, fun l hl => h4.mono l (q2 l hl)⟩
                  · exact g3 x hx (by simpa using hx')
              · obtain ⟨g1, g2, g3, g4⟩ := h4.ok h
                exact ⟨fun l hl => g1 l (hm l (hmono l hl)), g2, g3, g4⟩
    exact main (E k) (fun l hl => hl) s (by omega)

/-! ### largest matchings -/
def Mat (E : Nat → List Nat) (lo hi : Nat) (m : Own) : Prop :=
  (∀ l, l < 36 → 0 ≤ m l → (lo : Int) ≤ m l ∧ m l < (hi : Int) ∧ l ∈ E (m l).toNat) ∧ (∀ l l', l < 36 → l' < 36 → 0 ≤ m l → m l = m l' → l = l')
def IsMax (E : Nat → List Nat) (lo hi : Nat) (m : Own) : Prop := Mat E lo hi m ∧ ∀ m', Mat E lo hi m' → sz m' ≤ sz m
theorem IsMax.size {E : Nat → List Nat} {lo hi : Nat} {m m' : Own} (h : IsMax E lo hi m) (h' : IsMax E lo hi m') : sz m = sz m' := Nat.le_antisymm (h'.2 m h.1) (h.2 m' h'.1)
theorem isMax_nil {E : Nat → List Nat} {lo : Nat} {w : Own} (hw : ∀ l, l < 36 → w l < 0) : IsMax E lo lo w := by
  refine ⟨⟨fun l hl h => (by have := hw l hl; omega), fun l l' hl _ h => (by have := hw l hl; omega)⟩, fun m hm => ?_⟩
  unfold sz
  rw [cntN_none (p := fun l => decide (0 ≤ m l)) (fun l hl => ?_)]
  · omega
  · cases h : decide (0 ≤ m l) with
    | false => rfl
    | true =>
      have := hm.1 l hl (of_decide_eq_true h); omega
theorem kuhn_step {E : Nat → List Nat} {lo k : Nat} {w : Own} {r : Bool × Own × Seen} (hlo : lo ≤ k) (hm : IsMax E lo k w) (h : Res E (E k) k w (fun _ => false) r) : IsMax E lo (k + 1) r.2.1 ∧ sz r.2.1 = sz w + r.1.toNat := by
  obtain ⟨⟨m1, m2⟩, mx⟩ := hm
  cases hb : r.1 with
  | false =>
    obtain ⟨f1, f2, f3⟩ := h.fail hb
    rw [f1]
    refine ⟨⟨⟨fun l hl h0 => ?_, m2⟩, fun m hm => ?_⟩, by simp⟩
    · obtain ⟨a, b, c⟩ := m1 l hl h0
      exact ⟨a, by omega, c⟩
    · obtain ⟨n1, n2⟩ := hm
      have : Mat E lo k (fun l => if r.2.2 l = true then w l else m l) := by
        refine ⟨fun l hl h0 => ?_, fun l l' hl hl' h0 he => ?_⟩
        · dsimp only at h0 ⊢
          by_cases hs : r.2.2 l = true
          · rw [if_pos hs] at h0 ⊢; exact m1 l hl h0
          · rw [if_neg hs] at h0 ⊢
            obtain ⟨a, b, c⟩ := n1 l hl h0
            refine ⟨a, ?_, c⟩
            by_cases h' : m l < (k : Int)
            · exact h'
            · have e : m l = (k : Int) := by omega
              rw [e, Int.toNat_natCast] at c
              exact absurd (f2 l c) hs
        · dsimp only at h0 he
          by_cases hs : r.2.2 l = true
          · rw [if_pos hs] at h0 he
            by_cases hs' : r.2.2 l' = true
            · rw [if_pos hs'] at he; exact m2 l l' hl hl' h0 he
            · rw [if_neg hs'] at he
              obtain ⟨_, q⟩ := f3 l hs rfl
              have := (n1 l' hl' (by omega)).2.2
              rw [← he] at this
              exact absurd (q l' this) hs'
          · rw [if_neg hs] at h0 he
            by_cases hs' : r.2.2 l' = true
            · rw [if_pos hs'] at he
              obtain ⟨_, q⟩ := f3 l' hs' rfl
              have := (n1 l hl h0).2.2
              rw [he] at this
              exact absurd (q l this) hs
            · rw [if_neg hs'] at he; exact n2 l l' hl hl' h0 he
      refine Nat.le_trans ?_ (mx _ this)
      refine cntN_le (fun l _ h0 => ?_)
      have h0 := of_decide_eq_true h0
      refine decide_eq_true ?_
      dsimp only
      by_cases hs : r.2.2 l = true
      · rw [if_pos hs]; exact (f3 l hs rfl).1
      · rw [if_neg hs]; exact h0
  | true =>
    obtain ⟨_, o2, o3, o4⟩ := h.ok hb
    have cw : ∀ b : Nat, cB w b ≤ 1 := fun b => cntN_one (fun l l' hl hl' p p' => by
      have p := of_decide_eq_true p
      have p' := of_decide_eq_true p'
      exact m2 l l' hl hl' (by omega) (by omega))
    have ck : cB w k = 0 := cntN_none (fun l hl => by
      refine decide_eq_false (fun e => ?_)
      have := m1 l hl (by omega); omega)
    have c' : ∀ b : Nat, cB r.2.1 b ≤ 1 := fun b => by
      rw [o3 b]
      by_cases e : b = k
      · subst e; rw [ck]; simp
      · have := cw b; simp [e]; exact this
    refine ⟨⟨⟨fun l hl h0 => ?_, fun l l' hl hl' h0 he => ?_⟩, fun m hm => ?_⟩, by rw [o4]; rfl⟩
    · obtain ⟨b, hbb⟩ : ∃ b : Nat, r.2.1 l = (b : Int) := ⟨(r.2.1 l).toNat, by omega⟩
      have hpos : 0 < cB r.2.1 b := cntN_has hl (decide_eq_true hbb)
      have hbnd : lo ≤ b ∧ b < k + 1 := by
        by_cases e : b = k
        · omega
        · rw [o3 b] at hpos
          simp [e] at hpos
          obtain ⟨l2, h2, h3⟩ := cntN_pos hpos
          have h3 := of_decide_eq_true h3
          have := m1 l2 h2 (by omega); omega
      rw [hbb, Int.toNat_natCast]
      refine ⟨by omega, by omega, ?_⟩
      rcases o2 l with e | ⟨a, e, ea⟩
      · have := (m1 l hl (by omega)).2.2
        rw [← e, hbb, Int.toNat_natCast] at this; exact this
      · have : a = b := by omega
        subst this; exact ea
    · obtain ⟨b, hbb⟩ : ∃ b : Nat, r.2.1 l = (b : Int) := ⟨(r.2.1 l).toNat, by omega⟩
      exact cntN_inj (c' b) l l' hl hl' (decide_eq_true hbb) (decide_eq_true (by omega))
    · obtain ⟨n1, n2⟩ := hm
      have : Mat E lo k (fun l => if m l = (k : Int) then -1 else m l) := by
        refine ⟨fun l hl h0 => ?_, fun l l' hl hl' h0 he => ?_⟩
        · dsimp only at h0 ⊢
          by_cases e : m l = (k : Int)
          · rw [if_pos e] at h0; omega
          · rw [if_neg e] at h0 ⊢
            obtain ⟨a, b, c⟩ := n1 l hl h0
            exact ⟨a, by omega, c⟩
        · dsimp only at h0 he
          by_cases e : m l = (k : Int)
          · rw [if_pos e] at h0; omega
          · rw [if_neg e] at h0 he
            by_cases e' : m l' = (k : Int)
            · rw [if_pos e'] at he; omega
            · rw [if_neg e'] at he; exact n2 l l' hl hl' h0 he
      have h1 := mx _ this
      have h2 : sz m = sz (fun l => if m l = (k : Int) then -1 else m l) + cB m k := cntN_add (fun l _ => by
        by_cases e : m l = (k : Int)
        · simp [e]
        · simp [e])
      have h3 : cB m k ≤ 1 := cntN_one (fun l l' hl hl' p p' => by
        have p := of_decide_eq_true p
        have p' := of_decide_eq_true p'
        exact n2 l l' hl hl' (by omega) (by omega))
      rw [o4]; omega
end Go.E2

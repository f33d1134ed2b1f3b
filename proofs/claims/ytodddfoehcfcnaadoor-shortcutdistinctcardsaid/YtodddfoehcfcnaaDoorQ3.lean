/-
  Feed and Conflicts, plainly, part two: the law of the feeds. No program in sight.
-/
import Derived.Test.YtodddfoehcfcnaaDoorQ2
import Derived.Laws.Bits64
namespace Go.Proofs.YtodddfoehcfcnaaDoor
open Go Go.E2
theorem findP_cases (l : List Shortcut) (keys : List Chord) (sc : List Int) : (∃ n, findP l keys sc = (n, 2)) ∨ findP l keys sc = (0, 1) ∨ findP l keys sc = (0, 0) := by
  induction sc with
  | nil => exact .inr (.inr rfl)
  | cons s t ih =>
    unfold findP
    rcases scanS s keys l false with n | b
    · exact .inl ⟨n, rfl⟩
    · cases b
      · exact ih
      · exact .inr (.inl rfl)
def foldC (c : Chord) : Chord := if c.Key ≥ 65 ∧ c.Key ≤ 90 then ⟨IntKind.i64.wrap (c.Key + 32), bOr .i64 c.Mods 4⟩ else c
def feedP (rest : List Chord) (c : Chord) (t : Int) (l : List Shortcut) (sc : List Int) : PendingKeys × Int × Int :=
  if rest = [] then matchP [c] t (findP l [c] sc)
  else if (findP l (rest ++ [c]) sc).2 = 0 then matchP [c] t (findP l [c] sc) else matchP (rest ++ [c]) t (findP l (rest ++ [c]) sc)
def liveP (p : PendingKeys) (t : Int) : List Chord := if p.Time ≤ t ∧ t - p.Time ≤ 1500 then p.Keys else []
theorem feed1 {l : List Shortcut} {sc : List Int} {t : Int} {ks : List (List Chord)} (hl : l.length < N0) (hs : sc.length < N0) (hk : ∀ x ∈ ks, x.length < N0) (hn : ks.length < N0) :
    loopK (sc_Feed_L1 l sc t ks fun _ => some (PendingKeys.mk [] 0, 0, 0)) N0 0 = scanL (R := PendingKeys × Int × Int) (fun _ x _ => if (findP l x sc).2 = 0 then .inr () else .inl (some (matchP x t (findP l x sc)))) (fun _ => some (PendingKeys.mk [] 0, 0, 0)) 0 ks () := by
  rw [rangeI (R := PendingKeys × Int × Int) (L := ks) (k := some (PendingKeys.mk [] 0, 0, 0)) (fun _ x => if (findP l x sc).2 = 0 then .inr () else .inl (some (matchP x t (findP l x sc)))) hn]
  · intro again i x hx hi
    have hm : x ∈ ks := List.mem_of_getElem? hx
    unfold sc_Feed_L1
    dsimp only
    rw [nz_lt hi, sel_true, idxO_nat, hx, bind_some', find_eq hl (hk x hm) hs, bind_some', wrap_suc hi hn]
    rcases findP_cases l x sc with ⟨n, h⟩ | h | h
    · rw [h]; rfl
    · rw [h]; rfl
    · rw [h]; rfl
  · intro again i hi
    unfold sc_Feed_L1
    dsimp only
    rw [nz_ge hi, sel_false]
theorem Feed_eq {p : PendingKeys} {l : List Shortcut} {sc : List Int} {c : Chord} {t : Int} (hl : l.length < N0) (hs : sc.length < N0) (hp : p.Keys.length ≤ 1000000)
    (h1 : -1152921504606846976 ≤ p.Time) (h2 : p.Time ≤ 1152921504606846976) (h3 : -1152921504606846976 ≤ t) (h4 : t ≤ 1152921504606846976) :
    sc_Feed p l sc c t = some (feedP (liveP p t) (foldC c) t l sc) := by
  have hlive : (liveP p t).length ≤ 1000000 := by
    unfold liveP; split
    · exact hp
    · simp
  have main : ∀ (c : Chord) (rest : List Chord), rest.length ≤ 1000000 → ((slices_Clone_Sl_Chord_Chord rest).bind fun x5 => (appO x5 ([(Chord.mk c.Key c.Mods)])).bind fun x6 => jn (fun (s7 : (List (List Chord))) => jn (fun (s9 : Unit) => some ((PendingKeys.mk ([] : (List Chord)) 0), 0, 0)) fun k10 => loopK (sc_Feed_L1 l sc t s7 k10) N0 0) fun k8 => sel (decide ((rest.length : Int) > 0)) ((appO ([x6]) ([[(Chord.mk c.Key c.Mods)]])).bind fun x19 => k8 x19) (k8 ([x6]))) = some (feedP rest c t l sc) := by
    intro c rest hr
    unfold slices_Clone_Sl_Chord_Chord
    have hN : (1000001 : Nat) < N0 := by unfold N0; omega
    rw [appO_eq (by simp; omega), bind_some', List.nil_append, appO_eq (by simp; omega), bind_some']
    simp only [jn_eq]
    unfold feedP
    cases rest with
    | nil =>
      have : decide ((([] : List Chord).length : Int) > 0) = false := rfl
      rw [this, sel_false]; simp only []
      rw [feed1 hl hs (by intro x hx; simp at hx; subst hx; simp; unfold N0; omega) (by simp; unfold N0; omega), if_pos trivial]
      unfold scanL
      rcases findP_cases l [c] sc with ⟨n, h⟩ | h | h <;> · simp only [List.nil_append]; rw [show Chord.mk c.Key c.Mods = c from rfl, h]; rfl
    | cons y ys =>
      have : decide (((y :: ys).length : Int) > 0) = true := decide_eq_true (by rw [List.length_cons]; omega)
      rw [this, sel_true, appO_eq (by simp), bind_some']
      rw [feed1 hl hs (by intro x hx; simp at hx hr; rcases hx with hx | hx <;> subst hx <;> simp <;> unfold N0 <;> omega) (by simp; unfold N0; omega), if_neg (by simp)]
      rw [show Chord.mk c.Key c.Mods = c from rfl]
      rw [show [y :: ys ++ [c]] ++ [[c]] = (y :: ys ++ [c]) :: [[c]] from rfl]
      by_cases h0 : (findP l (y :: ys ++ [c]) sc).2 = 0
      · rw [scanL_r (s' := ()) (if_pos h0), if_pos h0]
        rcases findP_cases l [c] sc with ⟨n, h⟩ | h | h
        · rw [scanL_l (r := some (matchP [c] t (findP l [c] sc))) (if_neg (by rw [h]; simp))]
        · rw [scanL_l (r := some (matchP [c] t (findP l [c] sc))) (if_neg (by rw [h]; simp))]
        · rw [scanL_r (s' := ()) (if_pos (by rw [h])), h]; rfl
      · rw [scanL_l (if_neg h0), if_neg h0]
  unfold sc_Feed
  rw [jn_eq]
  have two : ∀ c : Chord, (jn (fun (s3 : (List Chord)) => (slices_Clone_Sl_Chord_Chord s3).bind fun x5 => (appO x5 ([(Chord.mk c.Key c.Mods)])).bind fun x6 => jn (fun (s7 : (List (List Chord))) => jn (fun (s9 : Unit) => some ((PendingKeys.mk ([] : (List Chord)) 0), 0, 0)) fun k10 => loopK (sc_Feed_L1 l sc t s7 k10) N0 0) fun k8 => sel (decide ((s3.length : Int) > 0)) ((appO ([x6]) ([[(Chord.mk c.Key c.Mods)]])).bind fun x19 => k8 x19) (k8 ([x6]))) fun k4 => sel ((decide (t < p.Time)) || (decide ((IntKind.u64.wrap ((IntKind.u64.wrap t) - (IntKind.u64.wrap p.Time))) > 1500))) (k4 ([] : (List Chord))) (k4 p.Keys)) = some (feedP (liveP p t) c t l sc) := by
    intro c
    rw [jn_eq]
    by_cases hT : p.Time ≤ t ∧ t - p.Time ≤ 1500
    · have : ((decide (t < p.Time)) || (decide ((IntKind.u64.wrap ((IntKind.u64.wrap t) - (IntKind.u64.wrap p.Time))) > 1500))) = false := by
        simp only [IntKind.wrap_u64, Bool.or_eq_false_iff, decide_eq_false_iff_not]; omega
      rw [this, sel_false]; unfold liveP; rw [if_pos hT]; exact main c p.Keys hp
    · have : ((decide (t < p.Time)) || (decide ((IntKind.u64.wrap ((IntKind.u64.wrap t) - (IntKind.u64.wrap p.Time))) > 1500))) = true := by
        simp only [IntKind.wrap_u64, Bool.or_eq_true, decide_eq_true_eq]; omega
      rw [this, sel_true]; unfold liveP; rw [if_neg hT]; exact main c [] (by simp)
  by_cases hc : c.Key ≥ 65 ∧ c.Key ≤ 90
  · have : ((decide (c.Key ≥ 65)) && (decide (c.Key ≤ 90))) = true := by simp [hc.1, hc.2]
    rw [this, sel_true]; unfold foldC; rw [if_pos hc]; exact two ⟨_, _⟩
  · have : ((decide (c.Key ≥ 65)) && (decide (c.Key ≤ 90))) = false := by simp only [Bool.and_eq_false_iff, decide_eq_false_iff_not]; omega
    rw [this, sel_false]; unfold foldC; rw [if_neg hc]; exact two c
theorem rFeed_eq {p : PendingKeys} {l : List Shortcut} {sc : List Int} {c : Chord} {t : Int} (hl : l.length < N0) (hs : sc.length < N0) (hp : p.Keys.length ≤ 1000000)
    (h1 : -1152921504606846976 ≤ p.Time) (h2 : p.Time ≤ 1152921504606846976) (h3 : -1152921504606846976 ≤ t) (h4 : t ≤ 1152921504606846976) :
    r32_Feed p l sc c t = some (feedP (liveP p t) (foldC c) t l sc) := by
  have hN : (1000001 : Nat) < N0 := by unfold N0; omega
  have main : ∀ (c : Chord) (rest : List Chord), rest.length ≤ 1000000 → jn (fun (s5 : Unit) => (r32_match l sc ([(Chord.mk c.Key c.Mods)]) t).bind fun x7 => some (x7.1, x7.2.1, x7.2.2)) (fun k6 => sel (decide ((rest.length : Int) > 0)) ((appO rest ([(Chord.mk c.Key c.Mods)])).bind fun x9 => (r32_match l sc x9 t).bind fun x10 => sel (x10.2.2 != 0) (some (x10.1, x10.2.1, x10.2.2)) (k6 ())) (k6 ())) = some (feedP rest c t l sc) := by
    intro c rest hr
    rw [jn_eq]
    unfold feedP
    rw [show Chord.mk c.Key c.Mods = c from rfl]
    have h1 : ([c] : List Chord).length < N0 := by simp; unfold N0; omega
    cases rest with
    | nil =>
      have : decide ((([] : List Chord).length : Int) > 0) = false := rfl
      rw [this, sel_false, match_eq hl h1 hs, bind_some', if_pos rfl]
    | cons y ys =>
      have : decide (((y :: ys).length : Int) > 0) = true := decide_eq_true (by rw [List.length_cons]; omega)
      have h2 : (y :: ys ++ [c]).length < N0 := by simp at hr ⊢; omega
      rw [this, sel_true, appO_eq (by simp at hr ⊢; omega), bind_some', match_eq hl h2 hs, bind_some', if_neg (by simp), match_eq hl h1 hs, bind_some']
      by_cases h0 : (findP l (y :: ys ++ [c]) sc).2 = 0
      · have : ((matchP (y :: ys ++ [c]) t (findP l (y :: ys ++ [c]) sc)).2.2 != 0) = false := by unfold matchP; simpa using h0
        rw [this, sel_false, if_pos h0]
      · have : ((matchP (y :: ys ++ [c]) t (findP l (y :: ys ++ [c]) sc)).2.2 != 0) = true := by unfold matchP; simpa using h0
        rw [this, sel_true, if_neg h0]
  unfold r32_Feed
  rw [jn_eq]
  have two : ∀ c : Chord, (jn (fun (s3 : (List Chord)) => jn (fun (s5 : Unit) => (r32_match l sc ([(Chord.mk c.Key c.Mods)]) t).bind fun x7 => some (x7.1, x7.2.1, x7.2.2)) fun k6 => sel (decide ((s3.length : Int) > 0)) ((appO s3 ([(Chord.mk c.Key c.Mods)])).bind fun x9 => (r32_match l sc x9 t).bind fun x10 => sel (x10.2.2 != 0) (some (x10.1, x10.2.1, x10.2.2)) (k6 ())) (k6 ())) fun k4 => sel ((decide (t ≥ p.Time)) && (decide ((IntKind.i64.wrap (t - p.Time)) ≤ 1500))) ((appO ([] : (List Chord)) p.Keys).bind fun x13 => k4 x13) (k4 ([] : (List Chord)))) = some (feedP (liveP p t) c t l sc) := by
    intro c
    rw [jn_eq]
    by_cases hT : p.Time ≤ t ∧ t - p.Time ≤ 1500
    · have : ((decide (t ≥ p.Time)) && (decide ((IntKind.i64.wrap (t - p.Time)) ≤ 1500))) = true := by
        rw [wrap_id (by omega) (by omega)]; simp only [Bool.and_eq_true, decide_eq_true_eq]; omega
      rw [this, sel_true, appO_eq (by simp; omega), bind_some', List.nil_append]; unfold liveP; rw [if_pos hT]; exact main c p.Keys hp
    · have : ((decide (t ≥ p.Time)) && (decide ((IntKind.i64.wrap (t - p.Time)) ≤ 1500))) = false := by
        rw [wrap_id (by omega) (by omega)]; simp only [Bool.and_eq_false_iff, decide_eq_false_iff_not]; omega
      rw [this, sel_false]; unfold liveP; rw [if_neg hT]; exact main c [] (by simp)
  by_cases hc : c.Key ≥ 65 ∧ c.Key ≤ 90
  · have : ((decide (c.Key ≥ 65)) && (decide (c.Key ≤ 90))) = true := by simp [hc.1, hc.2]
    rw [this, sel_true]; unfold foldC; rw [if_pos hc]; exact two ⟨_, _⟩
  · have : ((decide (c.Key ≥ 65)) && (decide (c.Key ≤ 90))) = false := by simp only [Bool.and_eq_false_iff, decide_eq_false_iff_not]; omega
    rw [this, sel_false]; unfold foldC; rw [if_neg hc]; exact two c

/-- two shortcuts that conflict -/
def conf (x y : Shortcut) : Bool := (x.Scope == y.Scope) && (pre x.Keys y.Keys || pre y.Keys x.Keys)
def confI (i : Nat) (x : Shortcut) : Nat → List Shortcut → List (Int × Int) → List (Int × Int)
  | _, [], acc => acc
  | j, y :: t, acc => confI i x (j + 1) t (if conf x y = true then acc ++ [((i : Int), (j : Int))] else acc)
def confP : Nat → List Shortcut → List (Int × Int) → List (Int × Int)
  | _, [], acc => acc
  | i, x :: t, acc => confP (i + 1) t (confI i x (i + 1) t acc)
theorem gO_any {α : Type} [Inhabited α] (g : Bool) (x : α) : ∃ y, gO g (some x) = some y ∧ (g = true → y = x) := by
  cases g
  · exact ⟨default, rfl, fun h => by cases h⟩
  · exact ⟨x, rfl, fun _ => rfl⟩
theorem conf1 {l : List Shortcut} {i : Nat} {x : Shortcut} {acc : List (Int × Int)} {kk : List (Int × Int) → Option (List (Int × Int))} {s : List (Int × Int)} (hl : l.length ≤ 1000) (hk : ∀ y ∈ l, y.Keys.length < N0) (hx : l[i]? = some x) (ha : acc.length ≤ 1000000) :
    loopK (sc_Conflicts_L1 l (s, (i : Int)) x kk) N0 (acc, ((i + 1 : Nat) : Int)) = kk (confI i x (i + 1) (l.drop (i + 1)) acc) := by
  have hN : l.length < N0 := by unfold N0; omega
  have key : ∀ (n j : Nat) (acc : List (Int × Int)), l.length - j < n → acc.length + (l.length - j) ≤ 2000000 → loopK (sc_Conflicts_L1 l (s, (i : Int)) x kk) n (acc, (j : Int)) = kk (confI i x j (l.drop j) acc) := by
    intro n
    induction n with
    | zero => intro j _ h; exact absurd h (Nat.not_lt_zero _)
    | succ n ih =>
      intro j acc h ha
      show sc_Conflicts_L1 l (s, (i : Int)) x kk (loopK _ n) (acc, (j : Int)) = _
      generalize loopK (sc_Conflicts_L1 l (s, (i : Int)) x kk) n = again at ih ⊢
      unfold sc_Conflicts_L1
      dsimp only
      by_cases hj : j < l.length
      · have hy : l[j]? = some l[j] := List.getElem?_eq_getElem hj
        have hky : l[j].Keys.length < N0 := hk _ (List.getElem_mem hj)
        have hkx : x.Keys.length < N0 := hk _ (List.mem_of_getElem? hx)
        rw [nz_lt hj, sel_true, jn_eq, idxO_nat, hy, bind_some', List.drop_eq_getElem_cons hj, wrap_suc hj hN, begins_eq hky, begins_eq hkx]
        unfold confI
        have e : ∃ y1, gO (x.Scope == l[j].Scope) (some (pre x.Keys l[j].Keys)) = some y1 ∧ ((x.Scope == l[j].Scope) = true → y1 = pre x.Keys l[j].Keys) := gO_any _ _
        obtain ⟨y1, e1, f1⟩ := e
        rw [e1, bind_some']
        obtain ⟨y2, e2, f2⟩ := gO_any (x.Scope == l[j].Scope && !y1) (pre l[j].Keys x.Keys)
        rw [e2, bind_some']
        have hc : ((x.Scope == l[j].Scope) && (y1 || y2)) = conf x l[j] := by
          unfold conf
          cases hs : (x.Scope == l[j].Scope) with
          | false => rfl
          | true =>
            rw [f1 hs] at f2 ⊢
            cases hp : pre x.Keys l[j].Keys with
            | true => rfl
            | false => rw [f2 (by rw [hs, hp]; rfl)]
        rw [hc]
        cases hcf : conf x l[j] with
        | true =>
          rw [sel_true, appO_eq (by simp; omega), bind_some', if_pos rfl]
          exact ih (j + 1) (acc ++ [((i : Int), (j : Int))]) (by omega) (by simp; omega)
        | false =>
          rw [sel_false, if_neg (by simp)]
          exact ih (j + 1) acc (by omega) (by omega)
      · rw [nz_ge (by omega), sel_false, List.drop_eq_nil_of_le (by omega)]; rfl
  exact key N0 (i + 1) acc (by omega) (by omega)
theorem rconf1 {l : List Shortcut} {i : Nat} {x : Shortcut} {acc : List (Int × Int)} {kk : List (Int × Int) → Option (List (Int × Int))} {s : List (Int × Int)} (hl : l.length ≤ 1000) (hk : ∀ y ∈ l, y.Keys.length < N0) (hx : l[i]? = some x) (ha : acc.length ≤ 1000000) :
    loopK (r32_Conflicts_L1 l (s, (i : Int)) kk) N0 (acc, ((i + 1 : Nat) : Int)) = kk (confI i x (i + 1) (l.drop (i + 1)) acc) := by
  have hN : l.length < N0 := by unfold N0; omega
  have key : ∀ (n j : Nat) (acc : List (Int × Int)), l.length - j < n → acc.length + (l.length - j) ≤ 2000000 → loopK (r32_Conflicts_L1 l (s, (i : Int)) kk) n (acc, (j : Int)) = kk (confI i x j (l.drop j) acc) := by
    intro n
    induction n with
    | zero => intro j _ h; exact absurd h (Nat.not_lt_zero _)
    | succ n ih =>
      intro j acc h ha
      show r32_Conflicts_L1 l (s, (i : Int)) kk (loopK _ n) (acc, (j : Int)) = _
      generalize loopK (r32_Conflicts_L1 l (s, (i : Int)) kk) n = again at ih ⊢
      unfold r32_Conflicts_L1
      dsimp only
      by_cases hj : j < l.length
      · have hy : l[j]? = some l[j] := List.getElem?_eq_getElem hj
        have hky : l[j].Keys.length < N0 := hk _ (List.getElem_mem hj)
        have hkx : x.Keys.length < N0 := hk _ (List.mem_of_getElem? hx)
        rw [nz_lt hj, sel_true, jn_eq, idxO_nat, hx, bind_some', idxO_nat, hy, bind_some', List.drop_eq_getElem_cons hj, wrap_suc hj hN]
        unfold confI
        cases hs : (x.Scope == l[j].Scope) with
        | false =>
          have hc : conf x l[j] = false := by unfold conf; rw [hs]; rfl
          simp only [gO_false, bind_some', Bool.false_and, sel_false]
          rw [hc, if_neg (by simp)]
          exact ih (j + 1) acc (by omega) (by omega)
        | true =>
          simp only [gO_true, bind_some', Bool.true_and, r_begins_eq hky]
          cases hp : pre x.Keys l[j].Keys with
          | true =>
            have hc : conf x l[j] = true := by unfold conf; rw [hs, hp]; rfl
            simp only [Bool.not_true, gO_false, bind_some', Bool.true_or, sel_true]
            rw [hc, appO_eq (by simp; omega), bind_some', if_pos rfl]
            exact ih (j + 1) (acc ++ [((i : Int), (j : Int))]) (by omega) (by simp; omega)
          | false =>
            have hc : conf x l[j] = pre l[j].Keys x.Keys := by unfold conf; rw [hs, hp]; rfl
            simp only [Bool.not_false, gO_true, bind_some', Bool.false_or, r_begins_eq hkx]
            rw [hc]
            cases hq : pre l[j].Keys x.Keys with
            | true =>
              rw [sel_true, appO_eq (by simp; omega), bind_some', if_pos rfl]
              exact ih (j + 1) (acc ++ [((i : Int), (j : Int))]) (by omega) (by simp; omega)
            | false =>
              rw [sel_false, if_neg (by simp)]
              exact ih (j + 1) acc (by omega) (by omega)
      · rw [nz_ge (by omega), sel_false, List.drop_eq_nil_of_le (by omega)]; rfl
  exact key N0 (i + 1) acc (by omega) (by omega)
theorem confI_len (i : Nat) (x : Shortcut) : ∀ (l : List Shortcut) (j : Nat) (acc : List (Int × Int)), (confI i x j l acc).length ≤ acc.length + l.length
  | [], _, _ => by unfold confI; simp
  | y :: t, j, acc => by
    unfold confI
    have := confI_len i x t (j + 1) (if conf x y = true then acc ++ [((i : Int), (j : Int))] else acc)
    have h2 : (if conf x y = true then acc ++ [((i : Int), (j : Int))] else acc).length ≤ acc.length + 1 := by split <;> simp
    rw [List.length_cons]; omega
theorem confP_len : ∀ (l : List Shortcut) (i : Nat) (acc : List (Int × Int)), (confP i l acc).length ≤ acc.length + l.length * l.length
  | [], _, _ => by unfold confP; simp
  | x :: t, i, acc => by
    unfold confP
    have h1 := confP_len t (i + 1) (confI i x (i + 1) t acc)
    have h2 := confI_len i x t (i + 1) acc
    rw [List.length_cons]
    have : (t.length + 1) * (t.length + 1) = t.length * t.length + t.length + t.length + 1 := by
      rw [Nat.add_mul, Nat.mul_add]; omega
    omega
theorem Conflicts_eq {l : List Shortcut} (hl : l.length ≤ 900) (hk : ∀ y ∈ l, y.Keys.length < N0) : sc_Conflicts l = some (confP 0 l []) := by
  have hN : l.length < N0 := by unfold N0; omega
  unfold sc_Conflicts
  rw [jn_eq]
  have key : ∀ (n i : Nat) (acc : List (Int × Int)), l.length - i < n → acc.length + (l.length - i) * 900 ≤ 900000 → loopK (sc_Conflicts_L2 l fun s1 => some s1) n (acc, (i : Int)) = some (confP i (l.drop i) acc) := by
    intro n
    induction n with
    | zero => intro j _ h; exact absurd h (Nat.not_lt_zero _)
    | succ n ih =>
      intro i acc h ha
      show sc_Conflicts_L2 l _ (loopK _ n) (acc, (i : Int)) = _
      generalize loopK (sc_Conflicts_L2 l fun s1 => some s1) n = again at ih ⊢
      unfold sc_Conflicts_L2
      dsimp only
      by_cases hi : i < l.length
      · have hy : l[i]? = some l[i] := List.getElem?_eq_getElem hi
        rw [nz_lt hi, sel_true, jn_eq, idxO_nat, hy, bind_some', jn_eq, wrap_suc hi hN, conf1 (by omega) hk hy (by omega), List.drop_eq_getElem_cons hi]
        have := confI_len i l[i] (l.drop (i + 1)) (i + 1) acc
        rw [List.length_drop] at this
        refine (ih (i + 1) _ (by omega) (by omega)).trans ?_
        conv => rhs; unfold confP
      · rw [nz_ge (by omega), sel_false, List.drop_eq_nil_of_le (by omega)]; rfl
  exact key N0 0 [] (by omega) (by simp; omega)
theorem rConflicts_eq {l : List Shortcut} (hl : l.length ≤ 900) (hk : ∀ y ∈ l, y.Keys.length < N0) : r32_Conflicts l = some (confP 0 l []) := by
  have hN : l.length < N0 := by unfold N0; omega
  unfold r32_Conflicts
  rw [jn_eq]
  have key : ∀ (n i : Nat) (acc : List (Int × Int)), l.length - i < n → acc.length + (l.length - i) * 900 ≤ 900000 → loopK (r32_Conflicts_L2 l fun s1 => some s1) n (acc, (i : Int)) = some (confP i (l.drop i) acc) := by
    intro n
    induction n with
    | zero => intro j _ h; exact absurd h (Nat.not_lt_zero _)
    | succ n ih =>
      intro i acc h ha
      show r32_Conflicts_L2 l _ (loopK _ n) (acc, (i : Int)) = _
      generalize loopK (r32_Conflicts_L2 l fun s1 => some s1) n = again at ih ⊢
      unfold r32_Conflicts_L2
      dsimp only
      by_cases hi : i < l.length
      · have hy : l[i]? = some l[i] := List.getElem?_eq_getElem hi
        rw [nz_lt hi, sel_true, jn_eq, jn_eq, wrap_suc hi hN, rconf1 (by omega) hk hy (by omega), List.drop_eq_getElem_cons hi]
        have := confI_len i l[i] (l.drop (i + 1)) (i + 1) acc
        rw [List.length_drop] at this
        refine (ih (i + 1) _ (by omega) (by omega)).trans ?_
        conv => rhs; unfold confP
      · rw [nz_ge (by omega), sel_false, List.drop_eq_nil_of_le (by omega)]; rfl
  exact key N0 0 [] (by omega) (by simp; omega)
theorem matchP_keys (keys : List Chord) (t : Int) (x : Int × Int) : (matchP keys t x).1.Keys.length ≤ keys.length := by
  unfold matchP; dsimp only; split
  · exact Nat.le_refl _
  · simp
theorem liveP_keys (p : PendingKeys) (t : Int) : (liveP p t).length ≤ p.Keys.length := by
  unfold liveP; split
  · exact Nat.le_refl _
  · simp
theorem feedP_keys (rest : List Chord) (c : Chord) (t : Int) (l : List Shortcut) (sc : List Int) : (feedP rest c t l sc).1.Keys.length ≤ rest.length + 1 := by
  unfold feedP
  split
  · have := matchP_keys [c] t (findP l [c] sc); simp at this; omega
  · split
    · have := matchP_keys [c] t (findP l [c] sc); simp at this; omega
    · have := matchP_keys (rest ++ [c]) t (findP l (rest ++ [c]) sc); simp at this; omega
theorem feeds_true (p : PendingKeys) (l : List Shortcut) (sc : List Int) (c : Chord) (t : Int) : l32_ShortcutFeeds p l sc c t = some true := by
  unfold l32_ShortcutFeeds l32_small
  obtain ⟨y1, e1, f1⟩ := gO_any (!(decide ((p.Keys.length : Int) > 20) || decide ((l.length : Int) > 20) || decide ((sc.length : Int) > 20))) (decide (p.Time ≥ -1152921504606846976) && decide (p.Time ≤ 1152921504606846976))
  rw [e1, bind_some']
  obtain ⟨y2, e2, f2⟩ := gO_any (!(decide ((p.Keys.length : Int) > 20) || decide ((l.length : Int) > 20) || decide ((sc.length : Int) > 20) || !y1)) (decide (t ≥ -1152921504606846976) && decide (t ≤ 1152921504606846976))
  rw [e2, bind_some']
  cases hg : (decide ((p.Keys.length : Int) > 20) || decide ((l.length : Int) > 20) || decide ((sc.length : Int) > 20) || !y1 || !y2) with
  | true => rfl
  | false =>
    simp only [Bool.or_eq_false_iff, Bool.not_eq_false', decide_eq_false_iff_not] at hg
    obtain ⟨⟨⟨⟨g1, g2⟩, g3⟩, g4⟩, g5⟩ := hg
    have g6 := f1 (by simp; omega)
    have g7 := f2 (by simp [g4]; omega)
    rw [g4] at g6; rw [g5] at g7
    have g6 := g6.symm; have g7 := g7.symm
    simp only [Bool.and_eq_true, decide_eq_true_eq] at g6 g7
    have hN : (1000001 : Nat) < N0 := by unfold N0; omega
    have hl : l.length < N0 := by omega
    have hs : sc.length < N0 := by omega
    rw [sel_false, jn_eq]
    generalize hk : (fun (_ : Unit) => (sc_Feed p l sc c t).bind _) = kk
    have hkk : (∀ x ∈ l, ¬ (x.Keys.length : Int) > 20) → kk () = some true := by
      intro hb
      have hb' : ∀ y ∈ l, y.Keys.length < N0 := fun y hy => by have := hb y hy; omega
      subst hk
      have hF : (feedP (liveP p t) (foldC c) t l sc).1.Keys.length < N0 := by
        have := feedP_keys (liveP p t) (foldC c) t l sc
        have := liveP_keys p t
        omega
      have hC : (confP 0 l []).length < N0 := by
        have h1 := confP_len l 0 []
        have h2 : l.length * l.length ≤ 20 * 20 := Nat.mul_le_mul (by omega) (by omega)
        simp at h1; omega
      dsimp only
      rw [Feed_eq hl hs (by omega) (by omega) (by omega) (by omega) (by omega), bind_some', rFeed_eq hl hs (by omega) (by omega) (by omega) (by omega) (by omega), bind_some',
        same_eq hF, bind_some', Conflicts_eq (by omega) hb', rConflicts_eq (by omega) hb']
      simp [samePairs_eq hC, awake_true]
    rw [rangeI (R := Bool) (L := l) (k := kk ()) (fun _ x => if (x.Keys.length : Int) > 20 then .inl (some true) else .inr ()) hl]
    · exact guard_scan l 0 hkk
    · intro again i x hx hi
      unfold l32_ShortcutFeeds_L1
      rw [nz_lt hi, sel_true, idxO_nat, hx, bind_some', sel_dec, wrap_suc hi hl]
      by_cases hc : (x.Keys.length : Int) > 20
      · rw [if_pos hc, if_pos hc]
      · rw [if_neg hc, if_neg hc]
    · intro again i hi
      unfold l32_ShortcutFeeds_L1
      rw [nz_ge hi, sel_false]
end Go.Proofs.YtodddfoehcfcnaaDoor

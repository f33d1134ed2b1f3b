/-
  Regions that draw their order: one walk in the order of the text serves every order, if operations that touch the same slot or object wait for each other.
-/
import Derived.Test.YtcfegecdlbbeaaaDoorXs
namespace Go.E2
variable {P : Program} {C : Ctx}

def memB (x : Nat) : List Nat → Bool
  | [] => false
  | y :: r => match Nat.beq x y with
    | true => true
    | false => memB x r
def meets : List Nat → List Nat → Bool
  | [], _ => false
  | x :: r, l => match memB x l with
    | true => true
    | false => meets r l
theorem memB_of {x : Nat} {l : List Nat} (h : x ∈ l) : memB x l = true := by
  induction l with
  | nil => cases h
  | cons y r ih =>
    unfold memB
    by_cases e : x = y
    · subst e; simp
    · rw [beq_false e]
      cases h with
      | head => exact absurd rfl e
      | tail _ hm => exact ih hm
theorem meets_of {x : Nat} {a b : List Nat} (ha : x ∈ a) (hb : x ∈ b) : meets a b = true := by
  induction a with
  | nil => cases ha
  | cons y r ih =>
    unfold meets
    cases ha with
    | head => rw [memB_of hb]
    | tail _ hm =>
      cases memB y b with
      | true => rfl
      | false => exact ih hm
def confl (a b : Sum) : Bool := meets a.ws (b.rs ++ b.ws) || meets b.ws a.rs || meets a.wb (b.rb ++ b.wb) || meets b.wb a.rb
def reach (ops : Array Oper) : Nat → Nat → Nat → Bool
  | 0, _, _ => false
  | n + 1, i, j => match ops[j]? with
    | some o => o.after.toList.any (fun e => Region.binds .any e && Nat.beq e.on i) || o.after.toList.any (fun e => Region.binds .any e && reach ops n i e.on)
    | none => false
def confRow (ops : Array Oper) (j : Nat) (b : Sum) : Nat → List Sum → Bool
  | _, [] => true
  | i, a :: r => (!confl a b || reach ops 9 i j) && confRow ops j b (i + 1) r
/-- pre: the operations before, in their order -/
def confAll (ops : Array Oper) (pre : List Sum) : Nat → List Sum → Bool
  | _, [] => true
  | j, b :: r => confRow ops j b 0 pre && confAll ops (pre ++ [b]) (j + 1) r
def edgesB (l : List Oper) : Nat → Bool := fun k => match l with
  | [] => true
  | o :: r => o.after.toList.all (fun e => !Region.binds .any e || Nat.blt e.on k) && edgesB r (k + 1)
def confB (ops : Array Oper) (ss : List Sum) : Bool := Nat.beq ss.length ops.size && edgesB ops.toList 0 && confAll ops [] 0 ss

theorem confRow_spec {ops : Array Oper} {j : Nat} {b : Sum} : ∀ (l : List Sum) (k : Nat), confRow ops j b k l = true → ∀ (i : Nat) a, l[i]? = some a → confl a b = true → reach ops 9 (k + i) j = true
  | [], _, _, i, a, hi, _ => by simp at hi
  | x :: r, k, h, i, a, hi, hc => by
    simp only [confRow, Bool.and_eq_true, Bool.or_eq_true, Bool.not_eq_true'] at h
    cases i with
    | zero =>
      simp at hi; subst hi
      rcases h.1 with h1 | h1
      · rw [hc] at h1; cases h1
      · exact h1
    | succ i =>
      have := confRow_spec r (k + 1) h.2 i a (by simpa using hi) hc
      rw [show k + (i + 1) = k + 1 + i by omega]; exact this
theorem confAll_spec {ops : Array Oper} : ∀ (l pre : List Sum) (k : Nat), k = pre.length → confAll ops pre k l = true → ∀ (i j : Nat) a b, i < j → k ≤ j → (pre ++ l)[i]? = some a → (pre ++ l)[j]? = some b → confl a b = true → reach ops 9 i j = true
  | [], pre, k, hk, _, i, j, a, b, _, hj, _, hb, _ => by
    simp at hb
    have := (List.getElem?_eq_some_iff.1 hb).1
    omega
  | x :: r, pre, k, hk, h, i, j, a, b, hij, hj, ha, hb, hc => by
    simp only [confAll, Bool.and_eq_true] at h
    by_cases e : j = k
    · subst e
      have hb' : b = x := by
        rw [List.getElem?_append_right (by omega)] at hb
        simpa [hk] using hb.symm
      subst hb'
      have ha' : pre[i]? = some a := by
        rw [List.getElem?_append_left (by omega)] at ha; exact ha
      have := confRow_spec pre 0 h.1 i a ha' hc
      rw [Nat.zero_add] at this
      exact this
    · refine confAll_spec r (pre ++ [x]) (k + 1) (by simp [hk]) h.2 i j a b hij (by omega) (by simpa using ha) (by simpa using hb) hc

theorem edgesB_spec : ∀ (l : List Oper) (k : Nat), edgesB l k = true → ∀ (i : Nat) o, l[i]? = some o → ∀ e ∈ o.after, Region.binds .any e = true → e.on < k + i
  | [], _, _, i, o, hi, _, _, _ => by simp at hi
  | x :: r, k, h, i, o, hi, e, he, hb => by
    simp only [edgesB, Bool.and_eq_true] at h
    cases i with
    | zero =>
      simp at hi; subst hi
      have := List.all_eq_true.1 h.1 e (by simpa using he)
      simp only [Bool.or_eq_true, Bool.not_eq_true'] at this
      rcases this with h1 | h1
      · rw [hb] at h1; cases h1
      · exact Nat.blt_eq.mp h1
    | succ i =>
      have := edgesB_spec r (k + 1) h.2 i o (by simpa using hi) e he hb
      omega

theorem reach_closed {ops : Array Oper} {on : Nat → Bool} (hc : ∀ j o, ops[j]? = some o → on j = true → ∀ e ∈ o.after, Region.binds .any e = true → on e.on = true) :
    ∀ (n i j : Nat), reach ops n i j = true → on j = true → on i = true
  | 0, _, _, h, _ => by cases h
  | n + 1, i, j, h, hj => by
    unfold reach at h
    split at h
    · rename_i o ho
      simp only [Bool.or_eq_true, List.any_eq_true, Bool.and_eq_true] at h
      rcases h with ⟨e, he, hb, hi⟩ | ⟨e, he, hb, hi⟩
      · have := hc j o ho hj e (by simpa using he) hb
        rwa [Nat.eq_of_beq_eq_true hi] at this
      · exact reach_closed hc n i e.on hi (hc j o ho hj e (by simpa using he) hb)
    · cases h

/-- the state when the operations that are 'on' have been carried out -/
def fold {α : Type} (on : Nat → Bool) : Nat → List (List (Nat × α)) → (Nat → Option α) → Nat → Option α
  | _, [], f => f
  | k, W :: r, f => fold on (k + 1) r (if on k then over W f else f)
theorem over_not {α : Type} {W : List (Nat × α)} {f : Nat → Option α} {t : Nat} (h : t ∉ W.map (·.1)) : over W f t = f t := by
  unfold over
  have : look W t = none := by
    induction W with
    | nil => rfl
    | cons p r ih =>
      obtain ⟨k, v⟩ := p
      rw [look_cons, if_neg (fun e => h (by simp [e]))]
      exact ih (fun hm => h (by simp at hm ⊢; exact .inr hm))
  rw [this]
theorem over_in {α : Type} {W : List (Nat × α)} {f f' : Nat → Option α} {t : Nat} (h : t ∈ W.map (·.1)) : over W f t = over W f' t := by
  unfold over
  cases hl : look W t with
  | some v => rfl
  | none =>
    exfalso
    induction W with
    | nil => cases h
    | cons p r ih =>
      obtain ⟨k, v⟩ := p
      rw [look_cons] at hl
      split at hl
      · cases hl
      · rename_i hne
        refine ih ?_ hl
        simp only [List.map_cons, List.mem_cons] at h
        rcases h with h | h
        · exact absurd h.symm hne
        · exact h
theorem fold_congr {α : Type} {on on' : Nat → Bool} {t : Nat} : ∀ (L : List (List (Nat × α))) (k : Nat) (f f' : Nat → Option α), f t = f' t → (∀ (i : Nat) W, L[i]? = some W → t ∈ W.map (·.1) → on (k + i) = on' (k + i)) → fold on k L f t = fold on' k L f' t
  | [], _, _, _, h, _ => h
  | W :: r, k, f, f', h, hw => by
    simp only [fold]
    refine fold_congr r (k + 1) _ _ ?_ (fun i V hV ht => by have := hw (i + 1) V (by simpa using hV) ht; rw [show k + 1 + i = k + (i + 1) by omega]; exact this)
    by_cases ht : t ∈ W.map (·.1)
    · have := hw 0 W rfl ht
      simp only [Nat.add_zero] at this
      rw [this]
      split
      · exact over_in ht
      · exact h
    · have e1 : (if on k then over W f else f) t = f t := by
        split
        · exact over_not ht
        · rfl
      have e2 : (if on' k then over W f' else f') t = f' t := by
        split
        · exact over_not ht
        · rfl
      rw [e1, e2, h]
theorem fold_set {α : Type} {on : Nat → Bool} {t : Nat} : ∀ (L : List (List (Nat × α))) (k : Nat) (f : Nat → Option α) (i : Nat) W, L[i]? = some W → on (k + i) = false →
    (∀ (m : Nat) V, L[m]? = some V → i < m → t ∈ V.map (·.1) → t ∈ W.map (·.1) → on (k + m) = false) → fold (fun n => if n = k + i then true else on n) k L f t = over W (fold on k L f) t
  | [], _, _, i, W, h, _, _ => by simp at h
  | V :: r, k, f, i, W, hW, hon, hno => by
    by_cases htW : t ∈ W.map (·.1)
    · -- the value is W's
      have : fold (fun n => if n = k + i then true else on n) k (V :: r) f t = over W f t := by
        clear hon
        induction i generalizing k f V r with
        | zero =>
          simp at hW; subst hW
          simp only [fold, Nat.add_zero, if_true]
          have : fold (fun n => if n = k then true else on n) (k + 1) r (over V f) t = fold (fun _ => false) (k + 1) r (over V f) t := by
            refine fold_congr r (k + 1) _ _ rfl (fun m U hU ht => ?_)
            have := hno (m + 1) U (by simpa using hU) (by omega) ht htW
            rw [if_neg (by omega), show k + 1 + m = k + (m + 1) by omega]; exact this
          rw [this]
          have nil : ∀ (L : List (List (Nat × α))) (k : Nat) (g : Nat → Option α), fold (fun _ => false) k L g = g := by
            intro L; induction L with
            | nil => intro _ _; rfl
            | cons _ _ ih => intro k g; simp only [fold, Bool.false_eq_true, if_false]; exact ih _ _
          rw [nil]
        | succ i ih =>
          simp only [fold]
          cases r with
          | nil => simp at hW
          | cons U r =>
            have := ih U r (k + 1) (if (if k = k + (i + 1) then true else on k) = true then over V f else f) (by simpa using hW) (fun m X hX hm h1 h2 => by
              have := hno (m + 1) X (by simpa using hX) (by omega) h1 h2
              rw [show k + 1 + m = k + (m + 1) by omega]; exact this)
            rw [show k + (i + 1) = k + 1 + i by omega]
            rw [show k + (i + 1) = k + 1 + i by omega] at this
            rw [this]
            exact over_in htW
      rw [this]
      exact over_in htW
    · rw [over_not htW]
      refine fold_congr (V :: r) k f f rfl (fun m U hU ht => ?_)
      by_cases e : m = i
      · subst e
        rw [hW] at hU
        cases hU
        exact absurd ht htW
      · rw [if_neg (by omega)]

/-- the writes of a region, in the order of its text, and that each operation makes its own -/
def Chain (P : Program) (C : Ctx) (ops : Array Oper) : List Oper → List Sum → List (List (Nat × AV) × List (Nat × Ob)) → FS → FS → Prop
  | [], [], [], F, F' => F' = F
  | o :: l, s :: ss, W :: Ws, F, F' => TriL P C ops o s W.1 W.2 F ∧ Chain P C ops l ss Ws (F.upd W.1 W.2) F'
  | _, _, _, _, _ => False

def FSfold (on : Nat → Bool) (L : List (List (Nat × AV) × List (Nat × Ob))) (F : FS) : FS := ⟨fold on 0 (L.map (·.1)) F.sl, fold on 0 (L.map (·.2)) F.bl⟩

theorem chain_len {ops : Array Oper} : ∀ (l : List Oper) ss Ws F F', Chain P C ops l ss Ws F F' → ss.length = l.length ∧ Ws.length = l.length
  | [], [], [], _, _, _ => ⟨rfl, rfl⟩
  | _ :: l, _ :: ss, _ :: Ws, _, _, h => by
    have := chain_len l ss Ws _ _ h.2
    exact ⟨by simp [this.1], by simp [this.2]⟩
  | [], [], _ :: _, _, _, h => h.elim
  | [], _ :: _, _, _, _, h => h.elim
  | _ :: _, [], _, _, _, h => h.elim
  | _ :: _, _ :: _, [], _, _, h => h.elim

theorem fold_lt {α : Type} (L : List (List (Nat × α))) (k : Nat) (f : Nat → Option α) : fold (fun n => decide (n < k)) k L f = f := by
  induction L generalizing k f with
  | nil => rfl
  | cons W r ih =>
    simp only [fold, Nat.lt_irrefl, decide_false, Bool.false_eq_true, if_false]
    funext t
    have := congrFun (ih (k + 1) f) t
    rw [← this]
    exact fold_congr r (k + 1) f f rfl (fun i W _ _ => by simp; omega)

theorem chain_at {ops : Array Oper} : ∀ (l : List Oper) (ss : List Sum) (Ws : List (List (Nat × AV) × List (Nat × Ob))) (F F' : FS), Chain P C ops l ss Ws F F' →
    (∀ (i : Nat) o, l[i]? = some o → ∃ s W, ss[i]? = some s ∧ Ws[i]? = some W ∧ TriL P C ops o s W.1 W.2 ⟨fold (fun n => decide (n < i)) 0 (Ws.map (·.1)) F.sl, fold (fun n => decide (n < i)) 0 (Ws.map (·.2)) F.bl⟩) ∧
    F' = ⟨fold (fun _ => true) 0 (Ws.map (·.1)) F.sl, fold (fun _ => true) 0 (Ws.map (·.2)) F.bl⟩ := by
  have shift : ∀ {α : Type} (L : List (List (Nat × α))) (k d : Nat) (on : Nat → Bool) (f : Nat → Option α), fold on (k + d) L f = fold (fun n => on (n + d)) k L f := by
    intro α L
    induction L with
    | nil => intro _ _ _ _; rfl
    | cons W r ih => intro k d on f; simp only [fold]; rw [show k + d + 1 = (k + 1) + d by omega]; exact ih _ _ _ _
  intro l
  induction l with
  | nil =>
    intro ss Ws F F' h
    match ss, Ws, h with
    | [], [], h => exact ⟨fun i o hi => by simp at hi, h⟩
  | cons o l ih =>
    intro ss Ws F F' h
    match ss, Ws, h with
    | s :: ss, W :: Ws, h =>
      obtain ⟨h1, h2⟩ := h
      obtain ⟨ih1, ih2⟩ := ih ss Ws _ _ h2
      refine ⟨fun i o' hi => ?_, ?_⟩
      · cases i with
        | zero =>
          simp at hi; subst hi
          refine ⟨s, W, rfl, rfl, ?_⟩
          have e : (fun n => decide (n < 0)) = (fun n : Nat => decide (n < 0)) := rfl
          rw [fold_lt, fold_lt]
          exact h1
        | succ i =>
          obtain ⟨s', W', hs, hW, ht⟩ := ih1 i o' (by simpa using hi)
          refine ⟨s', W', by simpa using hs, by simpa using hW, ?_⟩
          simp only [List.map_cons, fold, Nat.zero_lt_succ, decide_true, if_true]
          rw [show (0 : Nat) + 1 = 0 + 1 from rfl, shift, shift]
          have e : (fun n => decide (n + 1 < i + 1)) = (fun n : Nat => decide (n < i)) := by funext n; simp
          rw [e]
          exact ht
      · rw [ih2]
        simp only [List.map_cons, fold, if_true]
        rw [show (0 : Nat) + 1 = 0 + 1 from rfl, shift, shift]
        rfl

theorem countP_set {p p' : Nat → Bool} {i : Nat} (hi : p i = true) (hi' : p' i = false) (hne : ∀ k, k ≠ i → p' k = p k) : ∀ (l : List Nat), l.Nodup → i ∈ l → l.countP p = l.countP p' + 1
  | [], _, h => by cases h
  | x :: r, hn, h => by
    have hn' := List.nodup_cons.1 hn
    by_cases e : x = i
    · subst e
      rw [List.countP_cons_of_pos hi, List.countP_cons_of_neg (by simp [hi'])]
      congr 1
      exact List.countP_congr (fun k hk => by rw [hne k (fun e => hn'.1 (e ▸ hk))])
    · have hm : i ∈ r := by cases h with | head => exact absurd rfl e | tail _ hm => exact hm
      have ih := countP_set hi hi' hne r hn'.2 hm
      rw [List.countP_cons, List.countP_cons, hne x e, ih]
      omega

theorem wp_drawn {ops : Array Oper} {ss : List Sum} {Ws : List (List (Nat × AV) × List (Nat × Ob))} {F F' : FS} {Q' : Exit → Act → World → Prop} (hch : Chain P C ops ops.toList ss Ws F F') (hcf : confB ops ss = true)
    (hQ : ∀ ρ M a w, Rel C F' ρ M a w → Q' .normal a w) : ∀ (fuel : Nat) (listed : Array Bool), listed.size = ops.size → (List.range ops.size).countP (fun k => !listed.getD k false) = fuel →
      (∀ j o, ops[j]? = some o → listed.getD j false = true → ∀ e ∈ o.after, Region.binds .any e = true → listed.getD e.on false = true) →
      ∀ ρ M a w, Rel C (FSfold (fun k => listed.getD k false) Ws F) ρ M a w → wpAny P .any ops Q' fuel listed a w := by
  simp only [confB, Bool.and_eq_true] at hcf
  obtain ⟨⟨hlen, hed⟩, hcf⟩ := hcf
  obtain ⟨hat, hF'⟩ := chain_at _ _ _ _ _ hch
  obtain ⟨hl1, hl2⟩ := chain_len _ _ _ _ _ hch
  have hspec := confAll_spec ss [] 0 rfl hcf
  simp only [List.nil_append] at hspec
  -- all listed: the end
  have done : ∀ listed : Array Bool, (∀ k, k < ops.size → listed.getD k false = true) → ∀ ρ M a w, Rel C (FSfold (fun k => listed.getD k false) Ws F) ρ M a w → Q' .normal a w := by
    intro listed hall ρ M a w hr
    refine hQ ρ M a w ?_
    rw [hF']
    have e : FSfold (fun k => listed.getD k false) Ws F = ⟨fold (fun _ => true) 0 (Ws.map (·.1)) F.sl, fold (fun _ => true) 0 (Ws.map (·.2)) F.bl⟩ := by
      unfold FSfold
      congr 1
      · funext t
        exact fold_congr _ 0 _ _ rfl (fun i W hW _ => by
          have : i < Ws.length := by have := (List.getElem?_eq_some_iff.1 hW).1; simpa using this
          rw [hall _ (by rw [hl2] at this; simpa using this)])
      · funext t
        exact fold_congr _ 0 _ _ rfl (fun i W hW _ => by
          have : i < Ws.length := by have := (List.getElem?_eq_some_iff.1 hW).1; simpa using this
          rw [hall _ (by rw [hl2] at this; simpa using this)])
    rw [← e]; exact hr
  -- nothing ready: all listed
  have stuck : ∀ listed : Array Bool, listed.size = ops.size → Region.ready .any ops listed = [] → ∀ k, k < ops.size → listed.getD k false = true := by
    intro listed hsz hrd k
    induction k using Nat.strongRecOn with
    | _ k ih =>
      intro hk
      cases hl : listed.getD k false with
      | true => rfl
      | false =>
        exfalso
        have hmem : k ∈ Region.ready .any ops listed := by
          rw [mem_ready]
          refine ⟨?_, ops[k], by simp [hk], fun e he hb => ?_⟩
          · have hks : k < listed.size := by omega
            simp [hks] at hl ⊢; exact hl
          · have := edgesB_spec ops.toList 0 hed k ops[k] (by simp [hk]) e he hb
            exact ih e.on (by omega) (by omega)
        rw [hrd] at hmem
        cases hmem
  intro fuel
  induction fuel with
  | zero =>
    intro listed hsz hcnt hcl ρ M a w hr
    have hall : ∀ k, k < ops.size → listed.getD k false = true := fun k hk => by
      have := List.countP_eq_zero.1 hcnt k (List.mem_range.2 hk)
      simpa using this
    refine ⟨?_, done listed hall ρ M a w hr⟩
    apply List.eq_nil_iff_forall_not_mem.2
    intro i hi
    obtain ⟨h1, o, ho, _⟩ := mem_ready.1 hi
    have hi' : i < ops.size := (Array.getElem?_eq_some_iff.1 ho).1
    have := hall i hi'
    have his : i < listed.size := by omega
    simp [his] at h1 this
    rw [h1] at this; cases this
  | succ fuel ih =>
    intro listed hsz hcnt hcl ρ M a w hr
    refine ⟨fun h0 => done listed (stuck listed hsz h0) ρ M a w hr, fun i hi => ?_⟩
    obtain ⟨h1, o, ho, hpre⟩ := mem_ready.1 hi
    have hi' : i < ops.size := (Array.getElem?_eq_some_iff.1 ho).1
    have his : i < listed.size := by omega
    have hoff : listed.getD i false = false := by simp [his] at h1 ⊢; exact h1
    have ho' : ops.toList[i]? = some o := by simpa using ho
    obtain ⟨s, W, hs, hW, ht⟩ := hat i o ho'
    have hw1 : s.ws = W.1.map (·.1) := ht.1.1
    have hw2 : s.wb = W.2.map (·.1) := ht.1.2
    have hcl' : ∀ m, m < i → ∀ sm, ss[m]? = some sm → confl sm s = true → listed.getD m false = true := by
      intro m hm sm hsm hc
      have hre := hspec m i sm s hm (Nat.zero_le _) hsm hs hc
      -- reach of i: its direct edges are all listed
      unfold reach at hre
      rw [ho] at hre
      simp only [Bool.or_eq_true, List.any_eq_true, Bool.and_eq_true] at hre
      rcases hre with ⟨e, he, hb, hon⟩ | ⟨e, he, hb, hon⟩
      · have := hpre e (by simpa using he) hb
        rwa [Nat.eq_of_beq_eq_true hon] at this
      · exact reach_closed (on := fun k => listed.getD k false) hcl 8 m e.on hon (hpre e (by simpa using he) hb)
    have hcl2 : ∀ m, i < m → ∀ sm, ss[m]? = some sm → confl s sm = true → listed.getD m false = false := by
      intro m hm sm hsm hc
      have hre := hspec i m s sm hm (Nat.zero_le _) hs hsm hc
      cases hl : listed.getD m false with
      | false => rfl
      | true =>
        have := reach_closed (on := fun k => listed.getD k false) hcl 9 i m hre hl
        rw [hoff] at this; cases this
    have sumOf : ∀ (m : Nat) X, Ws[m]? = some X → ∃ sm, ss[m]? = some sm ∧ sm.ws = X.1.map (·.1) ∧ sm.wb = X.2.map (·.1) := by
      intro m X hX
      have hm : m < ops.toList.length := by rw [← hl2]; exact (List.getElem?_eq_some_iff.1 hX).1
      obtain ⟨sm, Xm, h3, h4, h5⟩ := hat m (ops.toList[m]) (by simp [List.getElem?_eq_getElem hm])
      rw [hX] at h4; cases h4
      exact ⟨sm, h3, h5.1.1, h5.1.2⟩
    have same : Same (FSfold (fun k => listed.getD k false) Ws F) ⟨fold (fun n => decide (n < i)) 0 (Ws.map (·.1)) F.sl, fold (fun n => decide (n < i)) 0 (Ws.map (·.2)) F.bl⟩ s.rs s.rb := by
      constructor
      · intro t htr
        refine fold_congr _ 0 _ _ rfl (fun m V hV htV => ?_)
        simp only [List.getElem?_map, Option.map_eq_some_iff] at hV
        obtain ⟨X, hX, rfl⟩ := hV
        obtain ⟨sm, hsm, e1, _⟩ := sumOf m X hX
        rw [Nat.zero_add]
        rcases Nat.lt_trichotomy m i with hlt | heq | hgt
        · rw [hcl' m hlt sm hsm (by unfold confl; rw [meets_of (x := t) (by rw [e1]; exact htV) (by simp [htr])]; rfl)]; simp [hlt]
        · subst heq
          rw [hoff]; simp
        · rw [hcl2 m hgt sm hsm (by unfold confl; rw [meets_of (x := t) (a := sm.ws) (b := s.rs) (by rw [e1]; exact htV) htr]; simp)]
          simp; omega
      · intro t htr
        refine fold_congr _ 0 _ _ rfl (fun m V hV htV => ?_)
        simp only [List.getElem?_map, Option.map_eq_some_iff] at hV
        obtain ⟨X, hX, rfl⟩ := hV
        obtain ⟨sm, hsm, _, e2⟩ := sumOf m X hX
        rw [Nat.zero_add]
        rcases Nat.lt_trichotomy m i with hlt | heq | hgt
        · rw [hcl' m hlt sm hsm (by unfold confl; rw [meets_of (x := t) (a := sm.wb) (b := s.rb ++ s.wb) (by rw [e2]; exact htV) (by simp [htr])]; simp)]; simp [hlt]
        · subst heq
          rw [hoff]; simp
        · rw [hcl2 m hgt sm hsm (by unfold confl; rw [meets_of (x := t) (a := sm.wb) (b := s.rb) (by rw [e2]; exact htV) htr]; simp)]
          simp; omega
    have htri := ht.2 _ same
    unfold wpOp
    rw [ho]
    refine htri Q' _ (fun ρ' M' a' w' hr' => ?_) ρ M a w hr
    refine ih (listed.setIfInBounds i true) (by simp [hsz]) ?_ ?_ ρ' M' a' w' ?_
    · have := countP_set (p := fun k => !listed.getD k false) (p' := fun k => !(listed.setIfInBounds i true).getD k false) (i := i) (by rw [hoff]; rfl) (by simp [his]) (fun k hk => by rw [getD_set_ne false (Ne.symm hk)]) (List.range ops.size) List.nodup_range (List.mem_range.2 hi')
      rw [hcnt] at this
      omega
    · intro j oj hj hlj e he hb
      by_cases hij : i = j
      · subst hij
        rw [ho] at hj; cases hj
        exact getD_set_true (hpre e he hb)
      · rw [getD_set_ne false hij] at hlj
        exact getD_set_true (hcl j oj hj hlj e he hb)
    · have hon : (fun k => (listed.setIfInBounds i true).getD k false) = (fun n => if n = 0 + i then true else listed.getD n false) := by
        funext n
        by_cases e : n = i
        · subst e; simp [his]
        · rw [if_neg (by omega), getD_set_ne false (Ne.symm e)]
      have e : FSfold (fun k => (listed.setIfInBounds i true).getD k false) Ws F = (FSfold (fun k => listed.getD k false) Ws F).upd W.1 W.2 := by
        unfold FSfold FS.upd
        rw [hon]
        congr 1
        · funext t
          refine fold_set (on := fun k => listed.getD k false) (Ws.map (·.1)) 0 F.sl i W.1 (by simp [hW]) (by rw [Nat.zero_add]; exact hoff) (fun m V hV hm htV htW => ?_)
          simp only [List.getElem?_map, Option.map_eq_some_iff] at hV
          obtain ⟨X, hX, rfl⟩ := hV
          obtain ⟨sm, hsm, e1, _⟩ := sumOf m X hX
          rw [Nat.zero_add]
          exact hcl2 m hm sm hsm (by unfold confl; rw [meets_of (x := t) (a := s.ws) (b := sm.rs ++ sm.ws) (by rw [hw1]; exact htW) (by rw [e1]; simp only [List.mem_append]; exact .inr htV)]; rfl)
        · funext t
          refine fold_set (on := fun k => listed.getD k false) (Ws.map (·.2)) 0 F.bl i W.2 (by simp [hW]) (by rw [Nat.zero_add]; exact hoff) (fun m V hV hm htV htW => ?_)
          simp only [List.getElem?_map, Option.map_eq_some_iff] at hV
          obtain ⟨X, hX, rfl⟩ := hV
          obtain ⟨sm, hsm, _, e2⟩ := sumOf m X hX
          rw [Nat.zero_add]
          exact hcl2 m hm sm hsm (by unfold confl; rw [meets_of (x := t) (a := s.wb) (b := sm.rb ++ sm.wb) (by rw [hw2]; exact htW) (by rw [e2]; simp only [List.mem_append]; exact .inr htV)]; simp)
      rw [e]
      exact hr'

theorem RelW.drew {bl : Nat → Option Ob} {ρ : Env} {M : Mem} {w : World} (h : RelW C bl ρ M w) (n : Nat) : RelW C bl ρ M { w with drawn := n } :=
  ⟨fun k o hk => (h.inv k o hk).keep (Mem.le_refl _) (fun _ _ => ⟨rfl, fun _ => rfl, rfl⟩), h.dist, h.priv, ⟨h.mem.cell, h.mem.obj⟩, h.base, h.fresh, ⟨h.kept.os, h.kept.tape, h.kept.output, h.kept.size, h.kept.block⟩, h.names⟩
/-- a region that draws its order, walked in the order of its text; ss0: what the operations before read and wrote, the last one first -/
def OkD (P : Program) (C : Ctx) (ops : Array Oper) (l : List Oper) (ss0 : List Sum) (Q : AState → Prop) (st : AState) : Prop :=
  ∃ ss Ws st', Chain P C ops l ss Ws st.F (AState.F st') ∧ confB ops (ss0.reverse ++ ss) = true ∧ Q st'
theorem OkD.nil {ops : Array Oper} {ss0 : List Sum} {Q : AState → Prop} {st : AState} (hc : confB ops ss0.reverse = true) (h : Q st) : OkD P C ops [] ss0 Q st :=
  ⟨[], [], st, rfl, by simpa using hc, h⟩
theorem OkD.step {ops : Array Oper} {o : Oper} {rest : List Oper} {ss0 : List Sum} {Q : AState → Prop} {st : AState} {s : Sum} {Ws : List (Nat × AV)} {Wb : List (Nat × Ob)} {nx' : Nat} (ht : TriL P C ops o s Ws Wb st.F)
    (h : OkD P C ops rest (s :: ss0) Q ⟨Ws ++ st.sl, Wb ++ st.bl, nx'⟩) : OkD P C ops (o :: rest) ss0 Q st := by
  obtain ⟨ss, L, st', h1, h2, h3⟩ := h
  refine ⟨s :: ss, (Ws, Wb) :: L, st', ⟨ht, ?_⟩, by simpa using h2, h3⟩
  have : AState.F ⟨Ws ++ st.sl, Wb ++ st.bl, nx'⟩ = st.F.upd Ws Wb := by simp only [AState.F, FS.upd, over_look]
  rw [this] at h1
  exact h1
section steps
variable {ops : Array Oper} {o : Oper} {rest : List Oper} {ss0 : List Sum} {Q : AState → Prop} {sl : List (Nat × AV)} {bl : List (Nat × Ob)} {nx d j : Nat} {a : AV} {b : Ob} {s : Sum}
theorem OkD.q (ht : TriL P C ops o s [(d, a)] [] ⟨look sl, look bl⟩) (h : OkD P C ops rest (s :: ss0) Q ⟨(d, a) :: sl, bl, nx⟩) : OkD P C ops (o :: rest) ss0 Q ⟨sl, bl, nx⟩ := OkD.step (st := ⟨sl, bl, nx⟩) (nx' := nx) ht h
theorem OkD.m (nx' : Nat) (ht : TriL P C ops o s [(d, a)] [(j, b)] ⟨look sl, look bl⟩) (h : OkD P C ops rest (s :: ss0) Q ⟨(d, a) :: sl, (j, b) :: bl, nx'⟩) : OkD P C ops (o :: rest) ss0 Q ⟨sl, bl, nx⟩ := OkD.step (st := ⟨sl, bl, nx⟩) (nx' := nx') ht h
theorem OkD.w (ht : TriL P C ops o s [] [(j, b)] ⟨look sl, look bl⟩) (h : OkD P C ops rest (s :: ss0) Q ⟨sl, (j, b) :: bl, nx⟩) : OkD P C ops (o :: rest) ss0 Q ⟨sl, bl, nx⟩ := OkD.step (st := ⟨sl, bl, nx⟩) (nx' := nx) ht h
end steps
theorem Ok.regionD {id : Nat} {l : List Oper} {Q : Exit → AState → Prop} {st : AState} (hm : P.follows .mixedOrders = true) (h : OkD P C l.toArray l [] (Q .normal) st) : Ok P C (.region id l.toArray true) Q st := by
  intro ρ M a w hr
  obtain ⟨ss, Ws, st', h1, h2, h3⟩ := h
  refine wp_region_any hm ?_
  refine wp_drawn (P := P) (C := C) (ss := ss) (Ws := Ws) (F := st.F) (F' := st'.F) (by simpa using h1) (by simpa using h2) (fun ρ' M' a' w' hr' => ⟨st', ρ', M', hr', h3⟩) _ _ (by simp) ?_ ?_ ρ M a _ ?_
  · rw [List.countP_eq_length.2]
    · simp
    · intro k hk
      have hk' : k < l.length := by simpa using hk
      simp [hk']
  · intro j o hj hl
    exfalso
    have hj' : j < l.length := by simpa using (Array.getElem?_eq_some_iff.1 hj).1
    simp [hj'] at hl
  · have e : FSfold (fun k => (Array.replicate l.toArray.size false).getD k false) Ws st.F = st.F := by
      have hoff : (fun k => (Array.replicate l.toArray.size false).getD k false) = (fun _ => false) := by
        funext k
        rcases Nat.lt_or_ge k l.length with h | h
        · simp [h]
        · simp [h]
      have nil : ∀ {α : Type} (L : List (List (Nat × α))) (k : Nat) (g : Nat → Option α), fold (fun _ => false) k L g = g := by
        intro α L; induction L with
        | nil => intro _ _; rfl
        | cons _ _ ih => intro k g; simp only [fold, Bool.false_eq_true, if_false]; exact ih _ _
      unfold FSfold
      rw [hoff, nil, nil]
    rw [e]
    intro ρ' ha
    have h0 := hr ρ' ha
    exact ⟨h0.defers, h0.size, h0.slots, h0.heap.drew _⟩
end Go.E2

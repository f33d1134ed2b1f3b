/-
  A whole function: from its body to 'Calls'.
-/
import Derived.Test.YtilglbkpapbkpaaEvd
namespace Go.Ev
open Go.RowKit (Below)
variable {P : Program} {C : Ctx} {F : FS}

def resOne (P : Program) (F : FS) : ResultVar → Option A1
  | .tmp t => match F.sl t with
    | some (.s x) => some x
    | _ => none
  | .cell t ty => match F.sl t with
    | some (.s (.c (.loc j off))) => match F.bl j with
      | some (.blk cs _) => loadA P ty cs off
      | _ => none
    | _ => none
def resAll (P : Program) (F : FS) : List ResultVar → Option (List A1)
  | [] => some []
  | r :: rs => match resOne P F r with
    | some x => match resAll P F rs with
      | some l => some (x :: l)
      | none => none
    | none => none
def resVal (P : Program) (F : FS) (rs : List ResultVar) : Option AV :=
  match resAll P F rs with
  | some [x] => some (.s x)
  | some l => some (.tup l)
  | none => none

def resSem (tmps : Array Value) : ResultVar → Sem Value
  | .tmp t => pure (tmps.getD t undef)
  | .cell a t => do loadVar t (← asAddr (tmps.getD a undef))
theorem resOne_run {ρ : Env} {M : Mem} {a : Act} {w : World} (hr : Rel0 C F ρ M a w) {r : ResultVar} {x : A1} (h : resOne P F r = some x) : (resSem a.tmps r).run P w = .ok (x.den ρ) w := by
  cases r with
  | tmp t =>
    simp only [resOne] at h
    split at h
    · rename_i y hy; cases h; simp only [resSem, hr.slots _ _ hy]; rfl
    · cases h
  | cell t ty =>
    simp only [resOne] at h
    split at h
    · rename_i j off hy
      split at h
      · rename_i cs ty' hb
        simp only [resSem, hr.slots _ _ hy]
        show (loadVar ty ⟨blockOf (ρ j), off, none⟩).run P w = _
        exact loadA_run (hr.heap.objs _ _ _ hb) h
      · cases h
    · cases h
theorem resAll_run {ρ : Env} {M : Mem} {a : Act} {w : World} (hr : Rel0 C F ρ M a w) : ∀ (rs : List ResultVar) (l : List A1), resAll P F rs = some l →
    (List.mapM (resSem a.tmps) rs).run P w = .ok (l.map (A1.den ρ)) w
  | [], l, h => by simp [resAll] at h; subst h; rfl
  | r :: rs, l, h => by
    simp only [resAll] at h
    split at h
    · rename_i x hx
      split at h
      · rename_i l' hl'
        cases h
        rw [List.mapM_cons, run_bind_ok (resOne_run hr hx), run_bind_ok (resAll_run hr rs l' hl')]
        rfl
      · cases h
    · cases h
theorem results_eq (fn : Func) (tmps : Array Value) : results fn tmps = (do let vs ← fn.results.mapM (resSem tmps); pure (if h : vs.size = 1 then vs[0] else .tuple vs)) := by
  unfold results
  have : (fun (x : ResultVar) => match x with | .tmp t => pure (tmps.getD t undef) | .cell a t => (do loadVar t (← asAddr (tmps.getD a undef)) : Sem Value)) = resSem tmps := by
    funext x; cases x <;> rfl
  rw [← this]
  rfl
theorem resVal_run {ρ : Env} {M : Mem} {a : Act} {w : World} (hr : Rel0 C F ρ M a w) {fn : Func} {v : AV} (h : resVal P F fn.results.toList = some v) : (results fn a.tmps).run P w = .ok (v.den ρ) w := by
  unfold resVal at h
  rw [results_eq]
  have key : ∀ l, resAll P F fn.results.toList = some l → (fn.results.mapM (resSem a.tmps)).run P w = Result.ok (l.map (A1.den ρ)).toArray w := by
    intro l hl
    rw [← Array.toArray_toList (xs := fn.results), List.mapM_toArray]
    have := resAll_run hr fn.results.toList l hl
    rw [Sem.run_map, this]; rfl
  split at h
  · rename_i x hx
    cases h
    rw [run_bind_ok (key _ hx)]
    rfl
  · rename_i l hne hl
    cases h
    rw [run_bind_ok (key _ hl)]
    have hlen : (l.map (A1.den ρ)).toArray.size ≠ 1 := by
      intro h1
      simp at h1
      match l, h1 with
      | [x], _ => exact hne x rfl
    simp only [hlen, dite_false]
    rfl
  · cases h

/-- what the body must come to -/
def retQ (P : Program) (rs : List ResultVar) (Φ : AV → AState → Prop) : Exit → AState → Prop
  | .ret, st => ∃ v, resVal P st.F rs = some v ∧ Φ v st
  | .normal, st => ∃ v, resVal P st.F rs = some v ∧ Φ v st
  | _, _ => False

/-- the arguments' slots -/
def startFrom : Nat → List Value → List (Nat × AV)
  | _, [] => []
  | k, v :: r => (k, .s (ofV v)) :: startFrom (k + 1) r
theorem startFrom_look : ∀ (args : List Value) (k s : Nat) (v : AV), look (startFrom k args) s = some v → ∃ u, k ≤ s ∧ args[s - k]? = some u ∧ v = .s (ofV u)
  | [], k, s, v, h => by simp [startFrom, look] at h
  | x :: r, k, s, v, h => by
    simp only [startFrom] at h
    rw [look_cons] at h
    split at h
    · rename_i e
      subst e
      cases h
      exact ⟨x, Nat.le_refl _, by simp, rfl⟩
    · rename_i e
      obtain ⟨u, h1, h2, h3⟩ := startFrom_look r (k + 1) s v h
      refine ⟨u, by omega, ?_, h3⟩
      have : s - k = (s - (k + 1)) + 1 := by omega
      rw [this]; simpa using h2

theorem calls_of_ok {f : FuncId} {fn : Func} {c : Code} {args : List Value} {sl : List (Nat × AV)} {w : World} {Φ : AV → AState → Prop} {M : Mem} {n : Nat} {rs : List ResultVar}
    (hf : P.funcs[f]? = some fn) (hb : fn.body = some c) (hn : fn.ntmps = n) (hrs : fn.results.toList = rs) (hl : args.length ≤ n) (hsl : startFrom 0 args = sl) (hM : ∀ b o, M b = some o → w.heap[b]? = some o)
    (h : Ok P ⟨w, n, fun _ => False⟩ c (retQ P rs Φ) ⟨sl, [], 0⟩) :
    Calls P f args.toArray w fun e w' => ∃ v st ρ M', e = .returned (v.den ρ) ∧ RelW ⟨w, n, fun _ => False⟩ st.F.bl ρ M' w' ∧ (∀ ρ', Agree st.F.bl ρ ρ' → v.den ρ' = v.den ρ) ∧ Φ v st := by
  subst hn hrs hsl
  refine calls_of_wp hf hb ?_
  have hr : Rel ⟨w, fn.ntmps, fun _ => False⟩ (AState.F ⟨startFrom 0 args, [], 0⟩) (fun _ => .nilFunc) M { tmps := args.toArray ++ Array.replicate (fn.ntmps - args.toArray.size) undef, defers := [] } w := by
    intro ρ' _
    refine ⟨rfl, ?_, ?_, ⟨?_, ?_, ?_, ?_, hM, Kept.refl _ _⟩⟩
    · simp; omega
    · intro s v hv
      obtain ⟨u, _, h2, rfl⟩ := startFrom_look args 0 s v hv
      simp only [Nat.sub_zero] at h2
      have hs : s < args.length := (List.getElem?_eq_some_iff.1 h2).1
      rw [Array.getD_eq_getD_getElem?, Array.getElem?_append_left (by simpa using hs)]
      simp [h2, AV.den, ofV_den]
    · intro j cs ty hj; simp [AState.F, look] at hj
    · intro i j _ _ _ _ hi; simp [AState.F, look] at hi
    · intro j _ _ hj; simp [AState.F, look] at hj
    · intro j f hj; simp [AState.F, look] at hj
  refine wp_mono (h _ _ _ _ hr) ?_
  rintro e a' w' ⟨st', ρ', M', hr', hq⟩
  have hd := hr'.at.defers
  have fin : ∀ v, resVal P st'.F fn.results.toList = some v → Φ v st' → a'.defers = [] ∧ ∃ u, (results fn a'.tmps).run P w' = .ok u w' ∧ ∃ v st ρ M', Ending.returned u = .returned (v.den ρ) ∧ RelW ⟨w, fn.ntmps, fun _ => False⟩ (AState.F st).bl ρ M' w' ∧ (∀ ρ', Agree (AState.F st).bl ρ ρ' → v.den ρ' = v.den ρ) ∧ Φ v st := by
    intro v hv hΦ
    refine ⟨hd, _, resVal_run hr'.at hv, v, st', ρ', M', rfl, hr'.at.heap, fun ρ'' ha => ?_, hΦ⟩
    have h1 := resVal_run (hr' ρ'' ha) (P := P) hv
    have h2 := resVal_run hr'.at (P := P) hv
    have := h1.symm.trans h2
    simpa using this
  cases e with
  | ret => obtain ⟨v, hv, hΦ⟩ := hq; exact fin v hv hΦ
  | normal => obtain ⟨v, hv, hΦ⟩ := hq; exact fin v hv hΦ
  | _ => exact hq.elim

/-- a function whose result is a plain value -/
theorem Pure.of_ok {f : FuncId} {fn : Func} {c : Code} {args : List Value} {r : Value} (n : Nat) (rs : List ResultVar) (sl : List (Nat × AV))
    (hf : P.funcs[f]? = some fn) (hb : fn.body = some c) (hn : fn.ntmps = n) (hrs : fn.results.toList = rs) (hl : Nat.ble args.length n = true) (hsl : startFrom 0 args = sl)
    (h : ∀ w, Ok P ⟨w, n, fun _ => False⟩ c (retQ P rs (fun v _ => v = ofR r)) ⟨sl, [], 0⟩) : Pure P f args r := by
  intro w
  refine (calls_of_ok (M := fun _ => none) hf hb hn hrs (Nat.le_of_ble_eq_true hl) hsl (fun _ _ h => by cases h) (h w)).mono ?_
  rintro e w' ⟨v, st, ρ, M', rfl, hR, _, rfl⟩
  exact ⟨by rw [ofR_den], hR.kept.below⟩

/-! ### knowing less -/
def allLook {α : Type} (f : Nat → Option α) : List (Nat × α) → Prop
  | [] => True
  | (k, v) :: r => f k = some v ∧ allLook f r
theorem allLook_spec {α : Type} {f : Nat → Option α} : ∀ {l : List (Nat × α)}, allLook f l → ∀ s v, look l s = some v → f s = some v
  | [], _, s, v, h => by cases h
  | (k, u) :: r, h, s, v, hl => by
    rw [look_cons] at hl
    split at hl
    · rename_i e; subst e; cases hl; exact h.1
    · exact allLook_spec h.2 s v hl
/-- objects: each is the same, or given up -/
def allObj (f : Nat → Option Ob) : List (Nat × Ob) → Prop
  | [] => True
  | (_, .dead) :: r => allObj f r
  | (k, v) :: r => f k = some v ∧ allObj f r
theorem allObj_spec {f : Nat → Option Ob} : ∀ {l : List (Nat × Ob)}, allObj f l → ∀ s v, look l s = some v → v = .dead ∨ f s = some v
  | [], _, s, v, h => by cases h
  | (k, u) :: r, h, s, v, hl => by
    rw [look_cons] at hl
    cases u with
    | dead =>
      split at hl
      · cases hl; exact .inl rfl
      · exact allObj_spec (show allObj f r from h) s v hl
    | blk cs ty =>
      split at hl
      · rename_i e; subst e; cases hl; exact .inr h.1
      · exact allObj_spec h.2 s v hl
    | fact g =>
      split at hl
      · rename_i e; subst e; cases hl; exact .inr h.1
      · exact allObj_spec h.2 s v hl
/-- every object of l has a name in l' -/
def domB (l' : List (Nat × Ob)) : List (Nat × Ob) → Bool
  | [] => true
  | (k, _) :: r => match look l' k with
    | some _ => domB l' r
    | none => false
theorem domB_spec {l' : List (Nat × Ob)} : ∀ {l : List (Nat × Ob)}, domB l' l = true → ∀ s, look l s ≠ none → look l' s ≠ none
  | [], _, s, h => absurd rfl h
  | (k, u) :: r, hd, s, h => by
    unfold domB at hd
    split at hd
    · rename_i v hv
      rw [look_cons] at h
      by_cases e : k = s
      · subst e; rw [hv]; simp
      · rw [if_neg e] at h; exact domB_spec hd s h
    · cases hd
theorem Sub.mk' {st' st : AState} (h1 : allLook (look st.sl) st'.sl) (h2 : allObj (look st.bl) st'.bl) (h3 : domB st'.bl st.bl = true) : Sub st'.F st.F :=
  ⟨allLook_spec h1, allObj_spec h2, domB_spec h3⟩
theorem Ok.sub {c : Code} {Q : Exit → AState → Prop} {st : AState} (st' : AState) (h1 : allLook (look st.sl) st'.sl) (h2 : allObj (look st.bl) st'.bl) (h3 : domB st'.bl st.bl = true) (h : Ok P C c Q st') : Ok P C c Q st :=
  Ok.weaken (Sub.mk' h1 h2 h3) h
end Go.Ev

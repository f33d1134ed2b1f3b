/-
  A whole function: from its body to a contract; a call by a contract.
-/
import Derived.Test.YtcfegecdlbbeaaaDoorXd
namespace Go.E2
variable {P : Program} {C : Ctx} {F : FS}

/-! ### seen as plain data -/
def Cell.norm : Cell → Cell
  | .tl _ l => .d (.sl l)
  | .d (.v (.slice none 0 0)) => .d (.sl [])
  | x => x
def A1.norm : A1 → A1
  | .c x => .c x.norm
  | .agg cs => .agg (cs.map Cell.norm)
def AV.norm : AV → AV
  | .s x => .s x.norm
  | .gd g x => .gd g x.norm
  | .tup xs => .tup (xs.map A1.norm)
theorem Cell.norm_rep {ρ : Env} {M : Mem} {c : Cell} {v : Value} (h : c.rep ρ M v) : c.norm.rep ρ M v := by
  unfold Cell.norm
  split
  · exact h.2
  · rw [Rep.v_inv h]; exact Rep.nil
  · exact h
theorem Reps.norm {ρ : Env} {M : Mem} : ∀ {cs : List Cell} {vs : List Value}, Reps ρ M cs vs → Reps ρ M (cs.map Cell.norm) vs
  | [], [], _ => trivial
  | _ :: _, _ :: _, h => ⟨Cell.norm_rep h.1, Reps.norm h.2⟩
  | [], _ :: _, h => h.elim
  | _ :: _, [], h => h.elim
theorem A1.norm_rep {ρ : Env} {M : Mem} {x : A1} {v : Value} (h : x.rep ρ M v) : x.norm.rep ρ M v := by
  cases x with
  | c y => exact Cell.norm_rep h
  | agg cs => obtain ⟨arr, rfl, h2⟩ := h; exact ⟨arr, rfl, h2.norm⟩
theorem A1.reps_norm {ρ : Env} {M : Mem} : ∀ {xs : List A1} {vs : List Value}, A1.reps ρ M xs vs → A1.reps ρ M (xs.map A1.norm) vs
  | [], [], _ => trivial
  | _ :: _, _ :: _, h => ⟨A1.norm_rep h.1, A1.reps_norm h.2⟩
  | [], _ :: _, h => h.elim
  | _ :: _, [], h => h.elim
theorem AV.norm_rep {ρ : Env} {M : Mem} {x : AV} {v : Value} (h : x.rep ρ M v) : x.norm.rep ρ M v := by
  cases x with
  | s y => exact A1.norm_rep h
  | gd g y => cases g with
    | true => exact A1.norm_rep (x := y) h
    | false => exact h
  | tup xs => obtain ⟨arr, rfl, h2⟩ := h; exact ⟨arr, rfl, A1.reps_norm h2⟩

/-! ### results -/
def resOne (P : Program) (F : FS) : ResultVar → Option A1
  | .tmp t => match F.sl t with
    | some (.s x) => some x
    | _ => none
  | .cell t ty => match F.sl t with
    | some (.s (.c (.loc j off))) => match F.bl j with
      | some (.blk cs _) => takeA P ty cs off
      | _ => none
    | _ => none
def resAll (P : Program) (F : FS) : List ResultVar → Option (List A1)
  | [] => some []
  | r :: rs => match resOne P F r with
    | some x => match resAll P F rs with
      | some l => some (x :: l)
      | none => none
    | none => none
def resVal (P : Program) (F : FS) (rs : List ResultVar) : Option AV :=
  match resAll P F rs with
  | some [x] => some (.s x)
  | some l => some (.tup l)
  | none => none
def resSem (tmps : Array Value) : ResultVar → Sem Value
  | .tmp t => pure (tmps.getD t undef)
  | .cell a t => do loadVar t (← asAddr (tmps.getD a undef))
theorem resOne_run {ρ : Env} {M : Mem} {a : Act} {w : World} (hr : Rel0 C F ρ M a w) {r : ResultVar} {x : A1} (h : resOne P F r = some x) : ∃ u, (resSem a.tmps r).run P w = .ok u w ∧ x.rep ρ M u := by
  cases r with
  | tmp t =>
    simp only [resOne] at h
    split at h
    · rename_i y hy; cases h; exact ⟨_, rfl, hr.slots _ _ hy⟩
    · cases h
  | cell t ty =>
    simp only [resOne] at h
    split at h
    · rename_i j off hy
      split at h
      · rename_i cs ty' hb
        have e : a.tmps.getD t undef = ptr ρ j off := hr.slots _ _ hy
        obtain ⟨⟨arr, g1, g2⟩, _⟩ := hr.heap.inv _ _ hb
        obtain ⟨u, q1, q2⟩ := takeA_run (P := P) (w := w) (b := blockOf (ρ j)) (o0 := 0) (fun i v hv => by
          rw [Nat.zero_add]
          have hv' : arr[i]? = some v := by simpa using hv
          simp only [World.cell?, g1]; simpa using hv') g2 h
        rw [Nat.zero_add] at q1
        refine ⟨u, ?_, q2⟩
        simp only [resSem, e]
        exact q1
      · cases h
    · cases h
theorem resAll_run {ρ : Env} {M : Mem} {a : Act} {w : World} (hr : Rel0 C F ρ M a w) : ∀ (rs : List ResultVar) (l : List A1), resAll P F rs = some l →
    ∃ us, (List.mapM (resSem a.tmps) rs).run P w = .ok us w ∧ A1.reps ρ M l us
  | [], l, h => by simp [resAll] at h; subst h; exact ⟨[], rfl, trivial⟩
  | r :: rs, l, h => by
    simp only [resAll] at h
    split at h
    · rename_i x hx
      split at h
      · rename_i l' hl'
        cases h
        obtain ⟨u, g1, g2⟩ := resOne_run hr hx
        obtain ⟨us, q1, q2⟩ := resAll_run hr rs l' hl'
        refine ⟨u :: us, ?_, g2, q2⟩
        rw [List.mapM_cons, run_bind_ok g1, run_bind_ok q1]
        rfl
      · cases h
    · cases h
theorem results_eq (fn : Func) (tmps : Array Value) : results fn tmps = (do let vs ← fn.results.mapM (resSem tmps); pure (if h : vs.size = 1 then vs[0] else .tuple vs)) := by
  unfold results
  have : (fun (x : ResultVar) => match x with | .tmp t => pure (tmps.getD t undef) | .cell a t => (do loadVar t (← asAddr (tmps.getD a undef)) : Sem Value)) = resSem tmps := by
    funext x; cases x <;> rfl
  rw [← this]
  rfl
theorem A1.reps_len {ρ : Env} {M : Mem} : ∀ {xs : List A1} {vs : List Value}, A1.reps ρ M xs vs → vs.length = xs.length
  | [], [], _ => rfl
  | _ :: _, _ :: _, h => by simp [A1.reps_len h.2]
  | [], _ :: _, h => h.elim
  | _ :: _, [], h => h.elim
theorem resVal_run {ρ : Env} {M : Mem} {a : Act} {w : World} (hr : Rel0 C F ρ M a w) {fn : Func} {v : AV} (h : resVal P F fn.results.toList = some v) : ∃ u, (results fn a.tmps).run P w = .ok u w ∧ v.rep ρ M u := by
  unfold resVal at h
  rw [results_eq]
  have key : ∀ l, resAll P F fn.results.toList = some l → ∃ us, (fn.results.mapM (resSem a.tmps)).run P w = Result.ok us.toArray w ∧ A1.reps ρ M l us := by
    intro l hl
    obtain ⟨us, g1, g2⟩ := resAll_run hr fn.results.toList l hl
    refine ⟨us, ?_, g2⟩
    rw [← Array.toArray_toList (xs := fn.results), List.mapM_toArray, Sem.run_map, g1]; rfl
  split at h
  · rename_i x hx
    cases h
    obtain ⟨us, g1, g2⟩ := key _ hx
    rw [run_bind_ok g1]
    match us, g2 with
    | [u], g2 => exact ⟨u, rfl, g2.1⟩
    | [], g2 => exact g2.elim
    | _ :: _ :: _, g2 => exact g2.2.elim
  · rename_i l hne hl
    cases h
    obtain ⟨us, g1, g2⟩ := key _ hl
    rw [run_bind_ok g1]
    have hlen : us.toArray.size ≠ 1 := by
      intro h1
      have h2 := A1.reps_len g2
      have h3 : us.length = 1 := by simpa using h1
      match l, hne, h2 with
      | [x], hne, _ => exact hne x rfl
      | [], _, h2 => rw [h3] at h2; simp at h2
      | _ :: _ :: _, _, h2 => rw [h3] at h2; simp at h2
    refine ⟨.tuple us.toArray, ?_, _, rfl, g2⟩
    simp only [hlen, dite_false]
    rfl
  · cases h

/-! ### contracts -/
class HasTab (P : Program) (C : Ctx) : Prop where
  tab : Tab P C.M0
def ctxOf (w : World) (n : Nat) (g : Nat → Prop) (M : Mem) (bl : List (Nat × Ob)) (ρ : Env) : Ctx := ⟨w, n, g, M, fun j => look bl j ≠ none, ρ⟩
/-- the function f, called with these arguments over these objects, returns res and leaves the objects bl'; what else was there stays -/
def Con (P : Program) (f : FuncId) (args : List A1) (bl : List (Nat × Ob)) (res : AV) (bl' : List (Nat × Ob)) : Prop :=
  ∀ ρ M w g vs, Tab P M → (∀ ρ', Agree (look bl) ρ ρ' → RelW (ctxOf w 0 g M bl ρ) (look bl) ρ' M w ∧ A1.reps ρ' M args vs) → Calls P f vs.toArray w fun e w' => ∃ u ρ1 M', e = .returned u ∧
    ∀ ρ', Agree (look bl') ρ1 ρ' → res.rep ρ' M' u ∧ RelW (ctxOf w 0 g M bl ρ) (look bl') ρ' M' w'

def allObj (f : Nat → Option Ob) : List (Nat × Ob) → Prop
  | [] => True
  | (k, .dead) :: r => (f k ≠ none) ∧ allObj f r
  | (k, v) :: r => f k = some v ∧ allObj f r
theorem allObj_spec {f : Nat → Option Ob} : ∀ {l : List (Nat × Ob)}, allObj f l → ∀ s v, look l s = some v → f s ≠ none ∧ (v = .dead ∨ f s = some v)
  | [], _, s, v, h => by cases h
  | (k, u) :: r, h, s, v, hl => by
    have hr : allObj f r := by cases u <;> exact h.2
    rw [look_cons] at hl
    split at hl
    · rename_i e
      subst e
      cases hl
      cases u with
      | dead => exact ⟨h.1, .inl rfl⟩
      | _ => exact ⟨by rw [h.1]; simp, .inr h.1⟩
    · exact allObj_spec hr s v hl
/-- what the body must come to -/
def retQ (P : Program) (rs : List ResultVar) (res : AV) (bl' : List (Nat × Ob)) : Exit → AState → Prop
  | .ret, st => ∃ v, resVal P st.F rs = some v ∧ (v = res ∨ v.norm = res) ∧ allObj (look st.bl) bl'
  | .normal, st => ∃ v, resVal P st.F rs = some v ∧ (v = res ∨ v.norm = res) ∧ allObj (look st.bl) bl'
  | _, _ => False
def startA : Nat → List A1 → List (Nat × AV)
  | _, [] => []
  | k, v :: r => (k, .s v) :: startA (k + 1) r
theorem startA_look {ρ : Env} {M : Mem} : ∀ (args : List A1) (vs : List Value) (k s : Nat) (v : AV), A1.reps ρ M args vs → look (startA k args) s = some v → ∃ u, k ≤ s ∧ vs[s - k]? = some u ∧ v.rep ρ M u
  | [], _, k, s, v, _, h => by simp [startA, look] at h
  | x :: r, [], _, _, _, hr, _ => hr.elim
  | x :: r, u :: us, k, s, v, hr, h => by
    simp only [startA] at h
    rw [look_cons] at h
    split at h
    · rename_i e
      subst e
      cases h
      exact ⟨u, Nat.le_refl _, by simp, hr.1⟩
    · rename_i e
      obtain ⟨u', h1, h2, h3⟩ := startA_look r us (k + 1) s v hr.2 h
      refine ⟨u', by omega, ?_, h3⟩
      have : s - k = (s - (k + 1)) + 1 := by omega
      rw [this]; simpa using h2
theorem RelW.ctx {w0 : World} {n n' : Nat} {g : Nat → Prop} {M0 : Mem} {bl0 : List (Nat × Ob)} {ρ0 : Env} {bl : Nat → Option Ob} {ρ : Env} {M : Mem} {w : World} (h : RelW (ctxOf w0 n g M0 bl0 ρ0) bl ρ M w) : RelW (ctxOf w0 n' g M0 bl0 ρ0) bl ρ M w := ⟨h.inv, h.dist, h.priv, h.mem, h.base, h.fresh, h.kept, h.names⟩
/-- names that a written state may lose: none that was lent -/
def domB (l' : List (Nat × Ob)) : List (Nat × Ob) → Bool
  | [] => true
  | (k, _) :: r => match look l' k with
    | some _ => domB l' r
    | none => false
theorem domB_spec {l' : List (Nat × Ob)} : ∀ {l : List (Nat × Ob)}, domB l' l = true → ∀ s, look l s ≠ none → look l' s ≠ none
  | [], _, s, h => absurd rfl h
  | (k, u) :: r, hd, s, h => by
    unfold domB at hd
    split at hd
    · rename_i v hv
      rw [look_cons] at h
      by_cases e : k = s
      · subst e; rw [hv]; simp
      · rw [if_neg e] at h; exact domB_spec hd s h
    · cases hd
/-- a state speaks of no object but its own -/
def Cell.inB (bl : List (Nat × Ob)) : Cell → Bool
  | .loc j _ => match look bl j with | some _ => true | none => false
  | .tl j _ => match look bl j with | some _ => true | none => false
  | .own j => match look bl j with | some _ => true | none => false
  | .vl j _ => match look bl j with | some _ => true | none => false
  | .fn _ caps => caps.all fun p => match look bl p.1 with | some _ => true | none => false
  | _ => true
def cellsIn (bl : List (Nat × Ob)) : List Cell → Bool
  | [] => true
  | c :: r => match c.inB bl with
    | true => cellsIn bl r
    | false => false
def A1.inB (bl : List (Nat × Ob)) : A1 → Bool
  | .c x => x.inB bl
  | .agg cs => cellsIn bl cs
def a1sIn (bl : List (Nat × Ob)) : List A1 → Bool
  | [] => true
  | c :: r => match c.inB bl with
    | true => a1sIn bl r
    | false => false
def AV.inB (bl : List (Nat × Ob)) : AV → Bool
  | .s x => x.inB bl
  | .gd _ x => x.inB bl
  | .tup xs => a1sIn bl xs
def blIn (bl : List (Nat × Ob)) : List (Nat × Ob) → Bool
  | [] => true
  | (_, .blk cs _) :: r => match cellsIn bl cs with
    | true => blIn bl r
    | false => false
  | _ :: r => blIn bl r
def slIn (bl : List (Nat × Ob)) : List (Nat × AV) → Bool
  | [] => true
  | (_, v) :: r => match v.inB bl with
    | true => slIn bl r
    | false => false
section
variable {bl : List (Nat × Ob)} {ρ ρ' : Env} {M : Mem}
theorem inName (ha : Agree (look bl) ρ ρ') {j : Nat} (h : (match look bl j with | some _ => true | none => false) = true) : ρ' j = ρ j := by
  split at h
  · rename_i o ho; exact ha j (by rw [ho]; simp)
  · cases h
theorem Cell.inB_rep (ha : Agree (look bl) ρ ρ') {c : Cell} (h : c.inB bl = true) {v : Value} (hr : c.rep ρ M v) : c.rep ρ' M v := by
  cases c with
  | d x => exact hr
  | loc j off => have e := inName ha h; show v = ptr ρ' j off; unfold ptr; rw [e]; exact hr
  | pt row => exact hr
  | tl j l => have e := inName ha h; exact ⟨by rw [e]; exact hr.1, hr.2⟩
  | own j => have e := inName ha h; show v = ρ' j; rw [e]; exact hr
  | vl j off => have e := inName ha h; show v = vptr ρ' j off; unfold vptr; rw [e]; exact hr
  | fn f caps =>
    have : (caps.map fun p => ptr ρ' p.1 p.2) = caps.map fun p => ptr ρ p.1 p.2 := by
      apply List.map_congr_left
      intro p hp
      have e := inName ha (List.all_eq_true.1 h p hp)
      unfold ptr; rw [e]
    show v = _
    rw [this]; exact hr
theorem cellsIn_rep (ha : Agree (look bl) ρ ρ') : ∀ {cs : List Cell} {vs : List Value}, cellsIn bl cs = true → Reps ρ M cs vs → Reps ρ' M cs vs
  | [], [], _, _ => trivial
  | [], _ :: _, _, hr => hr.elim
  | _ :: _, [], _, hr => hr.elim
  | c :: r, v :: vs, h, hr => by
    simp only [cellsIn] at h
    split at h
    · rename_i hc; exact ⟨Cell.inB_rep ha hc hr.1, cellsIn_rep ha h hr.2⟩
    · cases h
theorem A1.inB_rep (ha : Agree (look bl) ρ ρ') {x : A1} (h : x.inB bl = true) {v : Value} (hr : x.rep ρ M v) : x.rep ρ' M v := by
  cases x with
  | c y => exact Cell.inB_rep ha h hr
  | agg cs => obtain ⟨arr, rfl, h2⟩ := hr; exact ⟨arr, rfl, cellsIn_rep ha h h2⟩
theorem a1sIn_rep (ha : Agree (look bl) ρ ρ') : ∀ {xs : List A1} {vs : List Value}, a1sIn bl xs = true → A1.reps ρ M xs vs → A1.reps ρ' M xs vs
  | [], [], _, _ => trivial
  | [], _ :: _, _, hr => hr.elim
  | _ :: _, [], _, hr => hr.elim
  | c :: r, v :: vs, h, hr => by
    simp only [a1sIn] at h
    split at h
    · rename_i hc; exact ⟨A1.inB_rep ha hc hr.1, a1sIn_rep ha h hr.2⟩
    · cases h
theorem AV.inB_rep (ha : Agree (look bl) ρ ρ') {x : AV} (h : x.inB bl = true) {v : Value} (hr : x.rep ρ M v) : x.rep ρ' M v := by
  cases x with
  | s y => exact A1.inB_rep ha h hr
  | gd g y => cases g with
    | true => exact A1.inB_rep (x := y) ha h hr
    | false => exact hr
  | tup xs => obtain ⟨arr, rfl, h2⟩ := hr; exact ⟨arr, rfl, a1sIn_rep ha h h2⟩
theorem slIn_spec : ∀ {sl : List (Nat × AV)}, slIn bl sl = true → ∀ s v, look sl s = some v → v.inB bl = true
  | [], _, s, v, h => by cases h
  | (k, u) :: r, h, s, v, hl => by
    simp only [slIn] at h
    split at h
    · rename_i hu
      rw [look_cons] at hl
      split at hl
      · cases hl; exact hu
      · exact slIn_spec h s v hl
    · cases h
theorem blIn_spec : ∀ {l : List (Nat × Ob)}, blIn bl l = true → ∀ j cs ty, look l j = some (.blk cs ty) → cellsIn bl cs = true
  | [], _, j, cs, ty, h => by cases h
  | (k, u) :: r, h, j, cs, ty, hl => by
    have hr : blIn bl r = true := by
      cases u with
      | blk cs' ty' => simp only [blIn] at h; split at h
                       · exact h
                       · cases h
      | _ => exact h
    rw [look_cons] at hl
    split at hl
    · cases hl
      simp only [blIn] at h
      split at h
      · rename_i hc; exact hc
      · cases h
    · exact blIn_spec hr j cs ty hl
/-- objects that speak of their own alone may be seen with other names for the rest -/
theorem RelW.scoped {C : Ctx} {bl0 : Nat → Option Ob} {w : World} (h : RelW C bl0 ρ M w) (hb : ∀ s v, look bl s = some v → v = .dead ∨ bl0 s = some v) (hs : blIn bl bl = true) (hK : ∀ j, C.K j → look bl j ≠ none) (ha : Agree (look bl) ρ ρ') : RelW C (look bl) ρ' M w := by
  have h1 := h.less hb
  have e : ∀ j ob, look bl j = some ob → ρ' j = ρ j := fun j ob hj => ha j (by rw [hj]; simp)
  refine ⟨fun j ob hj => ?_, fun i j x y b hi hj hx hy => ?_, fun j ob b hj ho => ?_, h1.mem, h1.base, h1.fresh, h1.kept, fun j hj => ?_⟩
  · rw [e j ob hj]
    have := h1.inv j ob hj
    cases ob with
    | blk cs ty =>
      obtain ⟨⟨arr, g1, g2⟩, g3⟩ := this
      exact ⟨⟨arr, g1, cellsIn_rep ha (blIn_spec hs j cs ty hj) g2⟩, g3⟩
    | _ => exact this
  · rw [e i x hi] at hx
    rw [e j y hj] at hy
    exact h1.dist i j x y b hi hj hx hy
  · rw [e j ob hj] at ho; exact h1.priv j ob b hj ho
  · rw [ha j (hK j hj)]; exact h1.names j hj
end
theorem Con.of_ok {f : FuncId} {fn : Func} {c : Code} {args : List A1} {bl : List (Nat × Ob)} {res : AV} {bl' : List (Nat × Ob)} (n nx : Nat) (rs : List ResultVar) (sl : List (Nat × AV))
    (hf : P.funcs[f]? = some fn) (hb : fn.body = some c) (hn : fn.ntmps = n) (hrs : fn.results.toList = rs) (hl : Nat.ble args.length n = true) (hsl : startA 0 args = sl) (hdom : domB bl' bl = true) (hsc : blIn bl' bl' = true) (hsr : res.inB bl' = true)
    (h : ∀ w g M ρ, HasTab P (ctxOf w n g M bl ρ) → Ok P (ctxOf w n g M bl ρ) c (retQ P rs res bl') ⟨sl, bl, nx⟩) : Con P f args bl res bl' := by
  subst hn hrs hsl
  intro ρ M w g vs hT hrel
  refine calls_of_wp hf hb ?_
  have hlen := A1.reps_len (hrel ρ (Agree.refl _ _)).2
  have hle := Nat.le_of_ble_eq_true hl
  have hr : ∀ ρ', Agree (look bl) ρ ρ' → Rel0 (ctxOf w fn.ntmps g M bl ρ) (AState.F ⟨startA 0 args, bl, nx⟩) ρ' M { tmps := vs.toArray ++ Array.replicate (fn.ntmps - vs.toArray.size) undef, defers := [] } w := by
    intro ρ' ha
    obtain ⟨h1, h2⟩ := hrel ρ' ha
    refine ⟨rfl, by simp [ctxOf]; omega, fun s v hv => ?_, h1.ctx⟩
    obtain ⟨u, _, q2, q3⟩ := startA_look args vs 0 s v h2 hv
    simp only [Nat.sub_zero] at q2
    have hs : s < vs.length := (List.getElem?_eq_some_iff.1 q2).1
    rw [Array.getD_eq_getD_getElem?, Array.getElem?_append_left (by simpa using hs)]
    simpa [q2] using q3
  refine wp_mono (h w g M ρ ⟨hT⟩ _ _ _ _ hr) ?_
  rintro e a' w' ⟨st', ρ', M', hr', hq⟩
  have fin : ∀ v, resVal P st'.F fn.results.toList = some v → (v = res ∨ v.norm = res) → allObj (look st'.bl) bl' → a'.defers = [] ∧ ∃ u, (results fn a'.tmps).run P w' = .ok u w' ∧ ∃ u' ρ1 M', Ending.returned u = .returned u' ∧
      ∀ ρ'', Agree (look bl') ρ1 ρ'' → res.rep ρ'' M' u' ∧ RelW (ctxOf w 0 g M bl ρ) (look bl') ρ'' M' w' := by
    intro v hv hres hobj
    obtain ⟨u, g1, g2⟩ := resVal_run hr'.at hv
    refine ⟨hr'.at.defers, u, g1, u, ρ', M', rfl, fun ρ'' ha => ⟨?_, ?_⟩⟩
    · refine AV.inB_rep ha hsr ?_
      rcases hres with rfl | rfl
      · exact g2
      · exact AV.norm_rep g2
    · exact (hr'.at.heap.scoped (fun s v hv => (allObj_spec hobj s v hv).2) hsc (fun j hj => domB_spec hdom j hj) ha).ctx
  cases e with
  | ret => obtain ⟨v, h1, h2, h3⟩ := hq; exact fin v h1 h2 h3
  | normal => obtain ⟨v, h1, h2, h3⟩ := hq; exact fin v h1 h2 h3
  | _ => exact hq.elim
end Go.E2

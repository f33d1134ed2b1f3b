/-
  A call by a contract; steps.
-/
import Derived.Test.YtcfegecdlbbeaaaDoorXe
namespace Go.E2
variable {P : Program} {C : Ctx} {F : FS} {ops : Array Oper} {dst : Nat} {op : Op} {ty : TypeId} {pos : String} {after : Array Edge}

/-! ### other names -/
def Cell.ren (σ : Nat → Nat) : Cell → Cell
  | .loc j off => .loc (σ j) off
  | .tl j l => .tl (σ j) l
  | .own j => .own (σ j)
  | .vl j off => .vl (σ j) off
  | .fn f caps => .fn f (caps.map fun p => (σ p.1, p.2))
  | x => x
def A1.ren (σ : Nat → Nat) : A1 → A1
  | .c x => .c (x.ren σ)
  | .agg cs => .agg (cs.map (Cell.ren σ))
def AV.ren (σ : Nat → Nat) : AV → AV
  | .s x => .s (x.ren σ)
  | .gd g x => .gd g (x.ren σ)
  | .tup xs => .tup (xs.map (A1.ren σ))
def Ob.ren (σ : Nat → Nat) : Ob → Ob
  | .blk cs ty => .blk (cs.map (Cell.ren σ)) ty
  | x => x
section
variable {σ : Nat → Nat} {ρ : Env} {M : Mem}
theorem Cell.ren_rep {c : Cell} {v : Value} : (c.ren σ).rep ρ M v ↔ c.rep (fun i => ρ (σ i)) M v := by
  cases c with
  | fn f caps => simp only [Cell.ren, Cell.rep, List.map_map, Function.comp_def, ptr]
  | _ => exact Iff.rfl
theorem Reps.ren : ∀ {cs : List Cell} {vs : List Value}, Reps ρ M (cs.map (Cell.ren σ)) vs ↔ Reps (fun i => ρ (σ i)) M cs vs
  | [], [] => Iff.rfl
  | [], _ :: _ => Iff.rfl
  | _ :: _, [] => Iff.rfl
  | c :: cs, v :: vs => by
    show (Cell.ren σ c).rep ρ M v ∧ _ ↔ _ ∧ _
    rw [Cell.ren_rep, Reps.ren]
theorem A1.ren_rep {x : A1} {v : Value} : (x.ren σ).rep ρ M v ↔ x.rep (fun i => ρ (σ i)) M v := by
  cases x with
  | c y => exact Cell.ren_rep
  | agg cs => exact ⟨fun ⟨arr, e, h⟩ => ⟨arr, e, Reps.ren.1 h⟩, fun ⟨arr, e, h⟩ => ⟨arr, e, Reps.ren.2 h⟩⟩
theorem A1.reps_ren : ∀ {xs : List A1} {vs : List Value}, A1.reps ρ M (xs.map (A1.ren σ)) vs ↔ A1.reps (fun i => ρ (σ i)) M xs vs
  | [], [] => Iff.rfl
  | [], _ :: _ => Iff.rfl
  | _ :: _, [] => Iff.rfl
  | x :: xs, v :: vs => by
    show (A1.ren σ x).rep ρ M v ∧ _ ↔ _ ∧ _
    rw [A1.ren_rep, A1.reps_ren]
theorem AV.ren_rep {x : AV} {v : Value} : (x.ren σ).rep ρ M v ↔ x.rep (fun i => ρ (σ i)) M v := by
  cases x with
  | s y => exact A1.ren_rep
  | gd g y => cases g with
    | true => exact A1.ren_rep (x := y)
    | false => exact Iff.rfl
  | tup xs => exact ⟨fun ⟨arr, e, h⟩ => ⟨arr, e, A1.reps_ren.1 h⟩, fun ⟨arr, e, h⟩ => ⟨arr, e, A1.reps_ren.2 h⟩⟩
theorem Ob.ren_inv {ob : Ob} {w : World} {v : Value} : Inv1 ρ M w (ob.ren σ) v ↔ Inv1 (fun i => ρ (σ i)) M w ob v := by
  cases ob with
  | blk cs ty => exact ⟨fun ⟨⟨arr, e, h⟩, h2⟩ => ⟨⟨arr, e, Reps.ren.1 h⟩, h2⟩, fun ⟨⟨arr, e, h⟩, h2⟩ => ⟨⟨arr, e, Reps.ren.2 h⟩, h2⟩⟩
  | _ => exact Iff.rfl
theorem Ob.ren_blkOf {ob : Ob} {v : Value} : (ob.ren σ).blkOf v = ob.blkOf v := by cases ob <;> rfl
end
def renBl (σ : Nat → Nat) : List (Nat × Ob) → List (Nat × Ob)
  | [] => []
  | (i, ob) :: r => (σ i, ob.ren σ) :: renBl σ r
/-- the names are kept apart -/
def apart (σ : Nat → Nat) : List (Nat × Ob) → Bool
  | [] => true
  | (i, _) :: r => (r.all fun p => !Nat.beq (σ i) (σ p.1)) && apart σ r
theorem renBl_look {σ : Nat → Nat} : ∀ {l : List (Nat × Ob)}, apart σ l = true → ∀ i ob, look l i = some ob → look (renBl σ l) (σ i) = some (ob.ren σ)
  | [], _, i, ob, h => by cases h
  | (k, o) :: r, ha, i, ob, h => by
    simp only [apart, Bool.and_eq_true, List.all_eq_true, Bool.not_eq_true'] at ha
    rw [look_cons] at h
    simp only [renBl]
    rw [look_cons]
    by_cases e : k = i
    · subst e; rw [if_pos rfl] at h; cases h; rw [if_pos rfl]
    · rw [if_neg e] at h
      have hm : ∃ o', (i, o') ∈ r := by
        clear ha e
        induction r with
        | nil => cases h
        | cons p q ih =>
          obtain ⟨k', o'⟩ := p
          rw [look_cons] at h
          split at h
          · rename_i e'; subst e'; exact ⟨o', by simp⟩
          · obtain ⟨o'', h''⟩ := ih h; exact ⟨o'', by simp [h'']⟩
      obtain ⟨o', hm'⟩ := hm
      have hne := ha.1 (i, o') hm'
      rw [if_neg (fun e' => by rw [e'] at hne; simp at hne)]
      exact renBl_look ha.2 i ob h
theorem renBl_inv {σ : Nat → Nat} : ∀ {l : List (Nat × Ob)} {k : Nat} {ob : Ob}, look (renBl σ l) k = some ob → ∃ i ob', look l i ≠ none ∧ k = σ i ∧ ob = ob'.ren σ ∧ (apart σ l = true → look l i = some ob')
  | [], k, ob, h => by cases h
  | (i, o) :: r, k, ob, h => by
    simp only [renBl] at h
    rw [look_cons] at h
    split at h
    · rename_i e
      subst e
      cases h
      exact ⟨i, o, by rw [look_cons, if_pos rfl]; simp, rfl, rfl, fun _ => by rw [look_cons, if_pos rfl]⟩
    · rename_i hne
      obtain ⟨i', o', h1, h2, h3, h4⟩ := renBl_inv h
      have hne' : i ≠ i' := fun e => hne (by rw [e, h2])
      refine ⟨i', o', by rw [look_cons, if_neg hne']; exact h1, h2, h3, fun ha => ?_⟩
      rw [look_cons, if_neg hne']
      simp only [apart, Bool.and_eq_true] at ha
      exact h4 ha.2
theorem apart_inj {σ : Nat → Nat} : ∀ {l : List (Nat × Ob)}, apart σ l = true → ∀ i j, look l i ≠ none → look l j ≠ none → σ i = σ j → i = j
  | l, ha, i, j, hi, hj, e => by
    obtain ⟨oi, hi'⟩ := Option.ne_none_iff_exists'.1 hi
    clear hi
    induction l generalizing oi with
    | nil => cases hi'
    | cons p r ih =>
      obtain ⟨k, o⟩ := p
      simp only [apart, Bool.and_eq_true, List.all_eq_true, Bool.not_eq_true'] at ha
      have mem : ∀ (l : List (Nat × Ob)) i, look l i ≠ none → ∃ o', (i, o') ∈ l := by
        intro l
        induction l with
        | nil => intro i h; exact absurd rfl h
        | cons p q ih =>
          intro i h
          obtain ⟨k', o'⟩ := p
          rw [look_cons] at h
          by_cases e' : k' = i
          · subst e'; exact ⟨o', by simp⟩
          · rw [if_neg e'] at h; obtain ⟨o'', h''⟩ := ih i h; exact ⟨o'', by simp [h'']⟩
      rw [look_cons] at hi' hj
      by_cases e1 : k = i
      · by_cases e2 : k = j
        · omega
        · rw [if_neg e2] at hj
          obtain ⟨o', hm⟩ := mem r j hj
          have := ha.1 (j, o') hm
          rw [e1, e] at this; simp at this
      · rw [if_neg e1] at hi'
        by_cases e2 : k = j
        · obtain ⟨o', hm⟩ := mem r i (by rw [hi']; simp)
          have := ha.1 (i, o') hm
          rw [e2, ← e] at this; simp at this
        · rw [if_neg e2] at hj
          exact ih ha.2 hj oi hi'

/-! ### calls -/
theorem call_run {a : Act} {w : World} {f : FuncId} {args : Array Operand} {argTypes : Array TypeId} {vs : List Value} {fn : Func} {dst : Option Tmp} {ty : TypeId} {pos : String} {after : Array Edge} {gu : Option (Nat × Bool)}
    (e0 : args.toList.map a.eval = vs) (hf : P.funcs[f]? = some fn) (hn : (fn.name == "runtime.NumGoroutine") = false) (hb : fn.body.isNone = false) :
    (execOp a.eval ⟨dst, .call ⟨.value (.func f), args, argTypes⟩, ty, pos, after, gu⟩).run P w = .ok (.enter f vs.toArray) w := by
  unfold execOp
  have e1 : args.map a.eval = vs.toArray := by
    rw [← e0]; apply Array.ext'; simp
  simp only [resolve, e1, Act.eval, Deferred.ofValue, pure_bind, invoke, callFunc, Array.append_empty, Array.empty_append]
  show (Sem.program _).run P w = _
  simp only [Sem.run, Sem.bind, hf]
  rw [if_neg (by rw [hn]; simp), if_neg (by rw [hb]; simp)]
  rfl
/-- the function's entry: it has a Go body -/
def Entry (P : Program) (f : FuncId) : Prop := ∃ fn, P.funcs[f]? = some fn ∧ (fn.name == "runtime.NumGoroutine") = false ∧ fn.body.isNone = false
/-- what the caller reads, and what the contract wants -/
def Fits : List A1 → List A1 → Prop
  | [], [] => True
  | y :: ys, x :: xs => (y = x ∨ y.norm = x) ∧ Fits ys xs
  | _, _ => False
theorem Fits.reps {ρ : Env} {M : Mem} : ∀ {ys xs : List A1} {vs : List Value}, Fits ys xs → A1.reps ρ M ys vs → A1.reps ρ M xs vs
  | [], [], _, _, h => h
  | [], _ :: _, _, h, _ => h.elim
  | _ :: _, [], _, h, _ => h.elim
  | y :: ys, x :: xs, [], _, h => h.elim
  | y :: ys, x :: xs, v :: vs, hf, h => ⟨by rcases hf.1 with rfl | rfl; exact h.1; exact A1.norm_rep h.1, Fits.reps hf.2 h.2⟩
/-- the objects that are lent -/
def lentOk (F : FS) (σ : Nat → Nat) : List (Nat × Ob) → Prop
  | [] => True
  | (i, ob) :: r => F.bl (σ i) = some (ob.ren σ) ∧ lentOk F σ r
theorem lentOk_spec {σ : Nat → Nat} : ∀ {l : List (Nat × Ob)}, lentOk F σ l → ∀ i ob, look l i = some ob → F.bl (σ i) = some (ob.ren σ)
  | [], _, i, ob, h => by cases h
  | (k, o) :: r, hl, i, ob, h => by
    rw [look_cons] at h
    split at h
    · rename_i e; subst e; cases h; exact hl.1
    · exact lentOk_spec hl.2 i ob h
theorem lentOk_same {σ : Nat → Nat} {F' : FS} : ∀ {l : List (Nat × Ob)}, (∀ k ∈ (renBl σ l).map (·.1), F'.bl k = F.bl k) → lentOk F σ l → lentOk F' σ l
  | [], _, _ => trivial
  | (k, o) :: r, hs, h => ⟨(hs (σ k) (by simp [renBl])).trans h.1, lentOk_same (fun j hj => hs j (by simp [renBl]; exact .inr (by simpa using hj))) h.2⟩
/-- the names that the call makes -/
def newNames (σ : Nat → Nat) (bl : List (Nat × Ob)) : List (Nat × Ob) → List Nat
  | [] => []
  | (i, _) :: r => match look bl i with
    | some _ => newNames σ bl r
    | none => σ i :: newNames σ bl r
def allNone (F : FS) : List Nat → Prop
  | [] => True
  | k :: r => F.bl k = none ∧ allNone F r
theorem allNone_spec : ∀ {l : List Nat}, allNone F l → ∀ k ∈ l, F.bl k = none
  | [], _, k, h => by cases h
  | x :: r, hl, k, h => by
    cases h with
    | head => exact hl.1
    | tail _ hm => exact allNone_spec hl.2 k hm
theorem newNames_mem {σ : Nat → Nat} {bl : List (Nat × Ob)} : ∀ {l : List (Nat × Ob)} {k : Nat}, k ∈ newNames σ bl l ↔ ∃ i, look l i ≠ none ∧ look bl i = none ∧ k = σ i
  | [], k => by simp [newNames, look]
  | (i, o) :: r, k => by
    simp only [newNames]
    have ih := newNames_mem (σ := σ) (bl := bl) (l := r) (k := k)
    cases hb : look bl i with
    | some x =>
      simp only
      rw [ih]
      constructor
      · rintro ⟨j, h1, h2, h3⟩
        refine ⟨j, ?_, h2, h3⟩
        rw [look_cons]; split <;> simp_all
      · rintro ⟨j, h1, h2, h3⟩
        refine ⟨j, ?_, h2, h3⟩
        rw [look_cons] at h1
        split at h1
        · rename_i e; subst e; rw [hb] at h2; cases h2
        · exact h1
    | none =>
      simp only [List.mem_cons]
      rw [ih]
      constructor
      · rintro (rfl | ⟨j, h1, h2, h3⟩)
        · exact ⟨i, by rw [look_cons, if_pos rfl]; simp, hb, rfl⟩
        · refine ⟨j, ?_, h2, h3⟩
          rw [look_cons]; split <;> simp_all
      · rintro ⟨j, h1, h2, h3⟩
        rw [look_cons] at h1
        split at h1
        · rename_i e; subst e; exact .inl h3
        · exact .inr ⟨j, h1, h2, h3⟩

theorem mem_of_look {l : List (Nat × Ob)} {i : Nat} (h : look l i ≠ none) : i ∈ l.map (·.1) := by
  induction l with
  | nil => exact absurd rfl h
  | cons p r ih =>
    obtain ⟨k, o⟩ := p
    rw [look_cons] at h
    by_cases e : k = i
    · subst e; simp
    · rw [if_neg e] at h; simp only [List.map_cons, List.mem_cons]; exact .inr (ih h)
theorem look_of_mem {l : List (Nat × Ob)} {i : Nat} (h : i ∈ l.map (·.1)) : look l i ≠ none := by
  induction l with
  | nil => cases h
  | cons p r ih =>
    obtain ⟨k, o⟩ := p
    rw [look_cons]
    by_cases e : k = i
    · rw [if_pos e]; simp
    · rw [if_neg e]
      simp only [List.map_cons, List.mem_cons] at h
      rcases h with h | h
      · exact absurd h.symm e
      · exact ih h
/-- the relation behind a call -/
theorem RelW.called {σ : Nat → Nat} {bl bl' : List (Nat × Ob)} {ρ ρ'' : Env} {M M' : Mem} {w w' : World} {g : Nat → Prop} (h : RelW C F.bl ρ'' M w) (hl : lentOk F σ bl) (hdom : domB bl' bl = true) (hap : apart σ bl' = true) (_hnew : allNone F (newNames σ bl bl'))
    (hg : ∀ b, g b ↔ ∃ i ob, look bl i = some ob ∧ ob.blkOf (ρ'' (σ i)) = some b) (hc : RelW (ctxOf w 0 g M bl ρ) (look bl') (fun i => ρ'' (σ i)) M' w') : RelW C (over (renBl σ bl') F.bl) ρ'' M' w' := by
  have gpriv : ∀ b, g b → C.w0.heap.size ≤ b ∨ C.g b := fun b hb => by
    obtain ⟨i, ob, h1, h2⟩ := (hg b).1 hb
    exact h.priv (σ i) _ b (lentOk_spec hl i ob h1) (by rw [Ob.ren_blkOf]; exact h2)
  have cases' : ∀ k ob, over (renBl σ bl') F.bl k = some ob → (∃ i o, look bl' i = some o ∧ k = σ i ∧ ob = o.ren σ) ∨ (F.bl k = some ob ∧ ∀ b, ob.blkOf (ρ'' k) = some b → b < w.heap.size ∧ ¬ g b) := by
    intro k ob hk
    unfold over at hk
    cases hlk : look (renBl σ bl') k with
    | some o =>
      rw [hlk] at hk
      cases hk
      obtain ⟨i, o', _, h2, h3, h4⟩ := renBl_inv hlk
      exact .inl ⟨i, o', h4 hap, h2, h3⟩
    | none =>
      rw [hlk] at hk
      refine .inr ⟨hk, fun b hb => ⟨h.lt k ob b hk hb, fun hgb => ?_⟩⟩
      obtain ⟨i, o, h1, h2⟩ := (hg b).1 hgb
      have e := h.dist k (σ i) _ _ b hk (lentOk_spec hl i o h1) hb (by rw [Ob.ren_blkOf]; exact h2)
      have hd := domB_spec hdom i (by rw [h1]; simp)
      obtain ⟨o2, ho2⟩ := Option.ne_none_iff_exists'.1 hd
      have := renBl_look hap i o2 ho2
      rw [← e, hlk] at this; cases this
  refine ⟨?_, ?_, ?_, hc.mem, h.base.trans hc.base, ?_, ?_, h.names⟩
  · intro k ob hk
    rcases cases' k ob hk with ⟨i, o, h1, rfl, rfl⟩ | ⟨h1, h2⟩
    · exact Ob.ren_inv.2 (hc.inv i o h1)
    · refine (h.inv k ob h1).keep hc.base (fun b hb => ?_)
      obtain ⟨h3, h4⟩ := h2 b hb
      exact ⟨hc.kept.block b h3 h4, hc.fresh b h3 h4⟩
  · intro i j x y b hi hj hx hy
    rcases cases' i x hi with ⟨i', o, h1, rfl, rfl⟩ | ⟨h1, h2⟩
    · rw [Ob.ren_blkOf] at hx
      rcases cases' j y hj with ⟨j', o', h1', rfl, rfl⟩ | ⟨h1', h2'⟩
      · rw [Ob.ren_blkOf] at hy
        rw [hc.dist i' j' _ _ b h1 h1' hx hy]
      · have := h2' b hy
        rcases hc.priv i' o b h1 hx with h3 | h3
        · exact absurd h3 (by show ¬ w.heap.size ≤ b; omega)
        · exact absurd h3 this.2
    · rcases cases' j y hj with ⟨j', o', h1', rfl, rfl⟩ | ⟨h1', h2'⟩
      · rw [Ob.ren_blkOf] at hy
        have := h2 b hx
        rcases hc.priv j' o' b h1' hy with h3 | h3
        · exact absurd h3 (by show ¬ w.heap.size ≤ b; omega)
        · exact absurd h3 this.2
      · exact h.dist i j _ _ b h1 h1' hx hy
  · intro j ob b hj ho
    rcases cases' j ob hj with ⟨i, o, h1, rfl, rfl⟩ | ⟨h1, h2⟩
    · rw [Ob.ren_blkOf] at ho
      rcases hc.priv i o b h1 ho with h3 | h3
      · exact .inl (Nat.le_trans h.kept.size h3)
      · exact gpriv b h3
    · exact h.priv j ob b h1 ho
  · intro b hb hgb
    have h3 : ¬ g b := fun e => by
      rcases gpriv b e with h4 | h4
      · omega
      · exact hgb h4
    have h5 := hc.fresh b (Nat.lt_of_lt_of_le hb h.kept.size) h3
    have h6 := h.fresh b hb hgb
    exact ⟨fun o => (h5.1 o).trans (h6.1 o), h5.2.trans h6.2⟩
  · refine ⟨hc.kept.os.trans h.kept.os, hc.kept.tape.trans h.kept.tape, hc.kept.output.trans h.kept.output, Nat.le_trans h.kept.size hc.kept.size, fun k hk hgk => ?_⟩
    have h3 : ¬ g k := fun e => by
      rcases gpriv k e with h4 | h4
      · omega
      · exact hgk h4
    exact (hc.kept.block k (Nat.lt_of_lt_of_le hk h.kept.size) h3).trans (h.kept.block k hk hgk)
/-- the relation ahead of a call -/
theorem RelW.lend {σ : Nat → Nat} {bl bl' : List (Nat × Ob)} {ρ ρc : Env} {M : Mem} {w : World} (h : RelW C F.bl ρ M w) (hl : lentOk F σ bl) (hdom : domB bl' bl = true) (hap : apart σ bl' = true) (hsc : blIn bl bl = true) (hρ : Agree (look bl) (fun i => ρ (σ i)) ρc) :
    RelW (ctxOf w 0 (fun b => ∃ i ob, look bl i = some ob ∧ ob.blkOf (ρ (σ i)) = some b) M bl (fun i => ρ (σ i))) (look bl) ρc M w := by
  have h1 : RelW (ctxOf w 0 (fun b => ∃ i ob, look bl i = some ob ∧ ob.blkOf (ρ (σ i)) = some b) M bl (fun i => ρ (σ i))) (look bl) (fun i => ρ (σ i)) M w := by
    refine ⟨fun j ob hj => Ob.ren_inv.1 (h.inv _ _ (lentOk_spec hl j ob hj)), fun i j x y b hi hj hx hy => ?_, fun j ob b hj ho => .inr ⟨j, ob, hj, ho⟩, h.mem, Mem.le_refl _, fun _ _ _ => ⟨fun _ => rfl, rfl⟩, Kept.refl _ _, fun _ _ => rfl⟩
    have e := h.dist (σ i) (σ j) _ _ b (lentOk_spec hl i x hi) (lentOk_spec hl j y hj) (by rw [Ob.ren_blkOf]; exact hx) (by rw [Ob.ren_blkOf]; exact hy)
    exact apart_inj hap i j (domB_spec hdom i (by rw [hi]; simp)) (domB_spec hdom j (by rw [hj]; simp)) e
  exact h1.scoped (fun s v hv => .inr hv) hsc (fun j hj => hj) hρ

theorem Tri.call [hT : HasTab P C] {o : Oper} {f : FuncId} {args : List A1} {bl bl' : List (Nat × Ob)} {res : AV} {σ : Nat → Nat} {fd : Nat} (hg : o.guard = none) (hd : o.dst = some fd) (hn : Nat.blt fd C.n = true) (hc : Con P f args bl res bl') (hl : lentOk F σ bl) (hdom : domB bl' bl = true) (hap : apart σ bl' = true) (hsc : blIn bl bl = true) (hnew : allNone F (newNames σ bl bl'))
    (hsa : a1sIn bl args = true) (hrun : ∀ ρ M a w, Rel0 C F ρ M a w → ∃ vs, (execOp a.eval o).run P w = .ok (.enter f vs.toArray) w ∧ A1.reps ρ M (args.map (A1.ren σ)) vs) : Tri P C ops o F (F.upd [(fd, res.ren σ)] (renBl σ bl')) := by
  intro Q' K' hK ρ M a w hr
  rw [if_pos (wanted_none hg)]
  refine .inl ?_
  unfold Oper.wp
  obtain ⟨vs, h1, h2⟩ := hrun ρ M a w hr.at
  rw [h1]
  show Calls P f vs.toArray w _
  refine (hc (fun i => ρ (σ i)) M w _ vs (hT.tab.mono hr.at.heap.base) (fun ρc ha => ⟨hr.at.heap.lend hl hdom hap hsc ha, a1sIn_rep ha hsa (A1.reps_ren.1 h2)⟩)).mono ?_
  rintro e w' ⟨u, ρ1, M', rfl, hfin⟩
  show K' (a.put o.dst u) w'
  rw [hd]
  -- the caller's names: the new ones stand for what the callee made
  let inv : Nat → Nat := fun k => ((bl'.map (·.1)).find? (fun i => Nat.beq (σ i) k)).getD 0
  refine hK (fun k => if k ∈ newNames σ bl bl' then ρ1 (inv k) else ρ k) M' _ _ fun ρ' ha => ?_
  have hdomF : ∀ k, F.bl k ≠ none → over (renBl σ bl') F.bl k ≠ none := fun k hk => dom_over hk
  have hag : Agree F.bl ρ ρ' := fun i hi => by
    have hne : i ∉ newNames σ bl bl' := fun e => hi (allNone_spec hnew i e)
    rw [ha i (hdomF i hi)]; exact if_neg hne
  have h0 := hr ρ' hag
  have hfinv : ∀ i, look bl' i ≠ none → inv (σ i) = i := by
    intro i hi
    show ((bl'.map (·.1)).find? (fun j => Nat.beq (σ j) (σ i))).getD 0 = i
    cases hf : (bl'.map (·.1)).find? (fun j => Nat.beq (σ j) (σ i)) with
    | none =>
      exfalso
      have hm : i ∈ bl'.map (·.1) := mem_of_look hi
      have := List.find?_eq_none.1 hf i hm
      simp at this
    | some j =>
      have h3 := List.find?_some hf
      have h4 : j ∈ bl'.map (·.1) := List.mem_of_find?_eq_some hf
      have h5 : look bl' j ≠ none := look_of_mem h4
      exact apart_inj hap j i h5 hi (Nat.eq_of_beq_eq_true h3)
  have hlent : ∀ i, look bl i ≠ none → ρ' (σ i) = ρ (σ i) := fun i hi => by
    obtain ⟨ob, hob⟩ := Option.ne_none_iff_exists'.1 hi
    exact hag (σ i) (by rw [lentOk_spec hl i ob hob]; simp)
  have hagc : Agree (look bl') ρ1 (fun i => ρ' (σ i)) := fun i hi => by
    cases hb : look bl i with
    | none =>
      have hm : σ i ∈ newNames σ bl bl' := newNames_mem.2 ⟨i, hi, hb, rfl⟩
      obtain ⟨o2, ho2⟩ := Option.ne_none_iff_exists'.1 hi
      have h3 := ha (σ i) (by
        show over (renBl σ bl') F.bl (σ i) ≠ none
        unfold over; rw [renBl_look hap i o2 ho2]; simp)
      show ρ' (σ i) = ρ1 i
      rw [h3]
      show (if σ i ∈ newNames σ bl bl' then ρ1 (inv (σ i)) else ρ (σ i)) = ρ1 i
      rw [if_pos hm, hfinv i hi]
    | some ob =>
      have h3 := (hfin ρ1 (Agree.refl _ _)).2.names i (by show look bl i ≠ none; rw [hb]; simp)
      show ρ' (σ i) = ρ1 i
      rw [hlent i (by rw [hb]; simp), h3]; rfl
  obtain ⟨g1, g2⟩ := hfin _ hagc
  refine h0.put (Nat.blt_eq.mp hn) (AV.ren_rep.2 g1) g2.base (h0.heap.called hl hdom hap hnew (fun b => ?_) g2)
  constructor
  · rintro ⟨i, ob, h3, h4⟩; exact ⟨i, ob, h3, by rw [hlent i (by rw [h3]; simp)]; exact h4⟩
  · rintro ⟨i, ob, h3, h4⟩; exact ⟨i, ob, h3, by rw [← hlent i (by rw [h3]; simp)]; exact h4⟩

/-- the names that a call reads and writes -/
def rbOf (σ : Nat → Nat) (_bl bl' : List (Nat × Ob)) : List Nat := (renBl σ bl').map (·.1)
theorem triCall [HasTab P C] {f : FuncId} {args : Array Operand} {argTypes : Array TypeId} {ys as : List A1} {bl bl' : List (Nat × Ob)} {res : AV} (σ : Nat → Nat) (res' : AV) (Wb : List (Nat × Ob)) (hc : Con P f as bl res bl') (hy : rds F args.toList = some ys) (hfit : Fits ys (as.map (A1.ren σ))) (hs : sideOk F true args.toList) (hf : Entry P f)
    (hl : lentOk F σ bl) (hdom : domB bl' bl = true) (hap : apart σ bl' = true) (hsc : blIn bl bl = true) (hsa : a1sIn bl as = true) (hnew : allNone F (newNames σ bl bl')) (hn : Nat.blt dst C.n = true) (hres : res.ren σ = res') (hWb : renBl σ bl' = Wb) :
    TriL P C ops ⟨some dst, .call ⟨.value (.func f), args, argTypes⟩, ty, pos, after, none⟩ ⟨slotsOf args.toList, Wb.map (·.1), [dst], Wb.map (·.1)⟩ [(dst, res')] Wb F := by
  subst hres hWb
  refine ⟨⟨rfl, rfl⟩, fun F' hS => ?_⟩
  have h1 := opnd_same hS.1
  obtain ⟨fn, hf1, hf2, hf3⟩ := hf
  have hb' : ∀ i, look bl' i ≠ none → F'.bl (σ i) = F.bl (σ i) := fun i hi => by
    obtain ⟨o2, ho2⟩ := Option.ne_none_iff_exists'.1 hi
    have := renBl_look hap i o2 ho2
    exact hS.2 _ (mem_of_look (by rw [this]; simp))
  have hl' : lentOk F' σ bl := by
    have : ∀ (l : List (Nat × Ob)), (∀ p ∈ l, look bl' p.1 ≠ none) → lentOk F σ l → lentOk F' σ l := by
      intro l
      induction l with
      | nil => intro _ _; trivial
      | cons p r ih =>
        obtain ⟨i, o⟩ := p
        intro hm h
        exact ⟨(hb' i (hm (i, o) (by simp))).trans h.1, ih (fun q hq => hm q (by simp [hq])) h.2⟩
    exact this bl (fun p hp => domB_spec hdom p.1 (look_of_mem (List.mem_map_of_mem hp))) hl
  have hnew' : allNone F' (newNames σ bl bl') := by
    have : ∀ (l : List Nat), (∀ k ∈ l, F'.bl k = none) → allNone F' l := by
      intro l
      induction l with
      | nil => intro _; trivial
      | cons k r ih => intro h; exact ⟨h k (by simp), ih (fun j hj => h j (by simp [hj]))⟩
    refine this _ (fun k hk => ?_)
    obtain ⟨i, h2, h3, rfl⟩ := newNames_mem.1 hk
    rw [hb' i h2]; exact allNone_spec hnew _ hk
  refine Tri.call rfl rfl hn hc hl' hdom hap hsc hnew' hsa (fun ρ M a w hr => ?_)
  refine ⟨args.toList.map a.eval, call_run rfl hf1 hf2 hf3, ?_⟩
  exact Fits.reps hfit (rds_rep (reads_of hr rfl (sideOk_same h1 hs)) ((rds_same h1).trans hy))
/-- a call under a guard, over data alone -/
theorem triCallG [hT : HasTab P C] {f : FuncId} {args : Array Operand} {argTypes : Array TypeId} {ys as : List A1} {x : A1} {gk : Nat} {want g : Bool} (hc : g = true → Con P f as [] (.s x) []) (hb : guardB F ops gk want = some g) (hy : rds F args.toList = some ys) (hfit : Fits ys as) (hs : sideOk F g args.toList) (hf : Entry P f)
    (hsa : a1sIn [] as = true) (_hsx : x.inB [] = true) (hn : Nat.blt dst C.n = true) :
    TriL P C ops ⟨some dst, .call ⟨.value (.func f), args, argTypes⟩, ty, pos, after, some (gk, want)⟩ ⟨gSlot ops gk ++ slotsOf args.toList, [], [dst], []⟩ [(dst, .gd g x)] [] F := by
  refine ⟨⟨rfl, rfl⟩, fun F' hS => ?_⟩
  have h1 := opnd_same (F := F) (F' := F') (xs := args.toList) (fun t ht => hS.1 t (by simp [ht]))
  have hb' := (guardB_same (want := want) (fun t ht => hS.1 t (by simp [ht]))).trans hb
  obtain ⟨fn, hf1, hf2, hf3⟩ := hf
  cases g with
  | false =>
    intro Q' K' hK ρ M a w hr
    rw [guardB_wanted hr.at rfl hb', if_neg (by simp)]
    refine hK ρ M _ _ fun ρ' ha => ?_
    have h0 := hr ρ' (fun j hj => ha j (by rw [FS.upd, over_nil]; exact hj))
    exact h0.put (v := .gd false x) (Nat.blt_eq.mp hn) rfl (Mem.le_refl _) (by rw [over_nil]; exact h0.heap)
  | true =>
    intro Q' K' hK ρ M a w hr
    rw [guardB_wanted hr.at rfl hb', if_pos rfl]
    refine .inl ?_
    unfold Oper.wp
    rw [call_run rfl hf1 hf2 hf3]
    show Calls P f _ w _
    have h2 := Fits.reps hfit (rds_rep (reads_of hr.at rfl (sideOk_same h1 hs)) ((rds_same h1).trans hy))
    have hren : ∀ (ρ1 ρ2 : Env) vs, A1.reps ρ1 M as vs → A1.reps ρ2 M as vs := fun ρ1 ρ2 vs h => a1sIn_rep (bl := []) (fun j hj => absurd rfl hj) hsa h
    have hl : lentOk F' id [] := trivial
    refine (hc rfl ρ M w _ _ (hT.tab.mono hr.at.heap.base) (fun ρc ha => ⟨hr.at.heap.lend (bl' := []) (σ := id) hl rfl rfl rfl ha, hren _ _ _ h2⟩)).mono ?_
    rintro e w' ⟨u, ρ1, M', rfl, hfin⟩
    show K' (a.put (some dst) u) w'
    refine hK ρ M' _ _ fun ρ' ha => ?_
    have h0 := hr ρ' (fun j hj => ha j (by rw [FS.upd, over_nil]; exact hj))
    obtain ⟨g1, g2⟩ := hfin ρ' (fun j hj => absurd rfl hj)
    refine h0.put (v := .gd true x) (Nat.blt_eq.mp hn) g1 g2.base ?_
    have := h0.heap.called (σ := id) (bl := []) (bl' := []) hl rfl rfl trivial (fun b => ⟨fun ⟨_, _, h, _⟩ => (by cases h), fun ⟨_, _, h, _⟩ => (by cases h)⟩) g2
    exact this

section steps
variable {o : Oper} {rest : List Oper} {ss0 : List Sum} {Q : AState → Prop} {sl : List (Nat × AV)} {bl : List (Nat × Ob)} {nx d j j2 j3 : Nat} {a : AV} {b b2 b3 : Ob} {s : Sum}
theorem OkOps.q (ht : TriL P C ops o s [(d, a)] [] ⟨look sl, look bl⟩) (h : OkOps P C ops rest Q ⟨(d, a) :: sl, bl, nx⟩) : OkOps P C ops (o :: rest) Q ⟨sl, bl, nx⟩ := OkOps.step (st := ⟨sl, bl, nx⟩) (nx' := nx) ht.tri h
theorem OkOps.m (nx' : Nat) (ht : TriL P C ops o s [(d, a)] [(j, b)] ⟨look sl, look bl⟩) (h : OkOps P C ops rest Q ⟨(d, a) :: sl, (j, b) :: bl, nx'⟩) : OkOps P C ops (o :: rest) Q ⟨sl, bl, nx⟩ := OkOps.step (st := ⟨sl, bl, nx⟩) (nx' := nx') ht.tri h
theorem OkOps.m2 (nx' : Nat) (ht : TriL P C ops o s [(d, a)] [(j, b), (j2, b2)] ⟨look sl, look bl⟩) (h : OkOps P C ops rest Q ⟨(d, a) :: sl, (j, b) :: (j2, b2) :: bl, nx'⟩) : OkOps P C ops (o :: rest) Q ⟨sl, bl, nx⟩ := OkOps.step (st := ⟨sl, bl, nx⟩) (nx' := nx') ht.tri h
theorem OkOps.m3 (nx' : Nat) (ht : TriL P C ops o s [(d, a)] [(j, b), (j2, b2), (j3, b3)] ⟨look sl, look bl⟩) (h : OkOps P C ops rest Q ⟨(d, a) :: sl, (j, b) :: (j2, b2) :: (j3, b3) :: bl, nx'⟩) : OkOps P C ops (o :: rest) Q ⟨sl, bl, nx⟩ := OkOps.step (st := ⟨sl, bl, nx⟩) (nx' := nx') ht.tri h
theorem OkOps.w (ht : TriL P C ops o s [] [(j, b)] ⟨look sl, look bl⟩) (h : OkOps P C ops rest Q ⟨sl, (j, b) :: bl, nx⟩) : OkOps P C ops (o :: rest) Q ⟨sl, bl, nx⟩ := OkOps.step (st := ⟨sl, bl, nx⟩) (nx' := nx) ht.tri h
theorem OkD.m2 (nx' : Nat) (ht : TriL P C ops o s [(d, a)] [(j, b), (j2, b2)] ⟨look sl, look bl⟩) (h : OkD P C ops rest (s :: ss0) Q ⟨(d, a) :: sl, (j, b) :: (j2, b2) :: bl, nx'⟩) : OkD P C ops (o :: rest) ss0 Q ⟨sl, bl, nx⟩ := OkD.step (st := ⟨sl, bl, nx⟩) (nx' := nx') ht h
theorem OkD.m3 (nx' : Nat) (ht : TriL P C ops o s [(d, a)] [(j, b), (j2, b2), (j3, b3)] ⟨look sl, look bl⟩) (h : OkD P C ops rest (s :: ss0) Q ⟨(d, a) :: sl, (j, b) :: (j2, b2) :: (j3, b3) :: bl, nx'⟩) : OkD P C ops (o :: rest) ss0 Q ⟨sl, bl, nx⟩ := OkD.step (st := ⟨sl, bl, nx⟩) (nx' := nx') ht h
end steps
end Go.E2

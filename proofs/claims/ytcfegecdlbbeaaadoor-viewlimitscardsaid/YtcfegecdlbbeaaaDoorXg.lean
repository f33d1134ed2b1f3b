/-
  Loops and joins by plain functions; lengths, division, '==' between structs.
-/
import Derived.Test.YtcfegecdlbbeaaaDoorXf
import Derived.Laws.StructEq
namespace Go.E2
variable {P : Program} {C : Ctx}

/-! ### a state seen as another one -/
def Conv (C : Ctx) (st T : AState) : Prop := ∀ ρ M a w, Rel C st.F ρ M a w → ∃ ρ' M', Rel C T.F ρ' M' a w
def allSl (f : Nat → Option AV) (τ : Nat → Nat) : List (Nat × AV) → Prop
  | [] => True
  | (k, v) :: r => (∃ v0, f k = some v0 ∧ (v0 = v.ren τ ∨ v0.norm = v.ren τ)) ∧ allSl f τ r
theorem allSl_spec {f : Nat → Option AV} {τ : Nat → Nat} : ∀ {l : List (Nat × AV)}, allSl f τ l → ∀ s v, look l s = some v → ∃ v0, f s = some v0 ∧ (v0 = v.ren τ ∨ v0.norm = v.ren τ)
  | [], _, s, v, h => by cases h
  | (k, u) :: r, h, s, v, hl => by
    rw [look_cons] at hl
    split at hl
    · rename_i e; subst e; cases hl; exact h.1
    · exact allSl_spec h.2 s v hl
def allOb (f : Nat → Option Ob) (τ : Nat → Nat) : List (Nat × Ob) → Prop
  | [] => True
  | (_, .dead) :: r => allOb f τ r
  | (k, v) :: r => f (τ k) = some (v.ren τ) ∧ allOb f τ r
theorem allOb_spec {f : Nat → Option Ob} {τ : Nat → Nat} : ∀ {l : List (Nat × Ob)}, allOb f τ l → ∀ s v, look l s = some v → v = .dead ∨ f (τ s) = some (v.ren τ)
  | [], _, s, v, h => by cases h
  | (k, u) :: r, h, s, v, hl => by
    have hr : allOb f τ r := by cases u <;> first | exact h.2 | exact h
    rw [look_cons] at hl
    split at hl
    · rename_i e
      subst e
      cases hl
      cases u with
      | dead => exact .inl rfl
      | _ => exact .inr h.1
    · exact allOb_spec hr s v hl
/-- the names that were lent stay -/
def keptB (K : List (Nat × Ob)) (τ : Nat → Nat) (T : List (Nat × Ob)) : Bool := match K with
  | [] => true
  | (j, _) :: r => match look T j with
    | some _ => Nat.beq (τ j) j && keptB r τ T
    | none => false
theorem keptB_spec {τ : Nat → Nat} {T : List (Nat × Ob)} : ∀ {K : List (Nat × Ob)}, keptB K τ T = true → ∀ j, look K j ≠ none → look T j ≠ none ∧ τ j = j
  | [], _, j, h => absurd rfl h
  | (k, o) :: r, hk, j, h => by
    unfold keptB at hk
    split at hk
    · rename_i v hv
      simp only [Bool.and_eq_true] at hk
      rw [look_cons] at h
      by_cases e : k = j
      · subst e; exact ⟨by rw [hv]; simp, Nat.eq_of_beq_eq_true hk.1⟩
      · rw [if_neg e] at h; exact keptB_spec hk.2 j h
    · cases hk
/-- no two live objects of the state come from one -/
def liveApart (τ : Nat → Nat) : List (Nat × Ob) → Bool
  | [] => true
  | (_, .dead) :: r => liveApart τ r
  | (i, _) :: r => (r.all fun p => match p.2 with | .dead => true | _ => !Nat.beq (τ i) (τ p.1)) && liveApart τ r
theorem liveApart_inj {τ : Nat → Nat} : ∀ {l : List (Nat × Ob)}, liveApart τ l = true → ∀ i j x y, look l i = some x → look l j = some y → x ≠ .dead → y ≠ .dead → τ i = τ j → i = j := by
  have mem : ∀ (l : List (Nat × Ob)) i x, look l i = some x → (i, x) ∈ l := by
    intro l
    induction l with
    | nil => intro i x h; cases h
    | cons p q ih =>
      intro i x h
      obtain ⟨k', o'⟩ := p
      rw [look_cons] at h
      split at h
      · rename_i e; subst e; cases h; simp
      · exact List.mem_cons_of_mem _ (ih i x h)
  intro l
  induction l with
  | nil => intro _ i j x y h; cases h
  | cons p r ih =>
    obtain ⟨k, o⟩ := p
    intro ha i j x y hi hj hx hy e
    rw [look_cons] at hi hj
    by_cases ho : o = .dead
    · subst ho
      split at hi
      · cases hi; exact absurd rfl hx
      · split at hj
        · cases hj; exact absurd rfl hy
        · exact ih ha i j x y hi hj hx hy e
    · have ha' : (r.all fun p => match p.2 with | .dead => true | _ => !Nat.beq (τ k) (τ p.1)) = true ∧ liveApart τ r = true := by
        cases o <;> first | exact absurd rfl ho | (simp only [liveApart, Bool.and_eq_true] at ha; exact ha)
      obtain ⟨h1, h2⟩ := ha'
      rw [List.all_eq_true] at h1
      have far : ∀ i x, look r i = some x → x ≠ .dead → τ k ≠ τ i := by
        intro i x h hx e'
        have := h1 (i, x) (mem r i x h)
        cases x <;> first | exact absurd rfl hx | (rw [e'] at this; simp at this)
      split at hi
      · rename_i e1; subst e1
        split at hj
        · rename_i e2; exact e2
        · exact absurd e (far j y hj hy)
      · split at hj
        · rename_i e2; subst e2; exact absurd e.symm (far i x hi hx)
        · exact ih h2 i j x y hi hj hx hy e
theorem Conv.mk {st T : AState} {w0 : World} {n : Nat} {g : Nat → Prop} {M0 : Mem} {bl0 : List (Nat × Ob)} {ρ0 : Env} (τ : Nat → Nat) (h1 : allSl (look st.sl) τ T.sl) (h2 : allOb (look st.bl) τ T.bl) (h3 : liveApart τ T.bl = true) (h4 : keptB bl0 τ T.bl = true) (h5 : slIn T.bl T.sl = true) (h6 : blIn T.bl T.bl = true) : Conv (ctxOf w0 n g M0 bl0 ρ0) st T := by
  intro ρ M a w hr
  refine ⟨fun i => ρ (τ i), M, fun ρ' ha => ?_⟩
  have h0 := hr.at
  have hobj : ∀ j ob, look T.bl j = some ob → ob = .dead ∨ st.F.bl (τ j) = some (ob.ren τ) := allOb_spec h2
  have hrel : RelW (ctxOf w0 n g M0 bl0 ρ0) (look T.bl) (fun i => ρ (τ i)) M w := by
    refine ⟨fun j ob hj => ?_, fun i j x y b hi hj hx hy => ?_, fun j ob b hj ho => ?_, h0.heap.mem, h0.heap.base, h0.heap.fresh, h0.heap.kept, fun j hj => ?_⟩
    · rcases hobj j ob hj with rfl | h
      · trivial
      · exact Ob.ren_inv.1 (h0.heap.inv _ _ h)
    · rcases hobj i x hi with rfl | hi'
      · cases hx
      · rcases hobj j y hj with rfl | hj'
        · cases hy
        · have e := h0.heap.dist (τ i) (τ j) _ _ b hi' hj' (by rw [Ob.ren_blkOf]; exact hx) (by rw [Ob.ren_blkOf]; exact hy)
          exact liveApart_inj h3 i j x y hi hj (fun e' => by rw [e'] at hx; cases hx) (fun e' => by rw [e'] at hy; cases hy) e
    · rcases hobj j ob hj with rfl | h
      · cases ho
      · exact h0.heap.priv _ _ b h (by rw [Ob.ren_blkOf]; exact ho)
    · have hk := keptB_spec h4 j hj
      show ρ (τ j) = _
      rw [hk.2]; exact h0.heap.names j hj
  refine ⟨h0.defers, h0.size, fun s v hv => ?_, hrel.scoped (fun s v hv => .inr hv) h6 (fun j hj => (keptB_spec h4 j hj).1) ha⟩
  obtain ⟨v0, g1, g2⟩ := allSl_spec h1 s v hv
  have hv0 : (v.ren τ).rep ρ M (a.tmps.getD s undef) := by
    have := h0.slots s v0 g1
    rcases g2 with rfl | g2
    · exact this
    · rw [← g2]; exact AV.norm_rep this
  exact AV.inB_rep ha (slIn_spec h5 s v hv) (AV.ren_rep.1 hv0)
theorem Ok.conv {c : Code} {Q : Exit → AState → Prop} {st T : AState} (h : Conv C st T) (hk : Ok P C c Q T) : Ok P C c Q st := fun ρ M a w hr => by
  obtain ⟨ρ', M', hr'⟩ := h ρ M a w hr
  exact hk ρ' M' a w hr'
/-- an exact empty slice becomes one that may grow -/
theorem Conv.nil {sl : List (Nat × AV)} {bl : List (Nat × Ob)} {nx : Nat} (s j sz : Nat) (nx' : Nat) (hv : look sl s = some (.s (.c (.d (.v (.slice none 0 0)))))) (hj : look bl j = none) : Conv C ⟨sl, bl, nx⟩ ⟨(s, .s (.c (.tl j []))) :: sl, (j, .tail sz) :: bl, nx'⟩ := by
  intro ρ M a w hr
  refine ⟨fun i => if i = j then .slice none 0 0 else ρ i, M, fun ρ' ha => ?_⟩
  have hag : Agree (look bl) ρ ρ' := fun i hi => by
    have hne : i ≠ j := fun e => hi (e ▸ hj)
    have := ha i (by show look ((j, Ob.tail sz) :: bl) i ≠ none; rw [look_cons, if_neg (Ne.symm hne)]; exact hi)
    rw [this]; exact if_neg hne
  have hnj : ρ' j = .slice none 0 0 := by
    have := ha j (by show look ((j, Ob.tail sz) :: bl) j ≠ none; rw [look_cons, if_pos rfl]; simp)
    rw [this]; exact if_pos rfl
  have h0 := hr ρ' hag
  refine ⟨h0.defers, h0.size, fun t u hu => ?_, ?_⟩
  · have hu' : look ((s, AV.s (.c (.tl j []))) :: sl) t = some u := hu
    rw [look_cons] at hu'
    split at hu'
    · rename_i e
      subst e
      cases hu'
      have := Rep.v_inv (h0.slots s _ hv)
      exact ⟨by rw [this, hnj], by rw [this]; exact Rep.nil⟩
    · exact h0.slots t u hu'
  · refine h0.heap.change j (fun _ => False) (fun _ h => h.elim) ⟨rfl, rfl, rfl, Nat.le_refl _⟩ (fun _ _ _ => rfl) (Mem.le_refl _) (fun _ _ _ => ⟨fun _ => rfl, rfl⟩) (fun b _ => ⟨fun o v hv => h0.heap.mem.cell b o v hv, fun o ho => h0.heap.mem.obj b o ho⟩) (fun k ob hk => ?_)
    have hk' : look ((j, Ob.tail sz) :: bl) k = some ob := hk
    rw [look_cons] at hk'
    split at hk'
    · rename_i e
      subst e
      cases hk'
      refine .inr (.inr ⟨rfl, ?_, fun b hb => ?_⟩)
      · rw [hnj]; exact ⟨none, 0, 0, rfl, Nat.le_refl _, fun h => absurd h (Nat.lt_irrefl _)⟩
      · rw [hnj] at hb; cases hb
    · exact .inr (.inl ⟨hk', fun _ _ h => h⟩)
theorem Conv.trans {a b c : AState} (h : Conv C a b) (h' : Conv C b c) : Conv C a c := fun ρ M x w hr => by
  obtain ⟨ρ1, M1, h1⟩ := h ρ M x w hr
  exact h' ρ1 M1 x w h1

theorem OkOps.conv {ops : Array Oper} {l : List Oper} {Q : AState → Prop} {st T : AState} (h : Conv C st T) (hk : OkOps P C ops l Q T) : OkOps P C ops l Q st := fun Q' hQ ρ M a w hr => by
  obtain ⟨ρ', M', hr'⟩ := h ρ M a w hr
  exact hk Q' hQ ρ' M' a w hr'

/-! ### loops and joins -/
theorem Ok.loopK {S R : Type} {c : Code} {Q : Exit → AState → Prop} {st : AState} (I : S → AState) {B : (S → Option R) → S → Option R} {n : Nat} {s : S} {r : R} (hr : Go.E2.loopK B n s = some r) (h0 : Conv C st (I s))
    (round : ∀ (again : S → Option R) (s : S), B again s = some r → Ok P C c (thenQ (fun st => ∃ s', again s' = some r ∧ Conv C st (I s')) Q) (I s)) : Ok P C (.loop c) Q st := by
  refine Ok.loop (Nat × S) (fun x => I x.2) (fun x => Go.E2.loopK B x.1 x.2 = some r) (fun x => x.1) (n, s) hr (fun ρ M a w h => h0 ρ M a w h) (fun x hx => ?_)
  obtain ⟨m, s⟩ := x
  cases m with
  | zero => cases hx
  | succ m =>
    refine (round (Go.E2.loopK B m) s hx).mono ?_
    intro e st' hq
    cases e with
    | normal => obtain ⟨s', h1, h2⟩ := hq; exact ⟨(m, s'), h1, Nat.lt_succ_self m, h2⟩
    | _ => exact hq
theorem Ok.join {S R : Type} {x y : Code} {Q : Exit → AState → Prop} {st : AState} (J : S → AState) (k : S → Option R) (r : R) (hk : ∀ s, k s = some r → Ok P C y Q (J s)) (hx : Ok P C x (thenQ (fun st => ∃ s, k s = some r ∧ Conv C st (J s)) Q) st) : Ok P C (.seq x y) Q st := by
  refine Ok.seq (hx.mono ?_)
  intro e st' hq
  cases e with
  | normal => obtain ⟨s, h1, h2⟩ := hq; exact Ok.conv h2 (hk s h1)
  | _ => exact hq

theorem Ok.joinEnd {S R : Type} {x : Code} {Q : Exit → AState → Prop} {st : AState} (J : S → AState) (k : S → Option R) (r : R) (hk : ∀ s, k s = some r → Q .normal (J s)) (hx : Ok P C x (thenQ (fun st => ∃ s, k s = some r ∧ Conv C st (J s)) Q) st) : Ok P C x Q st := by
  intro ρ M a w hr
  refine wp_mono (hx ρ M a w hr) ?_
  rintro e a' w' ⟨st', ρ', M', hr', hq⟩
  cases e with
  | normal =>
    obtain ⟨s, h1, h2⟩ := hq
    obtain ⟨ρ2, M2, hr2⟩ := h2 ρ' M' a' w' hr'
    exact ⟨J s, ρ2, M2, hr2, hk s h1⟩
  | _ => exact ⟨st', ρ', M', hr', hq⟩

variable {F : FS} {ops : Array Oper} {dst : Nat} {op : Op} {ty : TypeId} {pos : String} {after : Array Edge}
/-! ### lengths -/
theorem triLen {α : Type} {enc : α → List D} (L : List α) {t : TypeId} {x : Operand} (hx : rdS F x = some (L.map enc)) (ht : isSl P t = true) (hs : sideOk F true [x]) (hd : Nat.blt dst C.n = true) :
    TriL P C ops ⟨some dst, .call ⟨.builtin .len, #[x], #[t]⟩, ty, pos, after, none⟩ ⟨slotsOf [x], [], [dst], []⟩ [(dst, .s (.c (.d (.v (.int .i64 L.length)))))] [] F := by
  refine ⟨⟨rfl, rfl⟩, fun F' hS => ?_⟩
  have h1 := opnd_same hS.1
  refine Tri.quiet (x := .c (.d (.v (.int .i64 L.length)))) rfl rfl hd (fun ρ M a w hr => ?_)
  have hR := reads_of hr rfl (sideOk_same h1 hs)
  have := len_run (P := P) (rdS_rep hR (by simp) ((rdS_same (h1 x (by simp))).trans hx)) ht w
  rw [List.length_map] at this
  refine ⟨_, ?_, Rep.v _⟩
  unfold execOp
  simp only [resolve, List.map_toArray, List.map_cons, List.map_nil, pure_bind, invoke]
  show (do let y ← Builtin.len_ #[t] ty #[a.eval x]; pure (Next.value y) : Sem Next).run P w = _
  exact bind_value this
theorem triLenG {α : Type} {enc : α → List D} (L : List α) {t : TypeId} {x : Operand} {gk : Nat} {want g : Bool} (hb : guardB F ops gk want = some g) (hx : rdS F x = some (L.map enc)) (ht : isSl P t = true) (hs : sideOk F g [x]) (hd : Nat.blt dst C.n = true) :
    TriL P C ops ⟨some dst, .call ⟨.builtin .len, #[x], #[t]⟩, ty, pos, after, some (gk, want)⟩ ⟨gSlot ops gk ++ slotsOf [x], [], [dst], []⟩ [(dst, .gd g (.c (.d (.v (.int .i64 L.length)))))] [] F := by
  refine ⟨⟨rfl, rfl⟩, fun F' hS => ?_⟩
  have h1 := opnd_same (F := F) (F' := F') (xs := [x]) (fun t ht => hS.1 t (by simp [ht]))
  refine Tri.quietG (x := .c (.d (.v (.int .i64 L.length)))) rfl ((guardB_same (fun t ht => hS.1 t (by simp [ht]))).trans hb) rfl hd (fun hg ρ M a w hr => ?_)
  have hR := reads_of hr hg (sideOk_same h1 hs)
  have := len_run (P := P) (rdS_rep hR (by simp) ((rdS_same (h1 x (by simp))).trans hx)) ht w
  rw [List.length_map] at this
  refine ⟨_, ?_, Rep.v _⟩
  unfold execOp
  simp only [resolve, List.map_toArray, List.map_cons, List.map_nil, pure_bind, invoke]
  show (do let y ← Builtin.len_ #[t] ty #[a.eval x]; pure (Next.value y) : Sem Next).run P w = _
  exact bind_value this

/-! ### division -/
theorem triQuo {t t' : TypeId} {x y : Operand} {k : IntKind} {a b c : Int} (hb : nzO b (k.wrap (a.tdiv b)) = some c) (hx : rdV F x = some (.int k a)) (hy : rdV F y = some (.int k b)) (hs : sideOk F true [x, y]) (hn : Nat.blt dst C.n = true) :
    TriL P C ops ⟨some dst, .binOp .quo t x y t', ty, pos, after, none⟩ ⟨slotsOf [x, y], [], [dst], []⟩ [(dst, .s (.c (.d (.v (.int k c)))))] [] F := by
  obtain ⟨hb0, rfl⟩ := nzO_spec hb
  refine ⟨⟨rfl, rfl⟩, fun F' hS => ?_⟩
  have h1 := opnd_same hS.1
  refine Tri.quiet (x := .c (.d (.v (.int k (k.wrap (a.tdiv b)))))) rfl rfl hn (fun ρ M a' w hr => ⟨_, ?_, Rep.v _⟩)
  have hR := reads_of hr rfl (sideOk_same h1 hs)
  unfold execOp
  simp only
  rw [rdV_eval hR (by simp) ((rdV_same (h1 x (by simp))).trans hx), rdV_eval hR (by simp) ((rdV_same (h1 y (by simp))).trans hy)]
  have : (eqGuard .quo t x y (.int k a) (.int k b) >>= fun _ => binOp .quo t (.int k a) (.int k b)).run P w = .ok (.int k (k.wrap (a.tdiv b))) w := by
    simp only [eqGuard, binOp, ne_eq, not_true_eq_false, if_false, Op.intDiv, hb0]
    rfl
  exact bind_value this
theorem triRem {t t' : TypeId} {x y : Operand} {k : IntKind} {a b c : Int} (hb : nzO b (a.tmod b) = some c) (hx : rdV F x = some (.int k a)) (hy : rdV F y = some (.int k b)) (hs : sideOk F true [x, y]) (hn : Nat.blt dst C.n = true) :
    TriL P C ops ⟨some dst, .binOp .rem t x y t', ty, pos, after, none⟩ ⟨slotsOf [x, y], [], [dst], []⟩ [(dst, .s (.c (.d (.v (.int k c)))))] [] F := by
  obtain ⟨hb0, rfl⟩ := nzO_spec hb
  refine ⟨⟨rfl, rfl⟩, fun F' hS => ?_⟩
  have h1 := opnd_same hS.1
  refine Tri.quiet (x := .c (.d (.v (.int k (a.tmod b))))) rfl rfl hn (fun ρ M a' w hr => ⟨_, ?_, Rep.v _⟩)
  have hR := reads_of hr rfl (sideOk_same h1 hs)
  unfold execOp
  simp only
  rw [rdV_eval hR (by simp) ((rdV_same (h1 x (by simp))).trans hx), rdV_eval hR (by simp) ((rdV_same (h1 y (by simp))).trans hy)]
  have : (eqGuard .rem t x y (.int k a) (.int k b) >>= fun _ => binOp .rem t (.int k a) (.int k b)).run P w = .ok (.int k (a.tmod b)) w := by
    simp only [eqGuard, binOp, ne_eq, not_true_eq_false, if_false, Op.intDiv, hb0]
    rfl
  exact bind_value this
/-! ### '==' between structs -/
def isFlat : TypeDesc → Bool
  | .struct _ => false
  | .array _ _ => false
  | _ => true
def eqCell (P : Program) (t : TypeId) : Value → Value → Option Bool
  | .int k a, .int k' b => match P.underlying t with
    | some (.int _) => match decide (k = k') with
      | true => some (a == b)
      | false => none
    | _ => none
  | .bool a, .bool b => match P.underlying t with
    | some .bool => some (a == b)
    | _ => none
  | .string a, .string b => match P.underlying t with
    | some .string => some (a.toList == b.toList)
    | _ => none
  | _, _ => none
def eqRow (P : Program) (xs ys : List Value) : List Field → Option Bool
  | [] => some true
  | [f] => match xs[f.offset]? with
    | some x => match ys[f.offset]? with
      | some y => eqCell P f.type x y
      | none => none
    | none => none
  | f :: r => match xs[f.offset]? with
    | some x => match ys[f.offset]? with
      | some y => match eqCell P f.type x y with
        | some b => match eqRow P xs ys r with
          | some c => some (b && c)
          | none => none
        | none => none
      | none => none
    | none => none
def namesOk : List Field → Bool
  | [] => true
  | f :: r => !(f.name == "_") && namesOk r
/-- a struct type whose values '==' compares cell by cell -/
def EqOk (P : Program) (t : TypeId) : Prop := P.underlying t = some (.struct (P.fieldsOf t)) ∧ P.stoodInHeld t = false ∧ P.eqGuardType P.depth t = false ∧ namesOk (P.fieldsOf t).toList = true

theorem part_cell {t : TypeId} {xs : Array Value} {off : Nat} {v : Value} (hv : xs[off]? = some v) {d : TypeDesc} (hu : P.underlying t = some d) (ha : isFlat d = true) (w : World) : (part t xs off).run P w = .ok v w := by
  unfold part isAgg
  simp only [underlying, program, Sem.bind, bind, pure, Sem.run, hu]
  cases d <;> first | (cases ha; done) | simp [Sem.bind, hv]
theorem eqCell_run {t : TypeId} {x y : Value} {b : Bool} (h : eqCell P t x y = some b) : (∃ d, P.underlying t = some d ∧ isFlat d = true) ∧ ∀ d w, (Op.equalIn (d + 1) t x y).run P w = .ok b w := by
  unfold eqCell at h
  split at h
  · split at h
    · rename_i hu
      split at h
      · rename_i hk
        cases h
        have := of_decide_eq_true hk
        subst this
        exact ⟨⟨_, hu, rfl⟩, fun d w => run_equalIn_int w d t _ _ _ _ hu⟩
      · cases h
    · cases h
  · split at h
    · rename_i a b' hu
      cases h
      exact ⟨⟨_, hu, rfl⟩, fun d w => run_equalIn_bool' w d t _ _ hu⟩
    · cases h
  · split at h
    · rename_i a b' hu
      cases h
      exact ⟨⟨_, hu, rfl⟩, fun d w => run_equalIn_string w d t _ _ hu⟩
    · cases h
  · cases h

theorem eqRow_cons {xs ys : List Value} {f : Field} {r : List Field} {b : Bool} (h : eqRow P xs ys (f :: r) = some b) : ∃ x y c b', xs[f.offset]? = some x ∧ ys[f.offset]? = some y ∧ eqCell P f.type x y = some c ∧ eqRow P xs ys r = some b' ∧ b = (c && b') := by
  cases r with
  | nil =>
    simp only [eqRow] at h
    split at h
    · rename_i x hx
      split at h
      · rename_i y hy
        exact ⟨x, y, b, true, hx, hy, h, rfl, by simp⟩
      · cases h
    · cases h
  | cons f2 r =>
    simp only [eqRow] at h
    split at h
    · rename_i x hx
      split at h
      · rename_i y hy
        split at h
        · rename_i c hc
          split at h
          · rename_i b' hb'
            cases h
            exact ⟨x, y, c, b', hx, hy, hc, hb', rfl⟩
          · cases h
        · cases h
      · cases h
    · cases h

theorem eqRow_run {xs ys : List Value} (d : Nat) : ∀ (fs : List Field) (b : Bool), namesOk fs = true → eqRow P xs ys fs = some b → ∀ w, (Op.eqFields (d + 1) xs.toArray ys.toArray fs).run P w = .ok b w
  | [], b, _, h, w => by simp [eqRow] at h; subst h; rfl
  | f :: r, b, hn, h, w => by
    obtain ⟨x, y, c, b', hx, hy, hc, hr, rfl⟩ := eqRow_cons h
    simp only [namesOk, Bool.and_eq_true, Bool.not_eq_true', beq_eq_false_iff_ne] at hn
    obtain ⟨⟨dd, hu, ha⟩, he⟩ := eqCell_run hc
    unfold Op.eqFields
    rw [if_pos hn.1, run_bind_ok (part_cell (by simpa using hx) hu ha w), run_bind_ok (part_cell (by simpa using hy) hu ha w), run_bind_ok (he d w)]
    cases c with
    | true => simp only [Bool.not_true, Bool.false_eq_true, if_false, Bool.true_and]; exact eqRow_run d r b' hn.2 hr w
    | false => rfl

theorem eqS_run {t : TypeId} {x y : Operand} {xs ys : List Value} {b : Bool} (ht : EqOk P t) (he : eqRow P xs ys (P.fieldsOf t).toList = some b) (w : World) :
    (eqGuard .eql t x y (.agg xs.toArray) (.agg ys.toArray) >>= fun _ => binOp .eql t (.agg xs.toArray) (.agg ys.toArray)).run P w = .ok (.bool b) w := by
  obtain ⟨h1, h2, h3, h4⟩ := ht
  rw [run_bind_ok (run_eqGuard_agg w .eql t x y _ _ h3), run_eql_struct, run_equalIn_struct w 9999 t _ _ h1 h2, eqRow_run 9998 _ b h4 he w]
  rfl
theorem neS_run {t : TypeId} {x y : Operand} {xs ys : List Value} {b : Bool} (ht : EqOk P t) (he : eqRow P xs ys (P.fieldsOf t).toList = some b) (w : World) :
    (eqGuard .neq t x y (.agg xs.toArray) (.agg ys.toArray) >>= fun _ => binOp .neq t (.agg xs.toArray) (.agg ys.toArray)).run P w = .ok (.bool (!b)) w := by
  obtain ⟨h1, h2, h3, h4⟩ := ht
  rw [run_bind_ok (run_eqGuard_agg w .neq t x y _ _ h3), run_neq_struct, run_equalIn_struct w 9999 t _ _ h1 h2, eqRow_run 9998 _ b h4 he w]
  rfl

def rdCs (F : FS) (x : Operand) : Option (List Value) :=
  match rd F x with
  | some (.agg cs) => cellVals cs
  | _ => none
theorem rdCs_eval {ρ : Env} {M : Mem} {a : Act} {xs : List Operand} (h : Reads F a ρ M xs) {x : Operand} (hx : x ∈ xs) {l : List Value} (hv : rdCs F x = some l) : a.eval x = .agg l.toArray := by
  unfold rdCs at hv
  split at hv
  · rename_i cs hcs
    obtain ⟨arr, e, h2⟩ := h x hx _ hcs
    rw [e, ← cellVals_rep hv h2]
  · cases hv
theorem rdCs_same {F' : FS} {x : Operand} (h : opnd F' x = opnd F x) : rdCs F' x = rdCs F x := by unfold rdCs; rw [rd_same h]
theorem triEqS {t t' : TypeId} {x y : Operand} {xs ys : List Value} {b : Bool} (hx : rdCs F x = some xs) (hy : rdCs F y = some ys) (ht : EqOk P t) (he : eqRow P xs ys (P.fieldsOf t).toList = some b) (hs : sideOk F true [x, y]) (hn : Nat.blt dst C.n = true) :
    TriL P C ops ⟨some dst, .binOp .eql t x y t', ty, pos, after, none⟩ ⟨slotsOf [x, y], [], [dst], []⟩ [(dst, .s (.c (.d (.v (.bool b)))))] [] F := by
  refine ⟨⟨rfl, rfl⟩, fun F' hS => ?_⟩
  have h1 := opnd_same hS.1
  refine Tri.quiet (x := .c (.d (.v (.bool b)))) rfl rfl hn (fun ρ M a' w hr => ⟨_, ?_, Rep.v _⟩)
  have hR := reads_of hr rfl (sideOk_same h1 hs)
  unfold execOp
  simp only
  rw [rdCs_eval hR (by simp) ((rdCs_same (h1 x (by simp))).trans hx), rdCs_eval hR (by simp) ((rdCs_same (h1 y (by simp))).trans hy)]
  exact bind_value (eqS_run ht he w)
theorem triEqSG {t t' : TypeId} {x y : Operand} {xs ys : List Value} {b : Bool} {k : Nat} {want g : Bool} (hb : guardB F ops k want = some g) (hx : rdCs F x = some xs) (hy : rdCs F y = some ys) (ht : EqOk P t) (he : eqRow P xs ys (P.fieldsOf t).toList = some b) (hs : sideOk F g [x, y]) (hn : Nat.blt dst C.n = true) :
    TriL P C ops ⟨some dst, .binOp .eql t x y t', ty, pos, after, some (k, want)⟩ ⟨gSlot ops k ++ slotsOf [x, y], [], [dst], []⟩ [(dst, .gd g (.c (.d (.v (.bool b)))))] [] F := by
  refine ⟨⟨rfl, rfl⟩, fun F' hS => ?_⟩
  have h1 := opnd_same (F := F) (F' := F') (xs := [x, y]) (fun t ht => hS.1 t (by simp [ht]))
  refine Tri.quietG (x := .c (.d (.v (.bool b)))) rfl ((guardB_same (fun t ht => hS.1 t (by simp [ht]))).trans hb) rfl hn (fun hg ρ M a' w hr => ⟨_, ?_, Rep.v _⟩)
  have hR := reads_of hr hg (sideOk_same h1 hs)
  unfold execOp
  simp only
  rw [rdCs_eval hR (by simp) ((rdCs_same (h1 x (by simp))).trans hx), rdCs_eval hR (by simp) ((rdCs_same (h1 y (by simp))).trans hy)]
  exact bind_value (eqS_run ht he w)
theorem triNeS {t t' : TypeId} {x y : Operand} {xs ys : List Value} {b : Bool} (hx : rdCs F x = some xs) (hy : rdCs F y = some ys) (ht : EqOk P t) (he : eqRow P xs ys (P.fieldsOf t).toList = some b) (hs : sideOk F true [x, y]) (hn : Nat.blt dst C.n = true) :
    TriL P C ops ⟨some dst, .binOp .neq t x y t', ty, pos, after, none⟩ ⟨slotsOf [x, y], [], [dst], []⟩ [(dst, .s (.c (.d (.v (.bool (!b))))))] [] F := by
  refine ⟨⟨rfl, rfl⟩, fun F' hS => ?_⟩
  have h1 := opnd_same hS.1
  refine Tri.quiet (x := .c (.d (.v (.bool (!b))))) rfl rfl hn (fun ρ M a' w hr => ⟨_, ?_, Rep.v _⟩)
  have hR := reads_of hr rfl (sideOk_same h1 hs)
  unfold execOp
  simp only
  rw [rdCs_eval hR (by simp) ((rdCs_same (h1 x (by simp))).trans hx), rdCs_eval hR (by simp) ((rdCs_same (h1 y (by simp))).trans hy)]
  exact bind_value (neS_run ht he w)
theorem triNeSG {t t' : TypeId} {x y : Operand} {xs ys : List Value} {b : Bool} {k : Nat} {want g : Bool} (hb : guardB F ops k want = some g) (hx : rdCs F x = some xs) (hy : rdCs F y = some ys) (ht : EqOk P t) (he : eqRow P xs ys (P.fieldsOf t).toList = some b) (hs : sideOk F g [x, y]) (hn : Nat.blt dst C.n = true) :
    TriL P C ops ⟨some dst, .binOp .neq t x y t', ty, pos, after, some (k, want)⟩ ⟨gSlot ops k ++ slotsOf [x, y], [], [dst], []⟩ [(dst, .gd g (.c (.d (.v (.bool (!b))))))] [] F := by
  refine ⟨⟨rfl, rfl⟩, fun F' hS => ?_⟩
  have h1 := opnd_same (F := F) (F' := F') (xs := [x, y]) (fun t ht => hS.1 t (by simp [ht]))
  refine Tri.quietG (x := .c (.d (.v (.bool (!b))))) rfl ((guardB_same (fun t ht => hS.1 t (by simp [ht]))).trans hb) rfl hn (fun hg ρ M a' w hr => ⟨_, ?_, Rep.v _⟩)
  have hR := reads_of hr hg (sideOk_same h1 hs)
  unfold execOp
  simp only
  rw [rdCs_eval hR (by simp) ((rdCs_same (h1 x (by simp))).trans hx), rdCs_eval hR (by simp) ((rdCs_same (h1 y (by simp))).trans hy)]
  exact bind_value (neS_run ht he w)
end Go.E2

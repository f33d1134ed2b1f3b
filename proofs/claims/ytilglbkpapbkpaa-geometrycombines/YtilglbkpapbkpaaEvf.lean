/-
  Knowing less: loops and joins by a state that is written out; division.
-/
import Derived.Test.YtilglbkpapbkpaaEve
import Derived.LoopN
namespace Go.Ev
variable {P : Program} {C : Ctx}

/-- a state speaks of no object but its own -/
def Scoped (F : FS) : Prop := ∀ ρ ρ', Agree F.bl ρ ρ' → (∀ s v, F.sl s = some v → v.den ρ' = v.den ρ) ∧ (∀ j cs ty, F.bl j = some (.blk cs ty) → cs.map (Cell.den ρ') = cs.map (Cell.den ρ))

theorem Rel.drop {F F' : FS} {ρ : Env} {M : Mem} {a : Act} {w : World} (hr : Rel C F ρ M a w) (hsl : ∀ s v, F'.sl s = some v → F.sl s = some v) (hbl : ∀ j v, F'.bl j = some v → v = .dead ∨ F.bl j = some v) (hs : Scoped F') : Rel C F' ρ M a w := by
  intro ρ' ha
  have h0 := hr.at
  have hb : ∀ j cs ty, F'.bl j = some (.blk cs ty) → F.bl j = some (.blk cs ty) := fun j cs ty hj => (hbl _ _ hj).resolve_left (by simp)
  have hf : ∀ j f, F'.bl j = some (.fact f) → F.bl j = some (.fact f) := fun j f hj => (hbl _ _ hj).resolve_left (by simp)
  obtain ⟨s1, s2⟩ := hs ρ ρ' ha
  have e : ∀ j v, F'.bl j = some v → ρ' j = ρ j := fun j v hj => ha j (by rw [hj]; simp)
  refine ⟨h0.defers, h0.size, fun s v hv => by rw [s1 s v hv]; exact h0.slots s v (hsl s v hv), ?_⟩
  refine ⟨fun j cs ty hj => ?_, fun i j c1 t1 c2 t2 hi hj hij => ?_, fun j cs ty hj => ?_, fun j f hj => ?_, h0.heap.mem, h0.heap.kept⟩
  · rw [e j _ hj, s2 j cs ty hj]; exact h0.heap.objs j cs ty (hb _ _ _ hj)
  · rw [e i _ hi, e j _ hj] at hij
    exact h0.heap.dist i j _ _ _ _ (hb _ _ _ hi) (hb _ _ _ hj) hij
  · rw [e j _ hj]; exact h0.heap.priv j cs ty (hb _ _ _ hj)
  · rw [e j _ hj]; exact h0.heap.fact j f (hf _ _ hj)

/-! ### the check that a written state is scoped -/
def Cell.inB (bl : List (Nat × Ob)) : Cell → Bool
  | .v _ => true
  | .loc j _ => match look bl j with | some _ => true | none => false
  | .sym j => match look bl j with | some _ => true | none => false
def cellsIn (bl : List (Nat × Ob)) : List Cell → Bool
  | [] => true
  | c :: r => match c.inB bl with
    | true => cellsIn bl r
    | false => false
def A1.inB (bl : List (Nat × Ob)) : A1 → Bool
  | .c x => x.inB bl
  | .agg cs => cellsIn bl cs
def a1sIn (bl : List (Nat × Ob)) : List A1 → Bool
  | [] => true
  | c :: r => match c.inB bl with
    | true => a1sIn bl r
    | false => false
def AV.inB (bl : List (Nat × Ob)) : AV → Bool
  | .s x => x.inB bl
  | .gd _ x => x.inB bl
  | .tup xs => a1sIn bl xs
def slIn (bl : List (Nat × Ob)) : List (Nat × AV) → Bool
  | [] => true
  | (_, v) :: r => match v.inB bl with
    | true => slIn bl r
    | false => false
def blIn (bl : List (Nat × Ob)) : List (Nat × Ob) → Bool
  | [] => true
  | (_, .blk cs _) :: r => match cellsIn bl cs with
    | true => blIn bl r
    | false => false
  | _ :: r => blIn bl r
def scopedB (st : AState) : Bool := match slIn st.bl st.sl with
  | true => blIn st.bl st.bl
  | false => false

section
variable {bl : List (Nat × Ob)} {ρ ρ' : Env}
theorem Cell.inB_den (ha : Agree (look bl) ρ ρ') {c : Cell} (h : c.inB bl = true) : c.den ρ' = c.den ρ := by
  cases c with
  | v x => rfl
  | loc j off =>
    simp only [Cell.inB] at h
    split at h
    · rename_i o ho; simp only [Cell.den, ha j (by rw [ho]; simp)]
    · cases h
  | sym j =>
    simp only [Cell.inB] at h
    split at h
    · rename_i o ho; simp only [Cell.den, ha j (by rw [ho]; simp)]
    · cases h
theorem cellsIn_den (ha : Agree (look bl) ρ ρ') : ∀ {cs : List Cell}, cellsIn bl cs = true → cs.map (Cell.den ρ') = cs.map (Cell.den ρ)
  | [], _ => rfl
  | c :: r, h => by
    simp only [cellsIn] at h
    split at h
    · rename_i hc; simp only [List.map_cons, Cell.inB_den ha hc, cellsIn_den ha h]
    · cases h
theorem A1.inB_den (ha : Agree (look bl) ρ ρ') {x : A1} (h : x.inB bl = true) : x.den ρ' = x.den ρ := by
  cases x with
  | c y => exact Cell.inB_den ha h
  | agg cs => simp only [A1.den, cellsIn_den ha h]
theorem a1sIn_den (ha : Agree (look bl) ρ ρ') : ∀ {xs : List A1}, a1sIn bl xs = true → xs.map (A1.den ρ') = xs.map (A1.den ρ)
  | [], _ => rfl
  | c :: r, h => by
    simp only [a1sIn] at h
    split at h
    · rename_i hc; simp only [List.map_cons, A1.inB_den ha hc, a1sIn_den ha h]
    · cases h
theorem AV.inB_den (ha : Agree (look bl) ρ ρ') {v : AV} (h : v.inB bl = true) : v.den ρ' = v.den ρ := by
  cases v with
  | s x => exact A1.inB_den ha h
  | gd g x => simp only [AV.den, A1.inB_den ha h]
  | tup xs => simp only [AV.den, a1sIn_den ha h]
theorem slIn_spec : ∀ {sl : List (Nat × AV)}, slIn bl sl = true → ∀ s v, look sl s = some v → v.inB bl = true
  | [], _, s, v, h => by cases h
  | (k, u) :: r, h, s, v, hl => by
    simp only [slIn] at h
    split at h
    · rename_i hu
      rw [look_cons] at hl
      split at hl
      · cases hl; exact hu
      · exact slIn_spec h s v hl
    · cases h
theorem blIn_spec : ∀ {l : List (Nat × Ob)}, blIn bl l = true → ∀ j cs ty, look l j = some (.blk cs ty) → cellsIn bl cs = true
  | [], _, j, cs, ty, h => by cases h
  | (k, u) :: r, h, j, cs, ty, hl => by
    rw [look_cons] at hl
    cases u with
    | dead =>
      simp only [blIn] at h
      split at hl
      · cases hl
      · exact blIn_spec h j cs ty hl
    | fact f =>
      simp only [blIn] at h
      split at hl
      · cases hl
      · exact blIn_spec h j cs ty hl
    | blk cs' ty' =>
      simp only [blIn] at h
      split at h
      · rename_i hc
        split at hl
        · cases hl; exact hc
        · exact blIn_spec h j cs ty hl
      · cases h
end
theorem scoped_of {st : AState} (h : scopedB st = true) : Scoped st.F := by
  unfold scopedB at h
  split at h
  · rename_i hs
    intro ρ ρ' ha
    exact ⟨fun s v hv => AV.inB_den ha (slIn_spec hs s v hv), fun j cs ty hj => cellsIn_den ha (blIn_spec h j cs ty hj)⟩
  · cases h

/-- st' follows from st -/
structure Less (st' st : AState) : Prop where
  sl : allLook (look st.sl) st'.sl
  bl : allObj (look st.bl) st'.bl
  sc : Scoped st'.F
theorem Less.mk' {st' st : AState} (h1 : allLook (look st.sl) st'.sl) (h2 : allObj (look st.bl) st'.bl) (h3 : scopedB st' = true) : Less st' st := ⟨h1, h2, scoped_of h3⟩
theorem Less.rel {st' st : AState} {ρ : Env} {M : Mem} {a : Act} {w : World} (h : Less st' st) (hr : Rel C st.F ρ M a w) : Rel C st'.F ρ M a w :=
  hr.drop (allLook_spec h.sl) (allObj_spec h.bl) h.sc
theorem Ok.less {c : Code} {Q : Exit → AState → Prop} {st st' : AState} (hs : Less st' st) (h : Ok P C c Q st') : Ok P C c Q st := fun ρ M a w hr => h ρ M a w (hs.rel hr)

def restrict : List Nat → List (Nat × AV) → List (Nat × AV)
  | [], _ => []
  | k :: r, sl => match look sl k with
    | some v => (k, v) :: restrict r sl
    | none => restrict r sl
def memB' (x : Nat) : List Nat → Bool
  | [] => false
  | y :: r => match Nat.beq x y with
    | true => true
    | false => memB' x r
def restrictB : List Nat → List (Nat × Ob) → List (Nat × Ob)
  | [], _ => []
  | k :: r, bl => match look bl k with
    | some v => (k, v) :: restrictB r bl
    | none => restrictB r bl

/-- a loop: the slots ks and the objects js stay as they are; vs, vb: what a round's head knows besides, by its ghost x -/
theorem Ok.loopK {c : Code} {Q : Exit → AState → Prop} {sl : List (Nat × AV)} {bl : List (Nat × Ob)} {nx : Nat} {X : Type} (ks js : List Nat) (vs : X → List (Nat × AV)) (vb : X → List (Nat × Ob)) (Inv : X → Prop) (μ : X → Nat) (x0 : X) (hi : Inv x0)
    (h0 : Less ⟨vs x0 ++ restrict ks sl, vb x0 ++ restrictB js bl, nx⟩ ⟨sl, bl, nx⟩)
    (round : ∀ x, Inv x → Ok P C c (thenQ (fun s => ∃ x', Inv x' ∧ μ x' < μ x ∧ Less ⟨vs x' ++ restrict ks sl, vb x' ++ restrictB js bl, nx⟩ s) Q) ⟨vs x ++ restrict ks sl, vb x ++ restrictB js bl, nx⟩) : Ok P C (.loop c) Q ⟨sl, bl, nx⟩ := by
  intro ρ M a w hr b k cs
  have key : ∀ n x, Inv x → μ x = n → ∀ ρ M a w, Rel C (AState.F ⟨vs x ++ restrict ks sl, vb x ++ restrictB js bl, nx⟩) ρ M a w →
      ∃ e a' w', sem C Q e a' w' ∧ Arrives P (lone (b.at a (.code c :: .inLoop c :: k)) cs w) b k cs e a' w' := by
    intro n
    induction n using Nat.strongRecOn with
    | _ n ih =>
      intro x hx hn ρ M a w hr
      obtain ⟨e, a₁, w₁, ⟨st', ρ', M', hr', hq⟩, harr⟩ := round x hx ρ M a w hr b (.inLoop c :: k) cs
      cases e with
      | normal =>
        obtain ⟨x', hx', hlt, hsub⟩ := hq
        obtain ⟨e₂, a₂, w₂, hq₂, harr₂⟩ := ih (μ x') (hn ▸ hlt) x' hx' rfl ρ' M' a₁ w₁ (hsub.rel hr')
        exact ⟨e₂, a₂, w₂, hq₂, .of_steps (Steps.trans harr (.one step_inLoop)) harr₂⟩
      | exit id => exact ⟨_, a₁, w₁, ⟨st', ρ', M', hr', hq⟩, .pass (x := .inLoop c) rfl (fun _ _ => .inl (by simp)) harr⟩
      | goto l => exact ⟨_, a₁, w₁, ⟨st', ρ', M', hr', hq⟩, .pass (x := .inLoop c) rfl (fun _ _ => .inl (by simp)) harr⟩
      | ret => exact ⟨_, a₁, w₁, ⟨st', ρ', M', hr', hq⟩, .pass (x := .inLoop c) rfl (fun _ _ => .inl (by simp)) harr⟩
      | panic ch => exact ⟨_, a₁, w₁, ⟨st', ρ', M', hr', hq⟩, .pass (x := .inLoop c) rfl (fun _ _ => .inl (by simp)) harr⟩
      | outgrown => exact ⟨_, a₁, w₁, ⟨st', ρ', M', hr', hq⟩, .pass (x := .inLoop c) rfl (fun _ _ => .inl (by simp)) harr⟩
  obtain ⟨e, a', w', hq, harr⟩ := key _ x0 hi rfl ρ M a w (h0.rel hr)
  exact ⟨e, a', w', hq, .of_steps (.one step_loop) harr⟩

/-- what both ways of a test must come to -/
def joinQ (st' : AState) : Exit → AState → Prop
  | .normal, s => Less st' s
  | _, _ => False
/-- a test whose two ways meet again: ps, pb: what they may have turned -/
theorem Ok.join {c : Operand} {x y z : Code} {Q Q2 : Exit → AState → Prop} {sl : List (Nat × AV)} {bl : List (Nat × Ob)} {nx : Nat} {b : Bool} (ks js : List Nat) (ps : List (Nat × AV)) (pb : List (Nat × Ob)) (nx' : Nat) (hc : getB ⟨look sl, look bl⟩ c = some b)
    (ht : b = true → Ok P C x (joinQ ⟨ps ++ restrict ks sl, pb ++ restrictB js bl, nx'⟩) ⟨sl, bl, nx⟩) (hf : b = false → Ok P C y (joinQ ⟨ps ++ restrict ks sl, pb ++ restrictB js bl, nx'⟩) ⟨sl, bl, nx⟩)
    (h : Ok P C z Q ⟨ps ++ restrict ks sl, pb ++ restrictB js bl, nx'⟩) : Ok P C (.cond c x y) (thenQ (fun s => Ok P C z Q s) Q2) ⟨sl, bl, nx⟩ := by
  have fin : ∀ {u : Code}, Ok P C u (joinQ ⟨ps ++ restrict ks sl, pb ++ restrictB js bl, nx'⟩) ⟨sl, bl, nx⟩ → Ok P C u (thenQ (fun s => Ok P C z Q s) Q2) ⟨sl, bl, nx⟩ := fun hu =>
    hu.mono fun e s hs => by
      cases e <;> first | exact Ok.less hs h | exact hs.elim
  exact Ok.cond (st := ⟨sl, bl, nx⟩) hc (fun e => fin (ht e)) (fun e => fin (hf e))

/-- Go's quotient and remainder by a number that is not 0 -/
theorem triQuo {F : FS} {ops : Array Oper} {dst : Nat} {ty : TypeId} {pos : String} {after : Array Edge} {t t' : TypeId} {x y : Operand} {k : IntKind} {a b : Int} (hx : rdV F x = some (.int k a)) (hy : rdV F y = some (.int k b)) (hs : sideOk F true [x, y]) (hb : b ≠ 0) (hn : Nat.blt dst C.n = true) :
    TriL P C ops ⟨some dst, .binOp .quo t x y t', ty, pos, after, none⟩ ⟨slotsOf [x, y], [], [dst], []⟩ [(dst, .s (.c (.v (.int k (k.wrap (a.tdiv b))))))] [] F := by
  refine ⟨⟨rfl, rfl⟩, fun F' hS => ?_⟩
  have h1 := opnd_same hS.1
  refine Tri.quiet (x := .c (.v (.int k (k.wrap (a.tdiv b))))) rfl rfl hn (fun ρ M a' w hr _ => ?_)
  have hR := reads_of hr rfl (sideOk_same h1 hs)
  unfold execOp
  simp only
  rw [rdV_eval hR (by simp) ((rdV_same (h1 x (by simp))).trans hx), rdV_eval hR (by simp) ((rdV_same (h1 y (by simp))).trans hy)]
  have : (eqGuard .quo t x y (.int k a) (.int k b) >>= fun _ => binOp .quo t (.int k a) (.int k b)).run P w = .ok (.int k (k.wrap (a.tdiv b))) w := by
    simp only [eqGuard, binOp, ne_eq, not_true_eq_false, if_false, Op.intDiv, hb]
    rfl
  exact bind_value this
theorem triRem {F : FS} {ops : Array Oper} {dst : Nat} {ty : TypeId} {pos : String} {after : Array Edge} {t t' : TypeId} {x y : Operand} {k : IntKind} {a b : Int} (hx : rdV F x = some (.int k a)) (hy : rdV F y = some (.int k b)) (hs : sideOk F true [x, y]) (hb : b ≠ 0) (hn : Nat.blt dst C.n = true) :
    TriL P C ops ⟨some dst, .binOp .rem t x y t', ty, pos, after, none⟩ ⟨slotsOf [x, y], [], [dst], []⟩ [(dst, .s (.c (.v (.int k (a.tmod b)))))] [] F := by
  refine ⟨⟨rfl, rfl⟩, fun F' hS => ?_⟩
  have h1 := opnd_same hS.1
  refine Tri.quiet (x := .c (.v (.int k (a.tmod b)))) rfl rfl hn (fun ρ M a' w hr _ => ?_)
  have hR := reads_of hr rfl (sideOk_same h1 hs)
  unfold execOp
  simp only
  rw [rdV_eval hR (by simp) ((rdV_same (h1 x (by simp))).trans hx), rdV_eval hR (by simp) ((rdV_same (h1 y (by simp))).trans hy)]
  have : (eqGuard .rem t x y (.int k a) (.int k b) >>= fun _ => binOp .rem t (.int k a) (.int k b)).run P w = .ok (.int k (a.tmod b)) w := by
    simp only [eqGuard, binOp, ne_eq, not_true_eq_false, if_false, Op.intDiv, hb]
    rfl
  exact bind_value this
/-! ### a loop of at most n rounds, walked round by round -/
def OkR (P : Program) (C : Ctx) (c : Code) (Q : Exit → AState → Prop) (n : Nat) (st : AState) : Prop := ∀ ρ M a w, Rel C st.F ρ M a w → Code.rounds P c (sem C Q) n a w
theorem Ok.rounds {c : Code} {Q : Exit → AState → Prop} {st : AState} (n : Nat) (h : OkR P C c Q n st) : Ok P C (.loop c) Q st := fun ρ M a w hr => wp_loop_rounds n (h ρ M a w hr)
theorem OkR.succ {c : Code} {Q : Exit → AState → Prop} {n : Nat} {st : AState} (h : Ok P C c (thenQ (fun s => OkR P C c Q n s) Q) st) : OkR P C c Q (n + 1) st := by
  intro ρ M a w hr
  rw [rounds_succ]
  refine wp_mono (h ρ M a w hr) ?_
  rintro e a' w' ⟨st', ρ', M', hr', hq⟩
  cases e <;> first | exact hq ρ' M' a' w' hr' | exact ⟨st', ρ', M', hr', hq⟩
end Go.Ev

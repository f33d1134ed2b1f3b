/-
  An abstract machine over the model: what is known of a frame's slots and of the blocks that a call owns, a calculus 'Ok' of code over it, and that it is sound for 'Code.wp'.
-/
import Derived.Tactics
import Derived.Below
import Derived.Orders
namespace Go.Ev
open Go.RowKit (Below)

/-- One cell: a plain value, a pointer into an owned block (by the object's index), or an object's value. -/
inductive Cell where
  | v (x : Value)
  | loc (j off : Nat)
  | sym (j : Nat)
inductive A1 where
  | c (x : Cell)
  | agg (cs : List Cell)
inductive AV where
  | s (x : A1)
  | gd (g : Bool) (x : A1)
  | tup (xs : List A1)
abbrev Mem := Nat → Option Obj
def Mem.le (M M' : Mem) : Prop := ∀ b o, M b = some o → M' b = some o
theorem Mem.le_refl (M : Mem) : M.le M := fun _ _ h => h
theorem Mem.le_trans {a b c : Mem} (h : a.le b) (h' : b.le c) : a.le c := fun x o hx => h' x o (h x o hx)
/-- What is known of a value in memory that no one writes any more. -/
structure Fact where
  φ : Value → Mem → Prop
  mono : ∀ v M M', Mem.le M M' → φ v M → φ v M'
inductive Ob where
  | dead
  | blk (cs : List Cell) (ty : TypeId)
  | fact (f : Fact)

abbrev Env := Nat → Value
def blockOf : Value → Nat
  | .pointer (some a) => a.block
  | _ => 0
def Cell.den (ρ : Env) : Cell → Value
  | .v x => x
  | .loc j off => .pointer (some ⟨blockOf (ρ j), off, none⟩)
  | .sym j => ρ j
def A1.den (ρ : Env) : A1 → Value
  | .c x => x.den ρ
  | .agg cs => .agg (cs.map (Cell.den ρ)).toArray
def AV.den (ρ : Env) : AV → Value
  | .s x => x.den ρ
  | .gd g x => if g then x.den ρ else undef
  | .tup xs => .tuple (xs.map (A1.den ρ)).toArray

def look {α : Type} : List (Nat × α) → Nat → Option α
  | [], _ => none
  | (k, v) :: r, n => match Nat.beq k n with
    | true => some v
    | false => look r n
theorem beq_false {a b : Nat} (h : a ≠ b) : Nat.beq a b = false := by
  cases hb : Nat.beq a b with
  | false => rfl
  | true => exact absurd (Nat.eq_of_beq_eq_true hb) h
theorem look_cons {α : Type} (k : Nat) (v : α) (r : List (Nat × α)) (n : Nat) : look ((k, v) :: r) n = if k = n then some v else look r n := by
  simp only [look]
  by_cases h : k = n
  · subst h; simp
  · simp [beq_false h, h]

/-- the state, as lookups -/
structure FS where
  sl : Nat → Option AV
  bl : Nat → Option Ob
/-- the state, written out; nx names the next object -/
structure AState where
  sl : List (Nat × AV)
  bl : List (Nat × Ob)
  nx : Nat
def AState.F (st : AState) : FS := ⟨look st.sl, look st.bl⟩
def over {α : Type} (l : List (Nat × α)) (f : Nat → Option α) : Nat → Option α := fun n => match look l n with | some v => some v | none => f n
def FS.upd (F : FS) (Ws : List (Nat × AV)) (Wb : List (Nat × Ob)) : FS := ⟨over Ws F.sl, over Wb F.bl⟩
theorem over_nil {α : Type} (f : Nat → Option α) : over [] f = f := by funext n; rfl
theorem over_one {α : Type} (k : Nat) (v : α) (f : Nat → Option α) (n : Nat) : over [(k, v)] f n = if k = n then some v else f n := by
  unfold over; rw [look_cons]; by_cases h : k = n <;> simp [h, look]
theorem over_look {α : Type} (a b : List (Nat × α)) : over a (look b) = look (a ++ b) := by
  funext n
  induction a with
  | nil => rfl
  | cons p r ih =>
    obtain ⟨k, v⟩ := p
    unfold over at ih ⊢
    rw [List.cons_append, look_cons, look_cons]
    by_cases h : k = n <;> simp [h, ← ih]

/-- What stays the same through a function: the world at its start, its number of slots, the blocks that it was given to write. -/
structure Ctx where
  w0 : World
  n : Nat
  g : Nat → Prop
structure Kept (g : Nat → Prop) (w w' : World) : Prop where
  os : w'.os = w.os
  tape : w'.tape = w.tape
  output : w'.output = w.output
  size : w.heap.size ≤ w'.heap.size
  block : ∀ k, k < w.heap.size → ¬ g k → w'.heap[k]? = w.heap[k]?
theorem Kept.trans {g : Nat → Prop} {a b c : World} (h : Kept g a b) (k : Kept g b c) : Kept g a c :=
  ⟨k.os.trans h.os, k.tape.trans h.tape, k.output.trans h.output, Nat.le_trans h.size k.size, fun i hi hg => (k.block i (Nat.lt_of_lt_of_le hi h.size) hg).trans (h.block i hi hg)⟩
theorem Kept.refl (g : Nat → Prop) (a : World) : Kept g a a := ⟨rfl, rfl, rfl, Nat.le_refl _, fun _ _ _ => rfl⟩
theorem Kept.below {w w' : World} (h : Kept (fun _ => False) w w') : Below w.heap.size w w' := ⟨h.os, h.tape, h.output, h.size, fun k hk => h.block k hk (fun h => h)⟩

structure RelW (C : Ctx) (bl : Nat → Option Ob) (ρ : Env) (M : Mem) (w : World) : Prop where
  objs : ∀ (j : Nat) cs ty, bl j = some (Ob.blk cs ty) → w.heap[blockOf (ρ j)]? = some (.cells (cs.map (Cell.den ρ)).toArray ty (0, 0))
  dist : ∀ (i j : Nat) cs ty cs' ty', bl i = some (Ob.blk cs ty) → bl j = some (Ob.blk cs' ty') → blockOf (ρ i) = blockOf (ρ j) → i = j
  priv : ∀ (j : Nat) cs ty, bl j = some (Ob.blk cs ty) → M (blockOf (ρ j)) = none ∧ (C.w0.heap.size ≤ blockOf (ρ j) ∨ C.g (blockOf (ρ j)))
  fact : ∀ (j : Nat) f, bl j = some (Ob.fact f) → f.φ (ρ j) M
  mem : ∀ b o, M b = some o → w.heap[b]? = some o
  kept : Kept C.g C.w0 w

structure Rel0 (C : Ctx) (F : FS) (ρ : Env) (M : Mem) (a : Act) (w : World) : Prop where
  defers : a.defers = []
  size : a.tmps.size = C.n
  slots : ∀ s v, F.sl s = some v → a.tmps.getD s undef = v.den ρ
  heap : RelW C F.bl ρ M w

def Agree (bl : Nat → Option Ob) (ρ ρ' : Env) : Prop := ∀ j, bl j ≠ none → ρ' j = ρ j
theorem Agree.refl (bl : Nat → Option Ob) (ρ : Env) : Agree bl ρ ρ := fun _ _ => rfl

def Rel (C : Ctx) (F : FS) (ρ : Env) (M : Mem) (a : Act) (w : World) : Prop := ∀ ρ', Agree F.bl ρ ρ' → Rel0 C F ρ' M a w
theorem Rel.at {C : Ctx} {F : FS} {ρ : Env} {M : Mem} {a : Act} {w : World} (h : Rel C F ρ M a w) : Rel0 C F ρ M a w := h _ (Agree.refl _ _)

def sem (C : Ctx) (Q : Exit → AState → Prop) : Exit → Act → World → Prop := fun e a w => ∃ st ρ M, Rel C st.F ρ M a w ∧ Q e st
def Ok (P : Program) (C : Ctx) (c : Code) (Q : Exit → AState → Prop) (st : AState) : Prop :=
  ∀ ρ M a w, Rel C st.F ρ M a w → c.wp P (sem C Q) a w
def OkOps (P : Program) (C : Ctx) (ops : Array Oper) (l : List Oper) (Q : AState → Prop) (st : AState) : Prop :=
  ∀ (Q' : Exit → Act → World → Prop), (∀ ρ M a w st', Rel C (AState.F st') ρ M a w → Q st' → Q' .normal a w) → ∀ ρ M a w, Rel C st.F ρ M a w → wpList P ops Q' l a w

section rules
variable {P : Program} {C : Ctx} {Q : Exit → AState → Prop} {st : AState}

def thenQ (next : AState → Prop) (Q : Exit → AState → Prop) : Exit → AState → Prop
  | .normal, st => next st
  | e, st => Q e st
def blockQ (id : Nat) (Q : Exit → AState → Prop) : Exit → AState → Prop
  | .exit id', st => match Nat.beq id' id with | true => Q .normal st | false => Q (.exit id') st
  | e, st => Q e st

theorem Ok.seq {x y : Code} (h : Ok P C x (thenQ (fun st => Ok P C y Q st) Q) st) : Ok P C (.seq x y) Q st := by
  intro ρ M a w hr
  refine wp_seq (wp_mono (h ρ M a w hr) ?_)
  rintro e a' w' ⟨st', ρ', M', hr', hq⟩
  cases e <;> first | exact hq ρ' M' a' w' hr' | exact ⟨st', ρ', M', hr', hq⟩

theorem Ok.block {id : Nat} {c : Code} (h : Ok P C c (blockQ id Q) st) : Ok P C (.block id c) Q st := by
  intro ρ M a w hr
  refine wp_block (wp_mono (h ρ M a w hr) ?_)
  rintro e a' w' ⟨st', ρ', M', hr', hq⟩
  cases e with
  | exit id' =>
    simp only [Exit.inBlock]
    by_cases hid : id' = id
    · rw [if_pos hid]; subst hid; exact ⟨st', ρ', M', hr', by simpa [blockQ] using hq⟩
    · rw [if_neg hid]
      refine ⟨st', ρ', M', hr', ?_⟩
      simp only [blockQ, beq_false hid] at hq
      exact hq
  | _ => exact ⟨st', ρ', M', hr', hq⟩

theorem Ok.skip (h : Q .normal st) : Ok P C .skip Q st := fun ρ M _ _ hr => wp_skip ⟨st, ρ, M, hr, h⟩
theorem Ok.exit {id : Nat} (h : Q (.exit id) st) : Ok P C (.exit id) Q st := fun ρ M _ _ hr => wp_exit ⟨st, ρ, M, hr, h⟩
theorem Ok.ret (h : Q .ret st) : Ok P C .ret Q st := fun ρ M _ _ hr => wp_ret ⟨st, ρ, M, hr, h⟩
theorem Ok.region {id : Nat} {l : List Oper} (h : OkOps P C l.toArray l (Q .normal) st) : Ok P C (.region id l.toArray false) Q st :=
  fun ρ M a w hr => wp_region_lit (h _ (fun ρ' M' _ _ st' hr' hq => ⟨st', ρ', M', hr', hq⟩) ρ M a w hr)
theorem Ok.mono {c : Code} {Q' : Exit → AState → Prop} (h : Ok P C c Q' st) (hq : ∀ e st, Q' e st → Q e st) : Ok P C c Q st :=
  fun ρ M a w hr => wp_mono (h ρ M a w hr) fun _ _ _ ⟨st', ρ', M', hr', h'⟩ => ⟨st', ρ', M', hr', hq _ _ h'⟩

/-- the value of an operand -/
def opnd (F : FS) : Operand → Option AV
  | .tmp t => F.sl t
  | .const v => some (.s (.c (.v v)))
  | .global g => some (.s (.c (.v (.pointer (some ⟨g, 0, none⟩)))))
  | .func f => some (.s (.c (.v (.func (.func f) #[] #[]))))

theorem opnd_den {F : FS} {ρ : Env} {M : Mem} {a : Act} {w : World} (hr : Rel0 C F ρ M a w) {x : Operand} {v : AV} (h : opnd F x = some v) : a.eval x = v.den ρ := by
  cases x with
  | tmp t => exact hr.slots _ _ h
  | const u => simp only [opnd, Option.some.injEq] at h; subst h; rfl
  | global g => simp only [opnd, Option.some.injEq] at h; subst h; rfl
  | func f => simp only [opnd, Option.some.injEq] at h; subst h; rfl

def getB (F : FS) (x : Operand) : Option Bool :=
  match opnd F x with
  | some (.s (.c (.v (.bool b)))) => some b
  | _ => none
theorem getB_den {F : FS} {ρ : Env} {M : Mem} {a : Act} {w : World} (hr : Rel0 C F ρ M a w) {x : Operand} {b : Bool} (h : getB F x = some b) : a.eval x = .bool b := by
  unfold getB at h
  split at h
  · rename_i b' h'; simp only [Option.some.injEq] at h; subst h; exact opnd_den hr h'
  · cases h

theorem Ok.cond {c : Operand} {x y : Code} {b : Bool} (hc : getB st.F c = some b) (ht : b = true → Ok P C x Q st) (hf : b = false → Ok P C y Q st) : Ok P C (.cond c x y) Q st := by
  intro ρ M a w hr
  exact wp_cond_split (getB_den hr.at hc) (fun h => ht h ρ M a w hr) (fun h => hf h ρ M a w hr)

/-- F' knows less than F -/
structure Sub (F' F : FS) : Prop where
  sl : ∀ s v, F'.sl s = some v → F.sl s = some v
  bl : ∀ s v, F'.bl s = some v → v = .dead ∨ F.bl s = some v
  dom : ∀ s, F.bl s ≠ none → F'.bl s ≠ none

theorem Sub.rel {F F' : FS} {ρ : Env} {M : Mem} {a : Act} {w : World} (h : Sub F' F) (hr : Rel C F ρ M a w) : Rel C F' ρ M a w := by
  intro ρ' ha
  have h0 := hr ρ' (fun j hj => ha j (h.dom j hj))
  have hb : ∀ j cs ty, F'.bl j = some (.blk cs ty) → F.bl j = some (.blk cs ty) := fun j cs ty hj => (h.bl _ _ hj).resolve_left (by simp)
  have hf : ∀ j f, F'.bl j = some (.fact f) → F.bl j = some (.fact f) := fun j f hj => (h.bl _ _ hj).resolve_left (by simp)
  refine ⟨h0.defers, h0.size, fun s v hv => h0.slots s v (h.sl s v hv), ?_⟩
  exact ⟨fun j cs ty hj => h0.heap.objs j cs ty (hb _ _ _ hj), fun i j _ _ _ _ hi hj => h0.heap.dist i j _ _ _ _ (hb _ _ _ hi) (hb _ _ _ hj), fun j cs ty hj => h0.heap.priv j cs ty (hb _ _ _ hj),
    fun j f hj => h0.heap.fact j f (hf _ _ hj), h0.heap.mem, h0.heap.kept⟩

theorem Ok.weaken {c : Code} {st' : AState} (hs : Sub st'.F st.F) (h : Ok P C c Q st') : Ok P C c Q st := fun ρ M a w hr => h ρ M a w (hs.rel hr)

/-! ### one operation -/
theorem eval_put_ne {a : Act} {d s : Nat} {u : Value} (h : d ≠ s) : (a.put (some d) u).tmps.getD s undef = a.tmps.getD s undef := by
  simp only [Act.put, Array.getD_eq_getD_getElem?, Array.getElem?_setIfInBounds_ne h]
theorem eval_put_eq {a : Act} {d : Nat} {u : Value} (h : d < a.tmps.size) : (a.put (some d) u).tmps.getD d undef = u := by
  simp [Act.put, h]

theorem Rel0.put {F : FS} {ρ : Env} {M M' : Mem} {a : Act} {w w' : World} {d : Nat} {v : AV} {u : Value} {bl' : Nat → Option Ob} (hr : Rel0 C F ρ M a w) (hd : d < C.n) (hu : u = v.den ρ)
    (hw : RelW C bl' ρ M' w') : Rel0 C ⟨over [(d, v)] F.sl, bl'⟩ ρ M' (a.put (some d) u) w' := by
  refine ⟨hr.defers, by simpa [Act.put] using hr.size, fun s v' hv => ?_, hw⟩
  simp only [over_one] at hv
  by_cases hds : d = s
  · subst hds
    rw [if_pos rfl] at hv
    cases hv
    rw [eval_put_eq (by rw [hr.size]; exact hd), hu]
  · rw [if_neg hds] at hv
    rw [eval_put_ne hds]
    exact hr.slots s v' hv

/-- the operation o, from a state F to a state F' -/
def Tri (P : Program) (C : Ctx) (ops : Array Oper) (o : Oper) (F F' : FS) : Prop :=
  ∀ (Q' : Exit → Act → World → Prop) (K' : Act → World → Prop), (∀ ρ M a w, Rel C F' ρ M a w → K' a w) → ∀ ρ M a w, Rel C F ρ M a w →
    if Region.wanted o (yielded ops a.tmps) then o.wp P a w K' Q' ∨ (o.asks P a w ∧ LetsOut Q') else K' (a.put o.dst undef) w

theorem wanted_none {o : Oper} {y : Nat → Option Bool} (h : o.guard = none) : Region.wanted o y = true := by simp [Region.wanted, h]

theorem OkOps.step {ops : Array Oper} {o : Oper} {rest : List Oper} {Q : AState → Prop} {Ws : List (Nat × AV)} {Wb : List (Nat × Ob)} {nx' : Nat} (ht : Tri P C ops o st.F (st.F.upd Ws Wb))
    (h : OkOps P C ops rest Q ⟨Ws ++ st.sl, Wb ++ st.bl, nx'⟩) : OkOps P C ops (o :: rest) Q st := by
  intro Q' hQ ρ M a w hr
  unfold wpList
  refine ht Q' (wpList P ops Q' rest) (fun ρ' M' a' w' hr' => h Q' hQ ρ' M' a' w' ?_) ρ M a w hr
  have : AState.F ⟨Ws ++ st.sl, Wb ++ st.bl, nx'⟩ = st.F.upd Ws Wb := by
    simp only [AState.F, FS.upd, over_look]
  rw [this]; exact hr'

theorem OkOps.nil {ops : Array Oper} {Q : AState → Prop} (h : Q st) : OkOps P C ops [] Q st := fun _ hQ ρ M a w hr => hQ ρ M a w st hr h

/-- a quiet step under a guard g: it need only be known where g holds. -/
def QuietG (P : Program) (C : Ctx) (F : FS) (o : Oper) (g : Bool) (x : A1) : Prop :=
  ∀ ρ M a w, Rel0 C F ρ M a w → g = true → (execOp a.eval o).run P w = .ok (.value (x.den ρ)) w

theorem Tri.quiet {ops : Array Oper} {F : FS} {o : Oper} {d : Nat} {x : A1} (hg : o.guard = none) (hd : o.dst = some d) (hn : Nat.blt d C.n = true) (hq : QuietG P C F o true x) : Tri P C ops o F (F.upd [(d, .s x)] []) := by
  intro Q' K' hK ρ M a w hr
  rw [if_pos (wanted_none hg)]
  refine .inl ?_
  unfold Oper.wp
  rw [hq ρ M a w hr.at rfl]
  show K' (a.put o.dst _) w
  rw [hd]
  refine hK ρ M _ _ fun ρ' ha => ?_
  have h0 := hr ρ' (fun j hj => ha j (by rw [FS.upd, over_nil]; exact hj))
  have h1 : Result.ok (Next.value (x.den ρ)) w = Result.ok (Next.value (x.den ρ')) w := (hq ρ M a w hr.at rfl).symm.trans (hq ρ' M a w h0 rfl)
  simp only [Result.ok.injEq, Next.value.injEq, and_true] at h1
  exact h0.put (Nat.blt_eq.mp hn) h1 (by rw [over_nil]; exact h0.heap)

/-- is the guarded operation carried out? -/
def guardB (F : FS) (ops : Array Oper) (k : Nat) (want : Bool) : Option Bool :=
  match (ops[k]?).bind (·.dst) with
  | some t => match F.sl t with
    | some (.s (.c (.v (.bool b)))) => match want with | true => some b | false => some (!b)
    | some (.gd g (.c (.v (.bool b)))) => match want with | true => some (g && b) | false => some (g && !b)
    | _ => none
  | none => none

theorem getD_some {l : Array Value} {t : Nat} {v : Value} (h : l.getD t undef = v) (hv : v ≠ undef) : l[t]? = some v := by
  rw [Array.getD_eq_getD_getElem?] at h
  cases hl : l[t]? with
  | none => rw [hl] at h; exact absurd h.symm hv
  | some u => rw [hl] at h; simp at h; rw [h]

theorem guardB_wanted {F : FS} {ρ : Env} {M : Mem} {a : Act} {w : World} (hr : Rel0 C F ρ M a w) {ops : Array Oper} {o : Oper} {k : Nat} {want g : Bool} (hg : o.guard = some (k, want)) (h : guardB F ops k want = some g) :
    Region.wanted o (yielded ops a.tmps) = g := by
  unfold guardB at h
  simp only [Region.wanted, hg, yielded]
  cases ht : (ops[k]?).bind (·.dst) with
  | none => rw [ht] at h; cases h
  | some t =>
    rw [ht] at h
    simp only at h
    split at h
    · rename_i b hb
      have h1 := hr.slots _ _ hb
      have h2 := getD_some h1 (by simp [AV.den, A1.den, Cell.den, undef])
      simp only [Option.bind_some, h2, AV.den, A1.den, Cell.den]
      cases want <;> simp only [Option.some.injEq] at h <;> subst h <;> cases b <;> rfl
    · rename_i g' b hb
      have h1 := hr.slots _ _ hb
      cases g'
      · have hg0 : g = false := by cases want <;> simp at h <;> exact h
        subst hg0
        simp only [AV.den] at h1
        rw [Array.getD_eq_getD_getElem?] at h1
        simp only [Option.bind_some]
        cases hl : a.tmps[t]? with
        | none => cases want <;> rfl
        | some u =>
          rw [hl] at h1
          simp at h1
          subst h1
          cases want <;> rfl
      · have h2 := getD_some h1 (by simp [AV.den, A1.den, Cell.den, undef])
        simp only [Option.bind_some, h2, AV.den, A1.den, Cell.den, if_true]
        cases want <;> simp only [Bool.true_and, Option.some.injEq] at h <;> subst h <;> cases b <;> rfl
    · cases h

theorem Tri.quietG {ops : Array Oper} {F : FS} {o : Oper} {d k : Nat} {want g : Bool} {x : A1} (hg : o.guard = some (k, want)) (hb : guardB F ops k want = some g) (hd : o.dst = some d) (hn : Nat.blt d C.n = true)
    (hq : QuietG P C F o g x) : Tri P C ops o F (F.upd [(d, .gd g x)] []) := by
  intro Q' K' hK ρ M a w hr
  rw [guardB_wanted hr.at hg hb]
  cases g with
  | false =>
    rw [if_neg (by simp), hd]
    refine hK ρ M _ _ fun ρ' ha => ?_
    have h0 := hr ρ' (fun j hj => ha j (by rw [FS.upd, over_nil]; exact hj))
    exact h0.put (Nat.blt_eq.mp hn) rfl (by rw [over_nil]; exact h0.heap)
  | true =>
    rw [if_pos rfl]
    refine .inl ?_
    unfold Oper.wp
    rw [hq ρ M a w hr.at rfl]
    show K' (a.put o.dst _) w
    rw [hd]
    refine hK ρ M _ _ fun ρ' ha => ?_
    have h0 := hr ρ' (fun j hj => ha j (by rw [FS.upd, over_nil]; exact hj))
    have h1 : Result.ok (Next.value (x.den ρ)) w = Result.ok (Next.value (x.den ρ')) w := (hq ρ M a w hr.at rfl).symm.trans (hq ρ' M a w h0 rfl)
    simp only [Result.ok.injEq, Next.value.injEq, and_true] at h1
    exact h0.put (Nat.blt_eq.mp hn) (by rw [h1]; rfl) (by rw [over_nil]; exact h0.heap)

/-! ### loops -/
theorem Ok.loop {c : Code} {Q : Exit → AState → Prop} (X : Type) (I : X → AState) (Inv : X → Prop) (μ : X → Nat) (x0 : X) (hi : Inv x0) (h0 : Sub (I x0).F st.F)
    (round : ∀ x, Inv x → Ok P C c (thenQ (fun s => ∃ x', Inv x' ∧ μ x' < μ x ∧ Sub (I x').F s.F) Q) (I x)) : Ok P C (.loop c) Q st := by
  intro ρ M a w hr b k cs
  have key : ∀ n x, Inv x → μ x = n → ∀ ρ M a w, Rel C (I x).F ρ M a w →
      ∃ e a' w', sem C Q e a' w' ∧ Arrives P (lone (b.at a (.code c :: .inLoop c :: k)) cs w) b k cs e a' w' := by
    intro n
    induction n using Nat.strongRecOn with
    | _ n ih =>
      intro x hx hn ρ M a w hr
      obtain ⟨e, a₁, w₁, ⟨st', ρ', M', hr', hq⟩, harr⟩ := round x hx ρ M a w hr b (.inLoop c :: k) cs
      cases e with
      | normal =>
        obtain ⟨x', hx', hlt, hsub⟩ := hq
        obtain ⟨e₂, a₂, w₂, hq₂, harr₂⟩ := ih (μ x') (hn ▸ hlt) x' hx' rfl ρ' M' a₁ w₁ (hsub.rel hr')
        exact ⟨e₂, a₂, w₂, hq₂, .of_steps (Steps.trans harr (.one step_inLoop)) harr₂⟩
      | exit id => exact ⟨_, a₁, w₁, ⟨st', ρ', M', hr', hq⟩, .pass (x := .inLoop c) rfl (fun _ _ => .inl (by simp)) harr⟩
      | goto l => exact ⟨_, a₁, w₁, ⟨st', ρ', M', hr', hq⟩, .pass (x := .inLoop c) rfl (fun _ _ => .inl (by simp)) harr⟩
      | ret => exact ⟨_, a₁, w₁, ⟨st', ρ', M', hr', hq⟩, .pass (x := .inLoop c) rfl (fun _ _ => .inl (by simp)) harr⟩
      | panic ch => exact ⟨_, a₁, w₁, ⟨st', ρ', M', hr', hq⟩, .pass (x := .inLoop c) rfl (fun _ _ => .inl (by simp)) harr⟩
      | outgrown => exact ⟨_, a₁, w₁, ⟨st', ρ', M', hr', hq⟩, .pass (x := .inLoop c) rfl (fun _ _ => .inl (by simp)) harr⟩
  obtain ⟨e, a', w', hq, harr⟩ := key _ x0 hi rfl ρ M a w (h0.rel hr)
  exact ⟨e, a', w', hq, .of_steps (.one step_loop) harr⟩
end rules
end Go.Ev

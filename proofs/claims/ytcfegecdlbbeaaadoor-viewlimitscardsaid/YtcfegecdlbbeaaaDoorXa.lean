/-
  An abstract machine over the model, second form: slots and owned objects are described by data (numbers, texts, lists of rows, maps) that lie in memory which nobody writes any more; a calculus 'Ok' of code over it, sound for 'Code.wp'.
-/
import Derived.Tactics
import GoSem.Claims
import Derived.Test.YtcfegecdlbbeaaaDoorPu
import Derived.Below
import Derived.Orders
namespace Go.E2

/-! ### data and memory that stays -/
structure Mem where
  cell : Nat → Nat → Option Value
  obj : Nat → Option Obj
structure Mem.le (M M' : Mem) : Prop where
  cell : ∀ b o v, M.cell b o = some v → M'.cell b o = some v
  obj : ∀ b o, M.obj b = some o → M'.obj b = some o
theorem Mem.le_refl (M : Mem) : M.le M := ⟨fun _ _ _ h => h, fun _ _ h => h⟩
theorem Mem.le.trans {a b c : Mem} (h : a.le b) (h' : b.le c) : a.le c := ⟨fun x o v hx => h'.cell x o v (h.cell x o v hx), fun x o hx => h'.obj x o (h.obj x o hx)⟩

/-- the tables that the program reads lie in memory that stays -/
def Tab (P : Program) (M : Mem) : Prop :=
  (∀ g : Nat, P.globalNamed "unicode/utf8.first" = some g → ∀ (k : Nat) x, utf8First[k]? = some x → M.cell g k = some (.int .u8 x)) ∧
  (∀ g : Nat, P.globalNamed "unicode/utf8.acceptRanges" = some g → ∀ (k : Nat) x, utf8Accept[k]? = some x → M.cell g (k * 2) = some (.int .u8 x.1) ∧ M.cell g (k * 2 + 1) = some (.int .u8 x.2))
theorem Tab.mono {P : Program} {M M' : Mem} (h : Tab P M) (hle : M.le M') : Tab P M' :=
  ⟨fun g hg k x hx => hle.cell _ _ _ (h.1 g hg k x hx), fun g hg k x hx => ⟨hle.cell _ _ _ (h.2 g hg k x hx).1, hle.cell _ _ _ (h.2 g hg k x hx).2⟩⟩
inductive D where
  | v (x : Value)
  | sl (l : List (List D))
  | mp (agg : Bool) (l : List (Value × List D))

def mkVal (agg : Bool) (n : Nat) (g : Nat → Value) : Value := match agg with
  | true => .agg ((List.range n).map g).toArray
  | false => g 0
/-- the value v holds the datum, in memory that stays -/
inductive Rep (M : Mem) : D → Value → Prop
  | v (x : Value) : Rep M (.v x) x
  | nil {a : Option Addr} {cap : Nat} : Rep M (.sl []) (.slice a 0 cap)
  | sl {l : List (List D)} {b off cap sz : Nat} {f : Nat → Nat → Value} (hc : l.length ≤ cap) (hl : ∀ (i : Nat) row, l[i]? = some row → row.length = sz)
      (hm : ∀ (i : Nat) row (j : Nat) d, l[i]? = some row → row[j]? = some d → M.cell b (off + i * sz + j) = some (f i j))
      (he : ∀ (i : Nat) row (j : Nat) d, l[i]? = some row → row[j]? = some d → Rep M d (f i j)) : Rep M (.sl l) (.slice (some ⟨b, off, none⟩) l.length cap)
  | mp0 {agg : Bool} : Rep M (.mp agg []) (.map none)
  | mp {agg : Bool} {l : List (Value × List D)} {r clock : Nat} {es : Array MapEntry} {f : Nat → Nat → Value} (ho : M.obj r = some (.map es clock)) (hs : es.size = l.length)
      (hk : ∀ (i : Nat) k row, l[i]? = some (k, row) → ∃ born, es[i]? = some ⟨k, mkVal agg row.length (f i), born⟩)
      (he : ∀ (i : Nat) k row (j : Nat) d, l[i]? = some (k, row) → row[j]? = some d → Rep M d (f i j)) : Rep M (.mp agg l) (.map (some r))
theorem Rep.mono {M M' : Mem} (h : M.le M') {d : D} {v : Value} (hr : Rep M d v) : Rep M' d v := by
  induction hr with
  | v x => exact .v x
  | nil => exact .nil
  | sl hc hl hm _ ih => exact .sl hc hl (fun i row j d h1 h2 => h.cell _ _ _ (hm i row j d h1 h2)) ih
  | mp0 => exact .mp0
  | mp ho hs hk _ ih => exact .mp (h.obj _ _ ho) hs hk ih

/-! ### cells, values, objects -/
inductive Cell where
  /-- a datum -/
  | d (x : D)
  /-- a pointer into an owned object -/
  | loc (j off : Nat)
  /-- a pointer to data that stay -/
  | pt (row : List D)
  /-- a slice of data that stay, whose room behind it is the object j -/
  | tl (j : Nat) (l : List (List D))
  /-- the slice or map that is the object j -/
  | own (j : Nat)
  /-- a pointer into the slice that is the object j -/
  | vl (j off : Nat)
  /-- a function with captured pointers into owned objects -/
  | fn (f : FuncId) (caps : List (Nat × Nat))
inductive A1 where
  | c (x : Cell)
  | agg (cs : List Cell)
inductive AV where
  | s (x : A1)
  | gd (g : Bool) (x : A1)
  | tup (xs : List A1)
inductive Ob where
  | dead
  | blk (cs : List Cell) (ty : TypeId)
  | tail (sz : Nat)
  | vec (sz : Nat) (l : List (List D))
  | mp (agg : Bool) (l : List (Value × List D))
  | obj (o : Obj)

abbrev Env := Nat → Value
def blockOf : Value → Nat
  | .pointer (some a) => a.block
  | _ => 0
def ptr (ρ : Env) (j off : Nat) : Value := .pointer (some ⟨blockOf (ρ j), off, none⟩)
def vptr (ρ : Env) (j off : Nat) : Value := match ρ j with
  | .slice (some a) _ _ => .pointer (some ⟨a.block, a.off + off, none⟩)
  | _ => .pointer none
def PtRep (M : Mem) (row : List D) (v : Value) : Prop := ∃ b off, v = .pointer (some ⟨b, off, none⟩) ∧ ∀ (j : Nat) d, row[j]? = some d → ∃ u, M.cell b (off + j) = some u ∧ Rep M d u
def Cell.rep (ρ : Env) (M : Mem) : Cell → Value → Prop
  | .d x, v => Rep M x v
  | .loc j off, v => v = ptr ρ j off
  | .pt row, v => PtRep M row v
  | .tl j l, v => v = ρ j ∧ Rep M (.sl l) v
  | .own j, v => v = ρ j
  | .vl j off, v => v = vptr ρ j off
  | .fn f caps, v => v = .func (.func f) #[] (caps.map fun p => ptr ρ p.1 p.2).toArray
def Reps (ρ : Env) (M : Mem) : List Cell → List Value → Prop
  | [], [] => True
  | c :: cs, v :: vs => c.rep ρ M v ∧ Reps ρ M cs vs
  | _, _ => False
def A1.rep (ρ : Env) (M : Mem) : A1 → Value → Prop
  | .c x, v => x.rep ρ M v
  | .agg cs, v => ∃ arr : Array Value, v = .agg arr ∧ Reps ρ M cs arr.toList
def A1.reps (ρ : Env) (M : Mem) : List A1 → List Value → Prop
  | [], [] => True
  | x :: xs, v :: vs => x.rep ρ M v ∧ A1.reps ρ M xs vs
  | _, _ => False
def AV.rep (ρ : Env) (M : Mem) : AV → Value → Prop
  | .s x, v => x.rep ρ M v
  | .gd g x, v => match g with | true => x.rep ρ M v | false => v = undef
  | .tup xs, v => ∃ arr : Array Value, v = .tuple arr ∧ A1.reps ρ M xs arr.toList

theorem PtRep.mono {M M' : Mem} (h : M.le M') {row : List D} {v : Value} (hr : PtRep M row v) : PtRep M' row v := by
  obtain ⟨b, off, rfl, hd⟩ := hr
  exact ⟨b, off, rfl, fun j d hj => let ⟨u, h1, h2⟩ := hd j d hj; ⟨u, h.cell _ _ _ h1, h2.mono h⟩⟩
theorem Cell.rep.mono {ρ : Env} {M M' : Mem} (h : M.le M') {c : Cell} {v : Value} (hr : c.rep ρ M v) : c.rep ρ M' v := by
  cases c with
  | d x => exact Rep.mono h hr
  | loc j off => exact hr
  | pt row => exact PtRep.mono h hr
  | tl j l => exact ⟨hr.1, hr.2.mono h⟩
  | own j => exact hr
  | vl j off => exact hr
  | fn f caps => exact hr
theorem Reps.mono {ρ : Env} {M M' : Mem} (h : M.le M') : ∀ {cs : List Cell} {vs : List Value}, Reps ρ M cs vs → Reps ρ M' cs vs
  | [], [], _ => trivial
  | _ :: _, _ :: _, hr => ⟨Cell.rep.mono h hr.1, Reps.mono h hr.2⟩
  | [], _ :: _, hr => hr.elim
  | _ :: _, [], hr => hr.elim
theorem A1.rep.mono {ρ : Env} {M M' : Mem} (h : M.le M') {x : A1} {v : Value} (hr : x.rep ρ M v) : x.rep ρ M' v := by
  cases x with
  | c y => exact Cell.rep.mono h hr
  | agg cs => obtain ⟨arr, rfl, h2⟩ := hr; exact ⟨arr, rfl, h2.mono h⟩
theorem A1.reps.mono {ρ : Env} {M M' : Mem} (h : M.le M') : ∀ {cs : List A1} {vs : List Value}, A1.reps ρ M cs vs → A1.reps ρ M' cs vs
  | [], [], _ => trivial
  | _ :: _, _ :: _, hr => ⟨A1.rep.mono h hr.1, A1.reps.mono h hr.2⟩
  | [], _ :: _, hr => hr.elim
  | _ :: _, [], hr => hr.elim
theorem AV.rep.mono {ρ : Env} {M M' : Mem} (h : M.le M') {x : AV} {v : Value} (hr : x.rep ρ M v) : x.rep ρ M' v := by
  cases x with
  | s y => exact A1.rep.mono h hr
  | gd g y => cases g with
    | true => exact A1.rep.mono (x := y) h hr
    | false => exact hr
  | tup xs => obtain ⟨arr, rfl, h2⟩ := hr; exact ⟨arr, rfl, h2.mono h⟩

/-- the block that an object owns -/
def Ob.blkOf : Ob → Value → Option Nat
  | .blk _ _, v => some (blockOf v)
  | .tail _, .slice (some a) n c => if n < c then some a.block else none
  | .vec _ _, .slice (some a) _ c => if 0 < c then some a.block else none
  | .mp _ _, .map (some r) => some r
  | .obj _, v => some (blockOf v)
  | _, _ => none
/-- what an object's value says of memory -/
def Inv1 (ρ : Env) (M : Mem) (w : World) (ob : Ob) (v : Value) : Prop := match ob with
  | .dead => True
  | .blk cs ty => (∃ arr, w.heap[blockOf v]? = some (.cells arr ty (0, 0)) ∧ Reps ρ M cs arr.toList) ∧ ∀ o, M.cell (blockOf v) o = none
  | .tail sz => ∃ a len cap, v = .slice a len cap ∧ len ≤ cap ∧ (len < cap → ∃ b off arr ty, a = some ⟨b, off, none⟩ ∧ w.heap[b]? = some (.cells arr ty (0, 0)) ∧ off + cap * sz ≤ arr.size ∧ ∀ o, off + len * sz ≤ o → M.cell b o = none)
  | .vec sz l => ∃ a cap, v = .slice a l.length cap ∧ l.length ≤ cap ∧ (∀ (i : Nat) row, l[i]? = some row → row.length = sz) ∧ (0 < cap → ∃ (b off : Nat) (arr : Array Value) (ty : TypeId) (f : Nat → Nat → Value), a = some ⟨b, off, none⟩ ∧ w.heap[b]? = some (.cells arr ty (0, 0)) ∧ off + cap * sz ≤ arr.size ∧
      (∀ o, M.cell b o = none) ∧ (∀ (i : Nat) row (j : Nat) d, l[i]? = some row → row[j]? = some d → arr[off + i * sz + j]? = some (f i j) ∧ Rep M d (f i j)))
  | .mp agg l => ∃ (r : Nat) (es : Array MapEntry) (clock : Nat) (f : Nat → Nat → Value), v = .map (some r) ∧ w.heap[r]? = some (.map es clock) ∧ M.obj r = none ∧ es.size = l.length ∧ (∀ (i : Nat) k row, l[i]? = some (k, row) → ∃ born, es[i]? = some ⟨k, mkVal agg row.length (f i), born⟩) ∧
      (∀ (i : Nat) k row (j : Nat) d, l[i]? = some (k, row) → row[j]? = some d → Rep M d (f i j))
  | .obj o => w.heap[blockOf v]? = some o ∧ M.obj (blockOf v) = none ∧ ∀ c t f, o ≠ .cells c t f
theorem Inv1.keep {ρ : Env} {M M' : Mem} {w w' : World} {ob : Ob} {v : Value} (h : Inv1 ρ M w ob v) (hle : M.le M')
    (hb : ∀ b, ob.blkOf v = some b → w'.heap[b]? = w.heap[b]? ∧ (∀ o, M'.cell b o = M.cell b o) ∧ M'.obj b = M.obj b) : Inv1 ρ M' w' ob v := by
  cases ob with
  | dead => trivial
  | blk cs ty =>
    obtain ⟨h1, h2, _⟩ := hb _ rfl
    obtain ⟨⟨arr, ha, hr⟩, hn⟩ := h
    exact ⟨⟨arr, h1.trans ha, hr.mono hle⟩, fun o => (h2 o).trans (hn o)⟩
  | tail sz =>
    obtain ⟨a, len, cap, rfl, hl, hx⟩ := h
    refine ⟨a, len, cap, rfl, hl, fun hlt => ?_⟩
    obtain ⟨b, off, arr, ty, rfl, h1, h2, h3⟩ := hx hlt
    obtain ⟨g1, g2, _⟩ := hb b (by simp [Ob.blkOf, hlt])
    exact ⟨b, off, arr, ty, rfl, g1.trans h1, h2, fun o ho => (g2 o).trans (h3 o ho)⟩
  | vec sz l =>
    obtain ⟨a, cap, rfl, hl, hrow, hx⟩ := h
    refine ⟨a, cap, rfl, hl, hrow, fun hlt => ?_⟩
    obtain ⟨b, off, arr, ty, f, rfl, h1, h2, h3, h4⟩ := hx hlt
    obtain ⟨g1, g2, _⟩ := hb b (by simp [Ob.blkOf, hlt])
    exact ⟨b, off, arr, ty, f, rfl, g1.trans h1, h2, fun o => (g2 o).trans (h3 o), fun i row j d hi hj => ⟨(h4 i row j d hi hj).1, (h4 i row j d hi hj).2.mono hle⟩⟩
  | mp agg l =>
    obtain ⟨r, es, clock, f, rfl, h1, h2, h3, h4, h5⟩ := h
    obtain ⟨g1, _, g3⟩ := hb r rfl
    exact ⟨r, es, clock, f, rfl, g1.trans h1, g3.trans h2, h3, h4, fun i k row j d hi hj => (h5 i k row j d hi hj).mono hle⟩
  | obj o =>
    obtain ⟨g1, _, g3⟩ := hb _ rfl
    exact ⟨g1.trans h.1, g3.trans h.2.1, h.2.2⟩

/-! ### states -/
def look {α : Type} : List (Nat × α) → Nat → Option α
  | [], _ => none
  | (k, v) :: r, n => match Nat.beq k n with
    | true => some v
    | false => look r n
theorem beq_false {a b : Nat} (h : a ≠ b) : Nat.beq a b = false := by
  cases hb : Nat.beq a b with
  | false => rfl
  | true => exact absurd (Nat.eq_of_beq_eq_true hb) h
theorem look_cons {α : Type} (k : Nat) (v : α) (r : List (Nat × α)) (n : Nat) : look ((k, v) :: r) n = if k = n then some v else look r n := by
  simp only [look]
  by_cases h : k = n
  · subst h; simp
  · simp [beq_false h, h]
structure FS where
  sl : Nat → Option AV
  bl : Nat → Option Ob
structure AState where
  sl : List (Nat × AV)
  bl : List (Nat × Ob)
  nx : Nat
def AState.F (st : AState) : FS := ⟨look st.sl, look st.bl⟩
def over {α : Type} (l : List (Nat × α)) (f : Nat → Option α) : Nat → Option α := fun n => match look l n with | some v => some v | none => f n
def FS.upd (F : FS) (Ws : List (Nat × AV)) (Wb : List (Nat × Ob)) : FS := ⟨over Ws F.sl, over Wb F.bl⟩
theorem over_nil {α : Type} (f : Nat → Option α) : over [] f = f := by funext n; rfl
theorem over_one {α : Type} (k : Nat) (v : α) (f : Nat → Option α) (n : Nat) : over [(k, v)] f n = if k = n then some v else f n := by
  unfold over; rw [look_cons]; by_cases h : k = n <;> simp [h, look]
theorem over_look {α : Type} (a b : List (Nat × α)) : over a (look b) = look (a ++ b) := by
  funext n
  induction a with
  | nil => rfl
  | cons p r ih =>
    obtain ⟨k, v⟩ := p
    unfold over at ih ⊢
    rw [List.cons_append, look_cons, look_cons]
    by_cases h : k = n <;> simp [h, ← ih]

/-- What stays the same through a function: the world at its start, its number of slots, the blocks that it was given to write, the memory that stays. -/
structure Ctx where
  w0 : World
  n : Nat
  g : Nat → Prop
  M0 : Mem
  K : Nat → Prop
  ρ0 : Env
structure Kept (g : Nat → Prop) (w w' : World) : Prop where
  os : w'.os = w.os
  tape : w'.tape = w.tape
  output : w'.output = w.output
  size : w.heap.size ≤ w'.heap.size
  block : ∀ k, k < w.heap.size → ¬ g k → w'.heap[k]? = w.heap[k]?
theorem Kept.trans {g : Nat → Prop} {a b c : World} (h : Kept g a b) (k : Kept g b c) : Kept g a c :=
  ⟨k.os.trans h.os, k.tape.trans h.tape, k.output.trans h.output, Nat.le_trans h.size k.size, fun i hi hg => (k.block i (Nat.lt_of_lt_of_le hi h.size) hg).trans (h.block i hi hg)⟩
theorem Kept.refl (g : Nat → Prop) (a : World) : Kept g a a := ⟨rfl, rfl, rfl, Nat.le_refl _, fun _ _ _ => rfl⟩
theorem Kept.below {w w' : World} (h : Kept (fun _ => False) w w') : RowKit.Below w.heap.size w w' := ⟨h.os, h.tape, h.output, h.size, fun k hk => h.block k hk (fun h => h)⟩
/-- memory that stays lies in the world -/
def notCells : Obj → Bool
  | .cells _ _ _ => false
  | _ => true
structure InW (M : Mem) (w : World) : Prop where
  cell : ∀ b o v, M.cell b o = some v → w.cell? ⟨b, o, none⟩ = some v
  obj : ∀ b o, M.obj b = some o → w.heap[b]? = some o ∧ notCells o = true
structure RelW (C : Ctx) (bl : Nat → Option Ob) (ρ : Env) (M : Mem) (w : World) : Prop where
  inv : ∀ (j : Nat) ob, bl j = some ob → Inv1 ρ M w ob (ρ j)
  dist : ∀ (i j : Nat) x y b, bl i = some x → bl j = some y → x.blkOf (ρ i) = some b → y.blkOf (ρ j) = some b → i = j
  priv : ∀ (j : Nat) ob b, bl j = some ob → ob.blkOf (ρ j) = some b → C.w0.heap.size ≤ b ∨ C.g b
  mem : InW M w
  base : C.M0.le M
  fresh : ∀ b, b < C.w0.heap.size → ¬ C.g b → (∀ o, M.cell b o = C.M0.cell b o) ∧ M.obj b = C.M0.obj b
  kept : Kept C.g C.w0 w
  names : ∀ j, C.K j → ρ j = C.ρ0 j
theorem InW.lt {M : Mem} {w : World} (h : InW M w) {b o : Nat} {v : Value} (hc : M.cell b o = some v) : b < w.heap.size := by
  have := h.cell b o v hc
  unfold World.cell? at this
  simp only at this
  rcases Nat.lt_or_ge b w.heap.size with hl | hl
  · exact hl
  · rw [Array.getElem?_eq_none (by simpa using hl)] at this; cases this
theorem InW.ltO {M : Mem} {w : World} (h : InW M w) {b : Nat} {v : Obj} (hc : M.obj b = some v) : b < w.heap.size := (Array.getElem?_eq_some_iff.1 (h.obj b v hc).1).1
theorem InW.noObj {M : Mem} {w : World} (h : InW M w) {b : Nat} {arr : Array Value} {ty : TypeId} {fr : Nat × Nat} (hb : w.heap[b]? = some (.cells arr ty fr)) : M.obj b = none := by
  cases hm : M.obj b with
  | none => rfl
  | some o =>
    obtain ⟨h1, h2⟩ := h.obj b o hm
    rw [hb] at h1; cases h1; cases h2

structure Rel0 (C : Ctx) (F : FS) (ρ : Env) (M : Mem) (a : Act) (w : World) : Prop where
  defers : a.defers = []
  size : a.tmps.size = C.n
  slots : ∀ s v, F.sl s = some v → v.rep ρ M (a.tmps.getD s undef)
  heap : RelW C F.bl ρ M w
def Agree (bl : Nat → Option Ob) (ρ ρ' : Env) : Prop := ∀ j, bl j ≠ none → ρ' j = ρ j
theorem Agree.refl (bl : Nat → Option Ob) (ρ : Env) : Agree bl ρ ρ := fun _ _ => rfl
def Rel (C : Ctx) (F : FS) (ρ : Env) (M : Mem) (a : Act) (w : World) : Prop := ∀ ρ', Agree F.bl ρ ρ' → Rel0 C F ρ' M a w
theorem Rel.at {C : Ctx} {F : FS} {ρ : Env} {M : Mem} {a : Act} {w : World} (h : Rel C F ρ M a w) : Rel0 C F ρ M a w := h _ (Agree.refl _ _)

theorem RelW.lt {C : Ctx} {bl : Nat → Option Ob} {ρ : Env} {M : Mem} {w : World} (h : RelW C bl ρ M w) : ∀ k ob b, bl k = some ob → ob.blkOf (ρ k) = some b → b < w.heap.size := by
  intro k ob b hb ho
  have hi := h.inv k ob hb
  cases ob with
  | dead => cases ho
  | blk cs ty => cases ho; obtain ⟨⟨arr, ha, _⟩, _⟩ := hi; exact (Array.getElem?_eq_some_iff.1 ha).1
  | tail sz =>
    obtain ⟨a, len, cap, hv, _, hx⟩ := hi
    rw [hv] at ho
    cases a with
    | none => cases ho
    | some a =>
      simp only [Ob.blkOf] at ho
      split at ho
      · rename_i hl; cases ho; obtain ⟨b', off, arr, ty, e, h1, _⟩ := hx hl; cases e; exact (Array.getElem?_eq_some_iff.1 h1).1
      · cases ho
  | vec sz l =>
    obtain ⟨a, cap, hv, _, _, hx⟩ := hi
    rw [hv] at ho
    cases a with
    | none => cases ho
    | some a =>
      simp only [Ob.blkOf] at ho
      split at ho
      · rename_i hl; cases ho; obtain ⟨b', off, arr, ty, f, e, h1, _⟩ := hx hl; cases e; exact (Array.getElem?_eq_some_iff.1 h1).1
      · cases ho
  | mp agg l => obtain ⟨r, es, clock, f, hv, h1, _⟩ := hi; rw [hv] at ho; cases ho; exact (Array.getElem?_eq_some_iff.1 h1).1
  | obj o => cases ho; exact (Array.getElem?_eq_some_iff.1 hi.1).1
/-- one object is made or changed; the blocks S are touched -/
theorem RelW.change {C : Ctx} {bl bl' : Nat → Option Ob} {ρ : Env} {M M' : Mem} {w w' : World} (h : RelW C bl ρ M w) (k0 : Nat) (S : Nat → Prop)
    (hS : ∀ b, S b → b < w.heap.size → C.w0.heap.size ≤ b ∨ C.g b) (hk : w'.os = w.os ∧ w'.tape = w.tape ∧ w'.output = w.output ∧ w.heap.size ≤ w'.heap.size)
    (hw : ∀ b, b < w.heap.size → ¬ S b → w'.heap[b]? = w.heap[b]?) (hM : M.le M') (hM' : ∀ b, b < w.heap.size → ¬ S b → (∀ o, M'.cell b o = M.cell b o) ∧ M'.obj b = M.obj b)
    (hin : ∀ b, (S b ∨ w.heap.size ≤ b) → (∀ o v, M'.cell b o = some v → w'.cell? ⟨b, o, none⟩ = some v) ∧ (∀ o, M'.obj b = some o → w'.heap[b]? = some o ∧ notCells o = true))
    (hbl : ∀ k ob, bl' k = some ob → ob = .dead ∨ (bl k = some ob ∧ ∀ b, ob.blkOf (ρ k) = some b → ¬ S b) ∨ (k = k0 ∧ Inv1 ρ M' w' ob (ρ k) ∧ ∀ b, ob.blkOf (ρ k) = some b → (S b ∨ w.heap.size ≤ b))) : RelW C bl' ρ M' w' := by
  have hlt := h.lt
  have hdead : ∀ v b, Ob.blkOf .dead v = some b → False := fun v b hb => by cases hb
  refine ⟨?_, ?_, ?_, ?_, ?_, ?_, ?_, h.names⟩
  · intro j ob hj
    rcases hbl j ob hj with rfl | ⟨hb, hn⟩ | ⟨_, hi, _⟩
    · trivial
    · refine (h.inv j ob hb).keep hM (fun b ho => ?_)
      have hl := hlt j ob b hb ho
      exact ⟨hw b hl (hn b ho), hM' b hl (hn b ho)⟩
    · exact hi
  · intro i j x y b hi hj hx hy
    rcases hbl i x hi with rfl | ⟨hb, hn⟩ | ⟨e1, _, hn⟩
    · exact (hdead _ _ hx).elim
    · rcases hbl j y hj with rfl | ⟨hb', hn'⟩ | ⟨e2, _, hn'⟩
      · exact (hdead _ _ hy).elim
      · exact h.dist i j x y b hb hb' hx hy
      · have hl := hlt i x b hb hx
        rcases hn' b hy with hs | hs
        · exact absurd hs (hn b hx)
        · omega
    · rcases hbl j y hj with rfl | ⟨hb', hn'⟩ | ⟨e2, _, hn'⟩
      · exact (hdead _ _ hy).elim
      · have hl := hlt j y b hb' hy
        rcases hn b hx with hs | hs
        · exact absurd hs (hn' b hy)
        · omega
      · omega
  · intro j ob b hj ho
    rcases hbl j ob hj with rfl | ⟨hb, hn⟩ | ⟨_, _, hn⟩
    · exact (hdead _ _ ho).elim
    · exact h.priv j ob b hb ho
    · rcases hn b ho with hs | hs
      · rcases Nat.lt_or_ge b w.heap.size with hl | hl
        · exact hS b hs hl
        · exact .inl (Nat.le_trans h.kept.size hl)
      · exact .inl (Nat.le_trans h.kept.size hs)
  · constructor
    · intro b o v hv
      by_cases hs : S b ∨ w.heap.size ≤ b
      · exact (hin b hs).1 o v hv
      · have hl : b < w.heap.size := by omega
        have hn : ¬ S b := fun e => hs (.inl e)
        have := h.mem.cell b o v (by rw [← (hM' b hl hn).1 o]; exact hv)
        unfold World.cell? at this ⊢
        simp only at this ⊢
        rw [hw b hl hn]; exact this
    · intro b o ho
      by_cases hs : S b ∨ w.heap.size ≤ b
      · exact (hin b hs).2 o ho
      · have hl : b < w.heap.size := by omega
        have hn : ¬ S b := fun e => hs (.inl e)
        rw [hw b hl hn]
        exact h.mem.obj b o (by rw [← (hM' b hl hn).2]; exact ho)
  · exact h.base.trans hM
  · intro b hb hg
    have hl : b < w.heap.size := Nat.lt_of_lt_of_le hb h.kept.size
    have hn : ¬ S b := fun e => by
      rcases hS b e hl with h1 | h1
      · omega
      · exact hg h1
    obtain ⟨g1, g2⟩ := hM' b hl hn
    obtain ⟨f1, f2⟩ := h.fresh b hb hg
    exact ⟨fun o => (g1 o).trans (f1 o), g2.trans f2⟩
  · refine ⟨hk.1.trans h.kept.os, hk.2.1.trans h.kept.tape, hk.2.2.1.trans h.kept.output, Nat.le_trans h.kept.size hk.2.2.2, fun k hk' hg => ?_⟩
    have hl : k < w.heap.size := Nat.lt_of_lt_of_le hk' h.kept.size
    rw [hw k hl (fun e => by
      rcases hS k e hl with h1 | h1
      · omega
      · exact hg h1)]
    exact h.kept.block k hk' hg

/-! ### the calculus -/
def sem (C : Ctx) (Q : Exit → AState → Prop) : Exit → Act → World → Prop := fun e a w => ∃ st ρ M, Rel C st.F ρ M a w ∧ Q e st
def Ok (P : Program) (C : Ctx) (c : Code) (Q : Exit → AState → Prop) (st : AState) : Prop :=
  ∀ ρ M a w, Rel C st.F ρ M a w → c.wp P (sem C Q) a w
def OkOps (P : Program) (C : Ctx) (ops : Array Oper) (l : List Oper) (Q : AState → Prop) (st : AState) : Prop :=
  ∀ (Q' : Exit → Act → World → Prop), (∀ ρ M a w st', Rel C (AState.F st') ρ M a w → Q st' → Q' .normal a w) → ∀ ρ M a w, Rel C st.F ρ M a w → wpList P ops Q' l a w

section rules
variable {P : Program} {C : Ctx} {Q : Exit → AState → Prop} {st : AState}
def thenQ (next : AState → Prop) (Q : Exit → AState → Prop) : Exit → AState → Prop
  | .normal, st => next st
  | e, st => Q e st
def blockQ (id : Nat) (Q : Exit → AState → Prop) : Exit → AState → Prop
  | .exit id', st => match Nat.beq id' id with | true => Q .normal st | false => Q (.exit id') st
  | e, st => Q e st
theorem Ok.seq {x y : Code} (h : Ok P C x (thenQ (fun st => Ok P C y Q st) Q) st) : Ok P C (.seq x y) Q st := by
  intro ρ M a w hr
  refine wp_seq (wp_mono (h ρ M a w hr) ?_)
  rintro e a' w' ⟨st', ρ', M', hr', hq⟩
  cases e <;> first | exact hq ρ' M' a' w' hr' | exact ⟨st', ρ', M', hr', hq⟩
theorem Ok.block {id : Nat} {c : Code} (h : Ok P C c (blockQ id Q) st) : Ok P C (.block id c) Q st := by
  intro ρ M a w hr
  refine wp_block (wp_mono (h ρ M a w hr) ?_)
  rintro e a' w' ⟨st', ρ', M', hr', hq⟩
  cases e with
  | exit id' =>
    simp only [Exit.inBlock]
    by_cases hid : id' = id
    · rw [if_pos hid]; subst hid; exact ⟨st', ρ', M', hr', by simpa [blockQ] using hq⟩
    · rw [if_neg hid]
      refine ⟨st', ρ', M', hr', ?_⟩
      simp only [blockQ, beq_false hid] at hq
      exact hq
  | _ => exact ⟨st', ρ', M', hr', hq⟩
theorem Ok.skip (h : Q .normal st) : Ok P C .skip Q st := fun ρ M _ _ hr => wp_skip ⟨st, ρ, M, hr, h⟩
theorem Ok.exit {id : Nat} (h : Q (.exit id) st) : Ok P C (.exit id) Q st := fun ρ M _ _ hr => wp_exit ⟨st, ρ, M, hr, h⟩
theorem Ok.ret (h : Q .ret st) : Ok P C .ret Q st := fun ρ M _ _ hr => wp_ret ⟨st, ρ, M, hr, h⟩
theorem Ok.region {id : Nat} {l : List Oper} (h : OkOps P C l.toArray l (Q .normal) st) : Ok P C (.region id l.toArray false) Q st :=
  fun ρ M a w hr => wp_region_lit (h _ (fun ρ' M' _ _ st' hr' hq => ⟨st', ρ', M', hr', hq⟩) ρ M a w hr)
theorem Ok.mono {c : Code} {Q' : Exit → AState → Prop} (h : Ok P C c Q' st) (hq : ∀ e st, Q' e st → Q e st) : Ok P C c Q st :=
  fun ρ M a w hr => wp_mono (h ρ M a w hr) fun _ _ _ ⟨st', ρ', M', hr', h'⟩ => ⟨st', ρ', M', hr', hq _ _ h'⟩

/-- the value of an operand -/
def opnd (F : FS) : Operand → Option AV
  | .tmp t => F.sl t
  | .const v => some (.s (.c (.d (.v v))))
  | .global _ => none
  | .func f => some (.s (.c (.fn f [])))
theorem opnd_rep {F : FS} {ρ : Env} {M : Mem} {a : Act} {w : World} (hr : Rel0 C F ρ M a w) {x : Operand} {v : AV} (h : opnd F x = some v) : v.rep ρ M (a.eval x) := by
  cases x with
  | tmp t => exact hr.slots _ _ h
  | const u =>
    simp only [opnd, Option.some.injEq] at h
    subst h; exact Rep.v _
  | global g => cases h
  | func f => simp only [opnd, Option.some.injEq] at h; subst h; rfl
def getB (F : FS) (x : Operand) : Option Bool :=
  match opnd F x with
  | some (.s (.c (.d (.v (.bool b))))) => some b
  | _ => none
theorem Rep.v_inv {M : Mem} {x v : Value} (h : Rep M (.v x) v) : v = x := by cases h; rfl
theorem getB_rep {F : FS} {ρ : Env} {M : Mem} {a : Act} {w : World} (hr : Rel0 C F ρ M a w) {x : Operand} {b : Bool} (h : getB F x = some b) : a.eval x = .bool b := by
  unfold getB at h
  split at h
  · rename_i b' h'; simp only [Option.some.injEq] at h; subst h; exact Rep.v_inv (opnd_rep hr h')
  · cases h
theorem Ok.cond {c : Operand} {x y : Code} {b : Bool} (hc : getB st.F c = some b) (ht : b = true → Ok P C x Q st) (hf : b = false → Ok P C y Q st) : Ok P C (.cond c x y) Q st := by
  intro ρ M a w hr
  exact wp_cond_split (getB_rep hr.at hc) (fun h => ht h ρ M a w hr) (fun h => hf h ρ M a w hr)

/-- F' knows less than F -/
structure Sub (F' F : FS) : Prop where
  sl : ∀ s v, F'.sl s = some v → F.sl s = some v
  bl : ∀ s v, F'.bl s = some v → v = .dead ∨ F.bl s = some v
  dom : ∀ s, F.bl s ≠ none → F'.bl s ≠ none
theorem RelW.less {bl bl' : Nat → Option Ob} {ρ : Env} {M : Mem} {w : World} (h : RelW C bl ρ M w) (hb : ∀ s v, bl' s = some v → v = .dead ∨ bl s = some v) : RelW C bl' ρ M w := by
  refine ⟨fun j ob hj => ?_, fun i j x y b hi hj hx hy => ?_, fun j ob b hj ho => ?_, h.mem, h.base, h.fresh, h.kept, h.names⟩
  · rcases hb j ob hj with rfl | hj
    · trivial
    · exact h.inv j ob hj
  · rcases hb i x hi with rfl | hi
    · cases hx
    · rcases hb j y hj with rfl | hj
      · cases hy
      · exact h.dist i j x y b hi hj hx hy
  · rcases hb j ob hj with rfl | hj
    · cases ho
    · exact h.priv j ob b hj ho
theorem Sub.rel {F F' : FS} {ρ : Env} {M : Mem} {a : Act} {w : World} (h : Sub F' F) (hr : Rel C F ρ M a w) : Rel C F' ρ M a w := by
  intro ρ' ha
  have h0 := hr ρ' (fun j hj => ha j (h.dom j hj))
  exact ⟨h0.defers, h0.size, fun s v hv => h0.slots s v (h.sl s v hv), h0.heap.less h.bl⟩
theorem Ok.weaken {c : Code} {st' : AState} (hs : Sub st'.F st.F) (h : Ok P C c Q st') : Ok P C c Q st := fun ρ M a w hr => h ρ M a w (hs.rel hr)
/-- a slot is seen in another way -/
theorem Ok.slot {c : Code} {sl : List (Nat × AV)} {bl : List (Nat × Ob)} {nx : Nat} (s : Nat) {v : AV} (v' : AV) (hv : look sl s = some v) (hle : ∀ ρ M u, v.rep ρ M u → v'.rep ρ M u) (h : Ok P C c Q ⟨(s, v') :: sl, bl, nx⟩) : Ok P C c Q ⟨sl, bl, nx⟩ := by
  intro ρ M a w hr
  refine h ρ M a w (fun ρ' ha => ?_)
  have h0 := hr ρ' ha
  refine ⟨h0.defers, h0.size, fun t u hu => ?_, h0.heap⟩
  have hu' : look ((s, v') :: sl) t = some u := hu
  rw [look_cons] at hu'
  split at hu'
  · rename_i e; subst e; cases hu'; exact hle _ _ _ (h0.slots s v hv)
  · exact h0.slots t u hu'

/-! ### one operation -/
theorem eval_put_ne {a : Act} {d s : Nat} {u : Value} (h : d ≠ s) : (a.put (some d) u).tmps.getD s undef = a.tmps.getD s undef := by
  simp only [Act.put, Array.getD_eq_getD_getElem?, Array.getElem?_setIfInBounds_ne h]
theorem eval_put_eq {a : Act} {d : Nat} {u : Value} (h : d < a.tmps.size) : (a.put (some d) u).tmps.getD d undef = u := by
  simp [Act.put, h]
theorem Rel0.put {F : FS} {ρ : Env} {M M' : Mem} {a : Act} {w w' : World} {d : Nat} {v : AV} {u : Value} {bl' : Nat → Option Ob} (hr : Rel0 C F ρ M a w) (hd : d < C.n) (hu : v.rep ρ M' u) (hM : M.le M')
    (hw : RelW C bl' ρ M' w') : Rel0 C ⟨over [(d, v)] F.sl, bl'⟩ ρ M' (a.put (some d) u) w' := by
  refine ⟨hr.defers, by simpa [Act.put] using hr.size, fun s v' hv => ?_, hw⟩
  simp only [over_one] at hv
  by_cases hds : d = s
  · subst hds
    rw [if_pos rfl] at hv
    cases hv
    rw [eval_put_eq (by rw [hr.size]; exact hd)]; exact hu
  · rw [if_neg hds] at hv
    rw [eval_put_ne hds]
    exact (hr.slots s v' hv).mono hM
/-- the operation o, from a state F to a state F' -/
def Tri (P : Program) (C : Ctx) (ops : Array Oper) (o : Oper) (F F' : FS) : Prop :=
  ∀ (Q' : Exit → Act → World → Prop) (K' : Act → World → Prop), (∀ ρ M a w, Rel C F' ρ M a w → K' a w) → ∀ ρ M a w, Rel C F ρ M a w →
    if Region.wanted o (yielded ops a.tmps) then o.wp P a w K' Q' ∨ (o.asks P a w ∧ LetsOut Q') else K' (a.put o.dst undef) w
theorem wanted_none {o : Oper} {y : Nat → Option Bool} (h : o.guard = none) : Region.wanted o y = true := by simp [Region.wanted, h]
theorem OkOps.step {ops : Array Oper} {o : Oper} {rest : List Oper} {Q : AState → Prop} {Ws : List (Nat × AV)} {Wb : List (Nat × Ob)} {nx' : Nat} (ht : Tri P C ops o st.F (st.F.upd Ws Wb))
    (h : OkOps P C ops rest Q ⟨Ws ++ st.sl, Wb ++ st.bl, nx'⟩) : OkOps P C ops (o :: rest) Q st := by
  intro Q' hQ ρ M a w hr
  unfold wpList
  refine ht Q' (wpList P ops Q' rest) (fun ρ' M' a' w' hr' => h Q' hQ ρ' M' a' w' ?_) ρ M a w hr
  have : AState.F ⟨Ws ++ st.sl, Wb ++ st.bl, nx'⟩ = st.F.upd Ws Wb := by
    simp only [AState.F, FS.upd, over_look]
  rw [this]; exact hr'
theorem OkOps.nil {ops : Array Oper} {Q : AState → Prop} (h : Q st) : OkOps P C ops [] Q st := fun _ hQ ρ M a w hr => hQ ρ M a w st hr h

/-- an operation that yields a value; at most one new name, j0, which stands for nv -/
theorem Tri.val {ops : Array Oper} {F : FS} {o : Oper} {d : Nat} {x : AV} {Wb : List (Nat × Ob)} (js : List Nat) (hg : o.guard = none) (hd : o.dst = some d) (hn : Nat.blt d C.n = true) (hj : ∀ j ∈ js, F.bl j = none) (hdom : ∀ k, F.bl k ≠ none → over Wb F.bl k ≠ none) (hjs : ∀ j ∈ js, over Wb F.bl j ≠ none)
    (hq : ∀ ρ M a w, Rel0 C F ρ M a w → ∃ (u : Value) (w' : World) (M' : Mem) (nv : Nat → Value), (execOp a.eval o).run P w = .ok (.value u) w' ∧ M.le M' ∧ ∀ ρ', Rel0 C F ρ' M a w → (∀ j ∈ js, ρ' j = nv j) → x.rep ρ' M' u ∧ RelW C (over Wb F.bl) ρ' M' w') : Tri P C ops o F (F.upd [(d, x)] Wb) := by
  intro Q' K' hK ρ M a w hr
  rw [if_pos (wanted_none hg)]
  refine .inl ?_
  unfold Oper.wp
  obtain ⟨u, w', M', nv, hrun, hle, hfin⟩ := hq ρ M a w hr.at
  rw [hrun]
  show K' (a.put o.dst _) _
  rw [hd]
  refine hK (fun i => if i ∈ js then nv i else ρ i) M' _ _ fun ρ' ha => ?_
  have hag : Agree F.bl ρ ρ' := fun i hi => by
    have hne : i ∉ js := fun e => hi (hj i e)
    rw [ha i (hdom i hi)]; exact if_neg hne
  have h0 := hr ρ' hag
  obtain ⟨h1, h2⟩ := hfin ρ' h0 (fun j hj' => by rw [ha j (hjs j hj')]; exact if_pos hj')
  exact h0.put (Nat.blt_eq.mp hn) h1 hle h2

/-- is the guarded operation carried out? -/
def guardB (F : FS) (ops : Array Oper) (k : Nat) (want : Bool) : Option Bool :=
  match (ops[k]?).bind (·.dst) with
  | some t => match F.sl t with
    | some (.s (.c (.d (.v (.bool b))))) => match want with | true => some b | false => some (!b)
    | some (.gd g (.c (.d (.v (.bool b))))) => match want with | true => some (g && b) | false => some (g && !b)
    | _ => none
  | none => none
theorem getD_some {l : Array Value} {t : Nat} {v : Value} (h : l.getD t undef = v) (hv : v ≠ undef) : l[t]? = some v := by
  rw [Array.getD_eq_getD_getElem?] at h
  cases hl : l[t]? with
  | none => rw [hl] at h; exact absurd h.symm hv
  | some u => rw [hl] at h; simp at h; rw [h]
theorem guardB_wanted {F : FS} {ρ : Env} {M : Mem} {a : Act} {w : World} (hr : Rel0 C F ρ M a w) {ops : Array Oper} {o : Oper} {k : Nat} {want g : Bool} (hg : o.guard = some (k, want)) (h : guardB F ops k want = some g) :
    Region.wanted o (yielded ops a.tmps) = g := by
  unfold guardB at h
  simp only [Region.wanted, hg, yielded]
  cases ht : (ops[k]?).bind (·.dst) with
  | none => rw [ht] at h; cases h
  | some t =>
    rw [ht] at h
    simp only at h
    split at h
    · rename_i b hb
      have h1 := Rep.v_inv (hr.slots _ _ hb)
      have h2 := getD_some h1 (by simp [undef])
      simp only [Option.bind_some, h2]
      cases want <;> simp only [Option.some.injEq] at h <;> subst h <;> cases b <;> rfl
    · rename_i g' b hb
      have h1 := hr.slots _ _ hb
      cases g'
      · have hg0 : g = false := by cases want <;> simp at h <;> exact h
        subst hg0
        have h1 : a.tmps.getD t undef = undef := h1
        rw [Array.getD_eq_getD_getElem?] at h1
        simp only [Option.bind_some]
        cases hl : a.tmps[t]? with
        | none => cases want <;> rfl
        | some u =>
          rw [hl] at h1
          simp at h1
          subst h1
          cases want <;> rfl
      · have h2 := getD_some (Rep.v_inv h1) (by simp [undef])
        simp only [Option.bind_some, h2]
        cases want <;> simp only [Bool.true_and, Option.some.injEq] at h <;> subst h <;> cases b <;> rfl
    · cases h
/-- the same under a guard; nothing is made -/
theorem Tri.valG {ops : Array Oper} {F : FS} {o : Oper} {d k : Nat} {want g : Bool} {x : A1} (hg : o.guard = some (k, want)) (hb : guardB F ops k want = some g) (hd : o.dst = some d) (hn : Nat.blt d C.n = true)
    (hq : g = true → ∀ ρ M a w, Rel0 C F ρ M a w → ∃ u w' M', (execOp a.eval o).run P w = .ok (.value u) w' ∧ M.le M' ∧ ∀ ρ', Rel0 C F ρ' M a w → x.rep ρ' M' u ∧ RelW C F.bl ρ' M' w') : Tri P C ops o F (F.upd [(d, .gd g x)] []) := by
  intro Q' K' hK ρ M a w hr
  rw [guardB_wanted hr.at hg hb]
  cases g with
  | false =>
    rw [if_neg (by simp), hd]
    refine hK ρ M _ _ fun ρ' ha => ?_
    have h0 := hr ρ' (fun j hj => ha j (by rw [FS.upd, over_nil]; exact hj))
    exact h0.put (Nat.blt_eq.mp hn) rfl (Mem.le_refl _) (by rw [over_nil]; exact h0.heap)
  | true =>
    rw [if_pos rfl]
    refine .inl ?_
    unfold Oper.wp
    obtain ⟨u, w', M', hrun, hle, hfin⟩ := hq rfl ρ M a w hr.at
    rw [hrun]
    show K' (a.put o.dst _) _
    rw [hd]
    refine hK ρ M' _ _ fun ρ' ha => ?_
    have h0 := hr ρ' (fun j hj => ha j (by rw [FS.upd, over_nil]; exact hj))
    obtain ⟨h1, h2⟩ := hfin ρ' h0
    exact h0.put (v := .gd true x) (Nat.blt_eq.mp hn) h1 hle (by rw [over_nil]; exact h2)
/-- an operation without a value -/
theorem Tri.eff {ops : Array Oper} {F : FS} {o : Oper} {Wb : List (Nat × Ob)} (hg : o.guard = none) (hd : o.dst = none) (hdom : ∀ j, F.bl j ≠ none → over Wb F.bl j ≠ none)
    (hq : ∀ ρ M a w, Rel0 C F ρ M a w → ∃ w' M', (execOp a.eval o).run P w = .ok .skip w' ∧ M.le M' ∧ ∀ ρ', Rel0 C F ρ' M a w → RelW C (over Wb F.bl) ρ' M' w') : Tri P C ops o F (F.upd [] Wb) := by
  intro Q' K' hK ρ M a w hr
  rw [if_pos (wanted_none hg)]
  refine .inl ?_
  unfold Oper.wp
  obtain ⟨w', M', hrun, hle, hfin⟩ := hq ρ M a w hr.at
  rw [hrun]
  show K' (a.put o.dst _) _
  rw [hd]
  refine hK ρ M' _ _ fun ρ' ha => ?_
  have h0 := hr ρ' (fun j hj => ha j (hdom j hj))
  refine ⟨h0.defers, h0.size, ?_, hfin ρ' h0⟩
  rw [FS.upd, over_nil]
  exact fun s v hv => (h0.slots s v hv).mono hle

/-! ### loops -/
theorem Ok.loop {c : Code} {Q : Exit → AState → Prop} (X : Type) (I : X → AState) (Inv : X → Prop) (μ : X → Nat) (x0 : X) (hi : Inv x0) (h0 : ∀ ρ M a w, Rel C st.F ρ M a w → ∃ ρ' M', Rel C (I x0).F ρ' M' a w)
    (round : ∀ x, Inv x → Ok P C c (thenQ (fun s => ∃ x', Inv x' ∧ μ x' < μ x ∧ ∀ ρ M a w, Rel C s.F ρ M a w → ∃ ρ' M', Rel C (I x').F ρ' M' a w) Q) (I x)) : Ok P C (.loop c) Q st := by
  intro ρ M a w hr b k cs
  have key : ∀ n x, Inv x → μ x = n → ∀ ρ M a w, Rel C (I x).F ρ M a w →
      ∃ e a' w', sem C Q e a' w' ∧ Arrives P (lone (b.at a (.code c :: .inLoop c :: k)) cs w) b k cs e a' w' := by
    intro n
    induction n using Nat.strongRecOn with
    | _ n ih =>
      intro x hx hn ρ M a w hr
      obtain ⟨e, a₁, w₁, ⟨st', ρ', M', hr', hq⟩, harr⟩ := round x hx ρ M a w hr b (.inLoop c :: k) cs
      cases e with
      | normal =>
        obtain ⟨x', hx', hlt, hsub⟩ := hq
        obtain ⟨ρ2, M2, hr2⟩ := hsub ρ' M' a₁ w₁ hr'
        obtain ⟨e₂, a₂, w₂, hq₂, harr₂⟩ := ih (μ x') (hn ▸ hlt) x' hx' rfl ρ2 M2 a₁ w₁ hr2
        exact ⟨e₂, a₂, w₂, hq₂, .of_steps (Steps.trans harr (.one step_inLoop)) harr₂⟩
      | exit id => exact ⟨_, a₁, w₁, ⟨st', ρ', M', hr', hq⟩, .pass (x := .inLoop c) rfl (fun _ _ => .inl (by simp)) harr⟩
      | goto l => exact ⟨_, a₁, w₁, ⟨st', ρ', M', hr', hq⟩, .pass (x := .inLoop c) rfl (fun _ _ => .inl (by simp)) harr⟩
      | ret => exact ⟨_, a₁, w₁, ⟨st', ρ', M', hr', hq⟩, .pass (x := .inLoop c) rfl (fun _ _ => .inl (by simp)) harr⟩
      | panic ch => exact ⟨_, a₁, w₁, ⟨st', ρ', M', hr', hq⟩, .pass (x := .inLoop c) rfl (fun _ _ => .inl (by simp)) harr⟩
      | outgrown => exact ⟨_, a₁, w₁, ⟨st', ρ', M', hr', hq⟩, .pass (x := .inLoop c) rfl (fun _ _ => .inl (by simp)) harr⟩
  obtain ⟨ρ2, M2, hr2⟩ := h0 ρ M a w hr
  obtain ⟨e, a', w', hq, harr⟩ := key _ x0 hi rfl ρ2 M2 a w hr2
  exact ⟨e, a', w', hq, .of_steps (.one step_loop) harr⟩
end rules
end Go.E2

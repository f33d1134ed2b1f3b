/-
  The evaluator of operations: what a quiet operation yields, what it reads; and that it is the model's own operation.
-/
import Derived.Test.YtcfegecdlbbeaaaDoorXa
namespace Go.E2
variable {P : Program} {C : Ctx} {F : FS}

def runPure (P : Program) {α : Type} : Sem α → Option α
  | .pure a => some a
  | .program k => runPure P (k P)
  | .mark _ k => runPure P k
  | _ => none
theorem runPure_run {α : Type} {s : Sem α} {a : α} (h : runPure P s = some a) (w : World) : s.run P w = .ok a w := by
  induction s with
  | pure x => simp only [runPure, Option.some.injEq] at h; subst h; rfl
  | program k ih => simp only [runPure] at h; exact ih P h
  | mark m k ih => simp only [runPure] at h; exact ih h
  | _ => simp [runPure] at h

/-! ### values that are known whole -/
def cellVals : List Cell → Option (List Value)
  | [] => some []
  | x :: r => match x with
    | .d (.v y) => match cellVals r with
      | some l => some (y :: l)
      | none => none
    | _ => none
def A1.val : A1 → Option Value
  | .c (.d (.v x)) => some x
  | .agg cs => match cellVals cs with
    | some l => some (.agg l.toArray)
    | none => none
  | _ => none
def vcell (v : Value) : Cell := .d (.v v)
def ofV : Value → A1
  | .agg cs => .agg (cs.toList.map vcell)
  | v => .c (.d (.v v))
theorem cellVals_rep {cs : List Cell} {l : List Value} (h : cellVals cs = some l) {ρ : Env} {M : Mem} {vs : List Value} (hr : Reps ρ M cs vs) : vs = l := by
  induction cs generalizing l vs with
  | nil => cases vs with
    | nil => simp [cellVals] at h; exact h.symm
    | cons _ _ => exact hr.elim
  | cons x r ih =>
    cases vs with
    | nil => exact hr.elim
    | cons u us =>
      unfold cellVals at h
      split at h
      · split at h
        · rename_i l' hl'
          cases h
          rw [ih hl' hr.2, Rep.v_inv hr.1]
        · cases h
      · cases h
theorem A1.val_rep {x : A1} {v : Value} (h : x.val = some v) {ρ : Env} {M : Mem} {u : Value} (hr : x.rep ρ M u) : u = v := by
  unfold A1.val at h
  split at h
  · cases h; exact Rep.v_inv hr
  · rename_i cs
    split at h
    · rename_i l hl
      cases h
      obtain ⟨arr, rfl, h2⟩ := hr
      rw [← cellVals_rep hl h2]
    · cases h
  · cases h
theorem Reps.vals {ρ : Env} {M : Mem} : ∀ l : List Value, Reps ρ M (l.map vcell) l
  | [] => trivial
  | x :: r => ⟨Rep.v x, Reps.vals r⟩
theorem ofV_rep (v : Value) (ρ : Env) (M : Mem) : (ofV v).rep ρ M v := by
  cases v <;> first | exact Rep.v _ | exact ⟨_, rfl, Reps.vals _⟩

/-! ### operands -/
def rd (F : FS) (x : Operand) : Option A1 :=
  match opnd F x with
  | some (.s x) => some x
  | some (.gd _ x) => some x
  | _ => none
def rdV (F : FS) (x : Operand) : Option Value :=
  match rd F x with
  | some y => y.val
  | none => none
def rdVs (F : FS) : List Operand → Option (List Value)
  | [] => some []
  | x :: r => match rdV F x with
    | some v => match rdVs F r with
      | some l => some (v :: l)
      | none => none
    | none => none
def rds (F : FS) : List Operand → Option (List A1)
  | [] => some []
  | x :: r => match rd F x with
    | some v => match rds F r with
      | some l => some (v :: l)
      | none => none
    | none => none
/-- the guards of the operands hold -/
def sideOk (F : FS) (g : Bool) : List Operand → Prop
  | [] => True
  | x :: r => match opnd F x with
    | some (.gd g' _) => (g = true → g' = true) ∧ sideOk F g r
    | _ => sideOk F g r
/-- what each operand reads as, in the frame -/
def Reads (F : FS) (a : Act) (ρ : Env) (M : Mem) (xs : List Operand) : Prop := ∀ x, x ∈ xs → ∀ y, rd F x = some y → y.rep ρ M (a.eval x)
theorem reads_of {ρ : Env} {M : Mem} {a : Act} {w : World} (hr : Rel0 C F ρ M a w) {g : Bool} (hg : g = true) {xs : List Operand} (hs : sideOk F g xs) : Reads F a ρ M xs := by
  induction xs with
  | nil => intro x hx; cases hx
  | cons x r ih =>
    intro z hz y hy
    unfold sideOk at hs
    unfold rd at hy
    cases hz with
    | head =>
      split at hy
      · rename_i y' h'; cases hy; exact opnd_rep hr h'
      · rename_i g' y' h'
        cases hy
        rw [h'] at hs
        have := opnd_rep hr h'
        rw [hs.1 hg] at this
        exact this
      · cases hy
    | tail _ hm =>
      refine ih ?_ z hm y hy
      split at hs
      · exact hs.2
      · exact hs
theorem rdV_eval {ρ : Env} {M : Mem} {a : Act} {xs : List Operand} (h : Reads F a ρ M xs) {x : Operand} (hx : x ∈ xs) {v : Value} (hv : rdV F x = some v) : a.eval x = v := by
  unfold rdV at hv
  split at hv
  · rename_i y hy; exact A1.val_rep hv (h x hx y hy)
  · cases hv
theorem rdVs_eval {ρ : Env} {M : Mem} {a : Act} {xs : List Operand} (h : Reads F a ρ M xs) {vs : List Value} (hv : rdVs F xs = some vs) : xs.map a.eval = vs := by
  induction xs generalizing vs with
  | nil => simp [rdVs] at hv; simp [hv]
  | cons x r ih =>
    simp only [rdVs] at hv
    split at hv
    · rename_i v hv1
      split at hv
      · rename_i l hl
        cases hv
        simp only [List.map_cons]
        rw [rdV_eval h (List.mem_cons_self ..) hv1, ih (fun z hz => h z (List.mem_cons_of_mem _ hz)) hl]
      · cases hv
    · cases hv
theorem rds_rep {ρ : Env} {M : Mem} {a : Act} {xs : List Operand} (h : Reads F a ρ M xs) {vs : List A1} (hv : rds F xs = some vs) : A1.reps ρ M vs (xs.map a.eval) := by
  induction xs generalizing vs with
  | nil => simp [rds] at hv; subst hv; trivial
  | cons x r ih =>
    simp only [rds] at hv
    split at hv
    · rename_i v hv1
      split at hv
      · rename_i l hl
        cases hv
        exact ⟨h x (List.mem_cons_self ..) v hv1, ih (fun z hz => h z (List.mem_cons_of_mem _ hz)) hl⟩
      · cases hv
    · cases hv

/-! ### types -/
def tinfo (P : Program) (t : TypeId) : Option (Nat × Bool) :=
  match P.info? t, P.underlying t with
  | some i, some d => some (i.size, match d with | .struct _ => true | .array _ _ => true | _ => false)
  | _, _ => none
theorem tinfo_size {t n : Nat} {b : Bool} (h : tinfo P t = some (n, b)) (w : World) : (sizeOf t).run P w = .ok n w := by
  unfold tinfo at h
  split at h
  · rename_i i d hi hd
    simp only [Option.some.injEq, Prod.mk.injEq] at h
    obtain ⟨rfl, _⟩ := h
    show (Sem.bind (Sem.program Sem.pure) _).run P w = _
    simp [Sem.bind, Sem.run, hi, pure]
  · cases h
theorem tinfo_agg {t n : Nat} {b : Bool} (h : tinfo P t = some (n, b)) (w : World) : (isAgg t).run P w = .ok b w := by
  unfold tinfo at h
  split at h
  · rename_i i d hi hd
    simp only [Option.some.injEq, Prod.mk.injEq] at h
    obtain ⟨_, rfl⟩ := h
    simp only [isAgg, underlying, program, Sem.bind, bind, pure, Sem.run, hd]
    cases d <;> rfl
  · cases h
theorem run_bind_ok {α β : Type} {x : Sem α} {f : α → Sem β} {w w' : World} {a : α} (h : x.run P w = .ok a w') : (x >>= f).run P w = (f a).run P w' := by
  rw [Sem.run_bind, h]; rfl
theorem bind_value {x : Sem Value} {v : Value} {w w' : World} (h : x.run P w = .ok v w') : (do let y ← x; pure (Next.value y) : Sem Next).run P w = .ok (.value v) w' := by
  rw [run_bind_ok h]; rfl
theorem load_run {w : World} {b off : Nat} {v : Value} (h : w.cell? ⟨b, off, none⟩ = some v) : (load ⟨b, off, none⟩).run P w = .ok v w := by
  simp [load, Sem.run, h]
theorem add_none (b off i : Nat) : (Addr.mk b off none).add i = ⟨b, off + i, none⟩ := by
  unfold Addr.add; split
  · rename_i h; subst h; rfl
  · rfl
theorem loadCellsFrom_run {w : World} {b off : Nat} : ∀ (vs : List Value) (i : Nat) (acc : Array Value), (∀ (j : Nat) v, vs[j]? = some v → w.cell? ⟨b, off + i + j, none⟩ = some v) → (loadCellsFrom ⟨b, off, none⟩ i vs.length acc).run P w = .ok (acc ++ vs.toArray) w
  | [], i, acc, _ => by simp [loadCellsFrom]
  | v :: r, i, acc, h => by
    have hl : (load ((Addr.mk b off none).add i)).run P w = .ok v w := by
      rw [add_none]; exact load_run (h 0 v rfl)
    show (loadCellsFrom ⟨b, off, none⟩ i (r.length + 1) acc).run P w = _
    unfold loadCellsFrom
    rw [run_bind_ok hl, loadCellsFrom_run r (i + 1) _ (fun j u hj => by
      have := h (j + 1) u (by simpa using hj)
      rw [show off + (i + 1) + j = off + i + (j + 1) by omega]; exact this)]
    congr 1
    apply Array.ext'
    simp
theorem loadCells_run {w : World} {b off : Nat} (vs : List Value) (h : ∀ (j : Nat) v, vs[j]? = some v → w.cell? ⟨b, off + j, none⟩ = some v) : (loadCells ⟨b, off, none⟩ vs.length).run P w = .ok vs.toArray w := by
  unfold loadCells
  rw [loadCellsFrom_run vs 0 #[] (fun j v hj => by simpa using h j v hj)]
  simp

/-- the cells from off on, by the type -/
def takeA (P : Program) (t : TypeId) (cs : List Cell) (off : Nat) : Option A1 :=
  match tinfo P t with
  | some (n, true) => match Nat.ble (off + n) cs.length with
    | true => some (.agg ((cs.drop off).take n))
    | false => none
  | some (_, false) => match cs[off]? with
    | some c => some (.c c)
    | none => none
  | none => none
theorem Reps.get {ρ : Env} {M : Mem} : ∀ {cs : List Cell} {vs : List Value}, Reps ρ M cs vs → ∀ (i : Nat) c, cs[i]? = some c → ∃ v, vs[i]? = some v ∧ c.rep ρ M v
  | [], [], _, i, c, h => by simp at h
  | x :: xs, v :: vs, hr, i, c, h => by
    cases i with
    | zero => simp at h; subst h; exact ⟨v, rfl, hr.1⟩
    | succ i => obtain ⟨u, h1, h2⟩ := Reps.get hr.2 i c (by simpa using h); exact ⟨u, by simpa using h1, h2⟩
  | [], _ :: _, hr, _, _, _ => hr.elim
  | _ :: _, [], hr, _, _, _ => hr.elim
theorem Reps.len {ρ : Env} {M : Mem} : ∀ {cs : List Cell} {vs : List Value}, Reps ρ M cs vs → vs.length = cs.length
  | [], [], _ => rfl
  | _ :: xs, _ :: vs, hr => by simp [Reps.len hr.2]
  | [], _ :: _, hr => hr.elim
  | _ :: _, [], hr => hr.elim
theorem Reps.drop {ρ : Env} {M : Mem} : ∀ {cs : List Cell} {vs : List Value} (n : Nat), Reps ρ M cs vs → Reps ρ M (cs.drop n) (vs.drop n)
  | _, _, 0, h => h
  | [], [], _ + 1, _ => trivial
  | _ :: _xs, _ :: _vs, n + 1, hr => Reps.drop n hr.2
  | [], _ :: _, _ + 1, hr => hr.elim
  | _ :: _, [], _ + 1, hr => hr.elim
theorem Reps.take {ρ : Env} {M : Mem} : ∀ {cs : List Cell} {vs : List Value} (n : Nat), Reps ρ M cs vs → Reps ρ M (cs.take n) (vs.take n)
  | _, _, 0, _ => trivial
  | [], [], _ + 1, _ => trivial
  | _ :: _xs, _ :: _vs, n + 1, hr => ⟨hr.1, Reps.take n hr.2⟩
  | [], _ :: _, _ + 1, hr => hr.elim
  | _ :: _, [], _ + 1, hr => hr.elim
theorem Reps.set {ρ : Env} {M : Mem} {c : Cell} {v : Value} (hc : c.rep ρ M v) : ∀ {cs : List Cell} {vs : List Value} (n : Nat), Reps ρ M cs vs → Reps ρ M (cs.set n c) (vs.set n v)
  | [], [], _, _ => trivial
  | _ :: _xs, _ :: _vs, 0, hr => ⟨hc, hr.2⟩
  | _ :: _xs, _ :: _vs, n + 1, hr => ⟨hr.1, Reps.set hc n hr.2⟩
  | [], _ :: _, _, hr => hr.elim
  | _ :: _, [], _, hr => hr.elim
/-- reading a variable where each cell is known -/
theorem takeA_run {w : World} {ρ : Env} {M : Mem} {b o0 off : Nat} {cs : List Cell} {vs : List Value} {t : TypeId} {x : A1} (hv : ∀ (i : Nat) v, vs[i]? = some v → w.cell? ⟨b, o0 + i, none⟩ = some v) (hr : Reps ρ M cs vs) (hl : takeA P t cs off = some x) :
    ∃ u, (loadVar t ⟨b, o0 + off, none⟩).run P w = .ok u w ∧ x.rep ρ M u := by
  unfold takeA at hl
  split at hl
  · rename_i n hti
    split at hl
    · rename_i hle
      cases hl
      have hle' : off + n ≤ cs.length := Nat.le_of_ble_eq_true hle
      have hlen : ((vs.drop off).take n).length = n := by simp [hr.len]; omega
      refine ⟨.agg ((vs.drop off).take n).toArray, ?_, _, rfl, by simpa using (hr.drop off).take n⟩
      unfold loadVar
      rw [run_bind_ok (tinfo_agg hti w), if_pos rfl, run_bind_ok (tinfo_size hti w)]
      have hlc := loadCells_run (P := P) (w := w) (b := b) (off := o0 + off) ((vs.drop off).take n) (fun j v hj => by
        rw [List.getElem?_take] at hj
        split at hj
        · rw [List.getElem?_drop] at hj
          rw [Nat.add_assoc]; exact hv _ _ hj
        · cases hj)
      rw [hlen] at hlc
      rw [run_bind_ok hlc]
      rfl
    · cases hl
  · rename_i n hti
    split at hl
    · rename_i c hc
      cases hl
      obtain ⟨u, h1, h2⟩ := hr.get off c hc
      refine ⟨u, ?_, h2⟩
      unfold loadVar
      rw [run_bind_ok (tinfo_agg hti w), if_neg (by simp)]
      exact load_run (hv _ _ h1)
    · cases hl
  · cases hl
theorem part_run {ρ : Env} {M : Mem} {cs : List Cell} {arr : Array Value} {t : TypeId} {off : Nat} {x : A1} (hr : Reps ρ M cs arr.toList) (hl : takeA P t cs off = some x) (w : World) : ∃ u, (part t arr off).run P w = .ok u w ∧ x.rep ρ M u := by
  unfold takeA at hl
  split at hl
  · rename_i n hti
    split at hl
    · rename_i hle
      cases hl
      refine ⟨.agg (arr.extract off (off + n)), ?_, _, rfl, ?_⟩
      · unfold part
        rw [run_bind_ok (tinfo_agg hti w), if_pos rfl, run_bind_ok (tinfo_size hti w)]
        rfl
      · have := (hr.drop off).take n
        have e : (arr.extract off (off + n)).toList = (arr.toList.drop off).take n := by simp [List.extract_eq_take_drop]
        rw [e]; exact this
    · cases hl
  · rename_i n hti
    split at hl
    · rename_i c hc
      cases hl
      obtain ⟨u, h1, h2⟩ := hr.get off c hc
      refine ⟨u, ?_, h2⟩
      unfold part
      rw [run_bind_ok (tinfo_agg hti w), if_neg (by simp)]
      have : arr[off]? = some u := by simpa using h1
      simp only [this]
      rfl
    · cases hl
  · cases hl

/-- the offset of a field whose type has cells, and the field's type -/
def fieldOff (P : Program) (t f : Nat) : Option (Nat × TypeId) :=
  match P.underlying t with
  | some (.struct fs) => match fs[f]? with
    | some fd => match P.info? fd.type with
      | some i => match i.size with
        | 0 => none
        | _ + 1 => some (fd.offset, fd.type)
      | none => none
    | none => none
  | _ => none
theorem fieldOff_run {t f o ft : Nat} (h : fieldOff P t f = some (o, ft)) (b off : Nat) (w : World) : (Instr.fieldAt t (.pointer (some ⟨b, off, none⟩)) f).run P w = .ok (.pointer (some ⟨b, off + o, none⟩)) w := by
  unfold fieldOff at h
  split at h
  · rename_i fs hu
    split at h
    · rename_i fd hfd
      split at h
      · rename_i i hi
        split at h
        · cases h
        · rename_i n hn
          cases h
          simp only [Instr.fieldAt, underlying, program, Sem.bind, bind, pure, Sem.run, hu, hfd, Instr.sureAddr, fieldPlace, sizeOf, typeInfo, hi, hn]
          simp [add_none, Sem.bind]
      · cases h
    · cases h
  · cases h
theorem field_run {ρ : Env} {M : Mem} {t f o ft : Nat} (h : fieldOff P t f = some (o, ft)) {cs : List Cell} {arr : Array Value} {x : A1} (hr : Reps ρ M cs arr.toList) (hl : takeA P ft cs o = some x) (w : World) : ∃ u, (Instr.field t (.agg arr) f).run P w = .ok u w ∧ x.rep ρ M u := by
  unfold fieldOff at h
  split at h
  · rename_i fs hu
    split at h
    · rename_i fd hfd
      split at h
      · rename_i i hi
        split at h
        · cases h
        · rename_i n hn
          cases h
          obtain ⟨u, h1, h2⟩ := part_run (P := P) hr hl w
          refine ⟨u, ?_, h2⟩
          simp only [Instr.field, underlying, program, Sem.bind, bind, pure, Sem.run, hu, hfd, asAgg]
          exact h1
      · cases h
    · cases h
  · cases h
/-- an array's elements: how many, and their size in cells -/
def arrInfo (P : Program) (t : TypeId) : Option (Nat × Nat) :=
  match P.underlying t with
  | some (.array n e) => match P.info? e with
    | some i => some (n, i.size)
    | none => none
  | _ => none
theorem arrInfo_run {t n sz b off : Nat} {i : Int} {k : IntKind} (h : arrInfo P t = some (n, sz)) (h0 : 0 ≤ i) (hi : i < n) (w : World) :
    (Instr.indexAt t (.pointer (some ⟨b, off, none⟩)) (.int k i)).run P w = .ok (.pointer (some ⟨b, off + i.toNat * sz, none⟩)) w := by
  unfold arrInfo at h
  split at h
  · rename_i n' e hu
    split at h
    · rename_i inf hinf
      simp only [Option.some.injEq, Prod.mk.injEq] at h
      obtain ⟨rfl, rfl⟩ := h
      simp only [Instr.indexAt, asIntOf, underlying, program, Sem.bind, bind, pure, Sem.run, hu, Instr.sureAddr, sizeOf, typeInfo, hinf, h0, hi, and_self, if_true]
      simp [add_none]
    · cases h
  · cases h
/-- a slice's elements: their type and size in cells -/
def slInfo (P : Program) (t : TypeId) : Option (TypeId × Nat) :=
  match P.underlying t with
  | some (.slice e) => match P.info? e with
    | some i => some (e, i.size)
    | none => none
  | _ => none
theorem slInfo_spec {t e sz : Nat} (h : slInfo P t = some (e, sz)) : P.underlying t = some (.slice e) ∧ ∃ i, P.info? e = some i ∧ i.size = sz := by
  unfold slInfo at h
  split at h
  · rename_i e' hu
    split at h
    · rename_i i hi
      simp only [Option.some.injEq, Prod.mk.injEq] at h
      obtain ⟨rfl, rfl⟩ := h
      exact ⟨hu, i, hi, rfl⟩
    · cases h
  · cases h
theorem slInfo_under {t e sz : Nat} (h : slInfo P t = some (e, sz)) (w : World) : (underlying t).run P w = .ok (.slice e) w := by
  simp [underlying, program, Sem.run, (slInfo_spec h).1]
theorem slInfo_size {t e sz : Nat} (h : slInfo P t = some (e, sz)) (w : World) : (sizeOf e).run P w = .ok sz w := by
  obtain ⟨_, i, hi, rfl⟩ := slInfo_spec h
  simp [sizeOf, typeInfo, program, Sem.run, hi]

/-! ### struct and array literals -/
def A1.cells : A1 → List Cell
  | .c x => [x]
  | .agg cs => cs
/-- the cell's value is no aggregate -/
def notMany : Value → Bool
  | .agg _ => false
  | .tuple _ => false
  | _ => true
def Cell.single : Cell → Bool
  | .d (.v x) => notMany x
  | .own _ => false
  | _ => true
def allSingle : List Cell → Bool
  | [] => true
  | x :: r => match x.single with
    | true => allSingle r
    | false => false
def plain1 : A1 → Bool
  | .c x => x.single
  | .agg _ => true
theorem single_rep {c : Cell} (h : c.single = true) {ρ : Env} {M : Mem} {v : Value} (hr : c.rep ρ M v) : notMany v = true := by
  cases c with
  | d x =>
    cases x with
    | v y => rw [Rep.v_inv hr]; exact h
    | sl l => cases hr <;> rfl
    | mp agg l => cases hr <;> rfl
  | loc j off => have : v = _ := hr; rw [this]; rfl
  | pt row => obtain ⟨b, off, rfl, _⟩ := hr; rfl
  | tl j l => obtain ⟨_, h2⟩ := hr; cases h2 <;> rfl
  | own j => cases h
  | vl j off =>
    have e : v = vptr ρ j off := hr
    rw [e]; unfold vptr; split <;> rfl
  | fn f caps => have : v = _ := hr; rw [this]; rfl
theorem notMany_cells {v : Value} (h : notMany v = true) : v.cells = #[v] := by cases v <;> first | rfl | cases h
theorem A1.cells_rep {x : A1} (h : plain1 x = true) {ρ : Env} {M : Mem} {v : Value} (hr : x.rep ρ M v) : Reps ρ M x.cells v.cells.toList := by
  cases x with
  | c y => rw [notMany_cells (single_rep h hr)]; exact ⟨hr, trivial⟩
  | agg cs => obtain ⟨arr, rfl, h2⟩ := hr; exact h2

def setCells : List Cell → Nat → List Cell → List Cell
  | cs, _, [] => cs
  | cs, off, x :: r => setCells (cs.set off x) (off + 1) r
def setV : List Value → Nat → List Value → List Value
  | cs, _, [] => cs
  | cs, off, x :: r => setV (cs.set off x) (off + 1) r
theorem Reps.setMany {ρ : Env} {M : Mem} : ∀ {xs : List Cell} {us : List Value} {cs : List Cell} {vs : List Value} (off : Nat), Reps ρ M xs us → Reps ρ M cs vs → Reps ρ M (setCells cs off xs) (setV vs off us)
  | [], [], _, _, _, _, h => h
  | _ :: _xs, _ :: _us, _, _, off, hx, h => Reps.setMany (off + 1) hx.2 (Reps.set hx.1 off h)
  | [], _ :: _, _, _, _, hx, _ => hx.elim
  | _ :: _, [], _, _, _, hx, _ => hx.elim
theorem zip_setV : ∀ (xs : List Value) (k off : Nat) (cs : Array Value), ((xs.zipIdx k).foldl (fun cs (p : Value × Nat) => cs.setIfInBounds (off + p.2) p.1) cs).toList = setV cs.toList (off + k) xs
  | [], _, _, _ => rfl
  | x :: r, k, off, cs => by
    simp only [List.zipIdx_cons, List.foldl_cons, setV]
    rw [zip_setV r (k + 1) off]
    simp [Nat.add_assoc]
theorem fill_set (v : Value) (off : Nat) (cs : Array Value) : (v.cells.zipIdx.foldl (fun cs (c, j) => cs.setIfInBounds (off + j) c) cs) = (setV cs.toList off v.cells.toList).toArray := by
  apply Array.ext'
  have h := zip_setV v.cells.toList 0 off cs
  rw [Nat.add_zero] at h
  rw [← Array.foldl_toList, Array.toList_zipIdx]
  exact h
/-- a zero value's cells -/
def zcell (v : Value) : Cell := .d (.v v)
theorem zcell_rep (ρ : Env) (M : Mem) (v : Value) : (zcell v).rep ρ M v := Rep.v _
theorem Reps.zero {ρ : Env} {M : Mem} : ∀ l : List Value, Reps ρ M (l.map zcell) l
  | [] => trivial
  | x :: r => ⟨zcell_rep ρ M x, Reps.zero r⟩
def zeroCells (P : Program) (t : TypeId) : Option (List Value) :=
  match P.info? t with
  | some i => match i.zero with
    | some (.agg cs) => some cs.toList
    | some v => some [v]
    | none => none
  | none => none
theorem zeroCells_run {t : TypeId} {l : List Value} (h : zeroCells P t = some l) (w : World) : ∃ v, (zeroValue t).run P w = .ok v w ∧ v.cells = l.toArray := by
  unfold zeroCells at h
  split at h
  · rename_i i hi
    split at h
    · rename_i cs hz
      cases h
      exact ⟨.agg cs, by simp [zeroValue, typeInfo, program, Sem.bind, Sem.run, hi, hz, bind, pure], by simp [Value.cells]⟩
    · rename_i v hne hz
      cases h
      refine ⟨v, by simp [zeroValue, typeInfo, program, Sem.bind, Sem.run, hi, hz, bind, pure], ?_⟩
      cases v <;> first | rfl | exact absurd rfl (hne _)
    · cases h
  · cases h
/-- where the i-th part lies, and its size -/
def placesOf (P : Program) : List Field → Option (List (Nat × Nat))
  | [] => some []
  | f :: r => match P.info? f.type with
    | some i => match placesOf P r with
      | some l => some ((f.offset, i.size) :: l)
      | none => none
    | none => none
theorem placesOf_run : ∀ (fs : List Field) (l : List (Nat × Nat)), placesOf P fs = some l → ∀ w, (List.mapM (fun f => (do pure (f.offset, ← sizeOf f.type) : Sem (Nat × Nat))) fs).run P w = .ok l w
  | [], l, h, w => by simp [placesOf] at h; subst h; rfl
  | f :: r, l, h, w => by
    simp only [placesOf] at h
    split at h
    · rename_i i hi
      split at h
      · rename_i l' hl'
        cases h
        rw [List.mapM_cons]
        have h1 : (do pure (f.offset, ← sizeOf f.type) : Sem (Nat × Nat)).run P w = .ok (f.offset, i.size) w := by
          simp [sizeOf, typeInfo, program, Sem.run, hi, bind, Sem.bind, pure]
        rw [run_bind_ok h1, run_bind_ok (placesOf_run r l' hl' w)]
        rfl
      · cases h
    · cases h
def place (P : Program) (t : TypeId) : Option (Nat → Option (Nat × Nat)) :=
  match P.underlying t with
  | some (.struct fs) => match placesOf P fs.toList with
    | some l => some fun i => l[i]?
    | none => none
  | some (.array _ e) => match P.info? e with
    | some i => some fun k => some (k * i.size, i.size)
    | none => none
  | _ => none
def fillA (pl : Nat → Option (Nat × Nat)) : List Cell → List Nat → List A1 → Option (List Cell)
  | cs, [], [] => some cs
  | cs, i :: is, x :: r => match pl i with
    | some (off, size) => match plain1 x with
      | true => match Nat.beq x.cells.length size with
        | true => match Nat.ble (off + size) cs.length with
          | true => fillA pl (setCells cs off x.cells) is r
          | false => none
        | false => none
      | false => none
    | none => none
  | _, _, _ => none
def buildA (P : Program) (t : TypeId) (is : List Nat) (ps : List A1) : Option A1 :=
  match zeroCells P t with
  | some z => match place P t with
    | some pl => match fillA pl (z.map zcell) is ps with
      | some cs => some (.agg cs)
      | none => none
    | none => none
  | none => none
theorem setCells_length (cs : List Cell) (off : Nat) (xs : List Cell) : (setCells cs off xs).length = cs.length := by
  induction xs generalizing cs off with
  | nil => rfl
  | cons x r ih => simp [setCells, ih]
theorem fillA_run {ρ : Env} {M : Mem} {pl : Nat → Option (Nat × Nat)} : ∀ (is : List Nat) (ps : List A1) (us : List Value) (cs cs' : List Cell) (vs : List Value), fillA pl cs is ps = some cs' → A1.reps ρ M ps us → Reps ρ M cs vs →
    ∃ vs', Instr.fill pl vs.toArray (is.zip us) = some vs'.toArray ∧ Reps ρ M cs' vs'
  | [], [], [], cs, cs', vs, h, _, hr => by simp [fillA] at h; subst h; exact ⟨vs, rfl, hr⟩
  | [], [], _ :: _, _, _, _, _, hp, _ => hp.elim
  | i :: is, x :: r, [], _, _, _, _, hp, _ => hp.elim
  | i :: is, x :: r, u :: us, cs, cs', vs, h, hp, hr => by
    simp only [fillA] at h
    split at h
    · rename_i off size hpl
      split at h
      · rename_i hpn
        split at h
        · rename_i hl
          split at h
          · rename_i hle
            have hl' : x.cells.length = size := Nat.eq_of_beq_eq_true hl
            have hle' := Nat.le_of_ble_eq_true hle
            have hc := A1.cells_rep hpn hp.1
            have hcl := hc.len
            have hvl := hr.len
            simp only [List.zip_cons_cons, Instr.fill, hpl]
            rw [if_neg (by
              have : u.cells.size = size := by simpa [hl'] using hcl
              simp [this, hvl]; omega), fill_set]
            exact fillA_run is r us (setCells cs off x.cells) cs' _ h hp.2 (by simpa using Reps.setMany off hc hr)
          · cases h
        · cases h
      · cases h
    · cases h
  | [], _ :: _, _, _, _, _, h, _, _ => by simp [fillA] at h
  | _ :: _, [], _, _, _, _, h, _, _ => by simp [fillA] at h
theorem buildA_run {ρ : Env} {M : Mem} {t : TypeId} {is : List Nat} {ps : List A1} {us : List Value} {x : A1} (h : buildA P t is ps = some x) (hp : A1.reps ρ M ps us) (w : World) :
    ∃ u, (Instr.build t (is.zip us).toArray).run P w = .ok u w ∧ x.rep ρ M u := by
  unfold buildA at h
  split at h
  · rename_i z hz
    split at h
    · rename_i pl hpl
      split at h
      · rename_i cs hcs
        cases h
        obtain ⟨zv, hzv, hzc⟩ := zeroCells_run hz w
        obtain ⟨vs', hf, hr'⟩ := fillA_run (ρ := ρ) (M := M) is ps us _ _ z hcs hp (Reps.zero z)
        refine ⟨.agg vs'.toArray, ?_, _, rfl, hr'⟩
        unfold Instr.build
        rw [run_bind_ok hzv]
        unfold place at hpl
        split at hpl
        · rename_i fs hu
          split at hpl
          · rename_i l hl
            cases hpl
            have hun : (underlying t).run P w = .ok (.struct fs) w := by simp [underlying, program, Sem.run, hu]
            rw [run_bind_ok hun]
            simp only
            have hm : (fs.mapM fun f => (do pure (f.offset, ← sizeOf f.type) : Sem (Nat × Nat))).run P w = .ok l.toArray w := by
              rw [← Array.toArray_toList (xs := fs), List.mapM_toArray, Sem.run_map]
              have := placesOf_run fs.toList l hl w
              rw [this]; rfl
            rw [run_bind_ok hm]
            have e1 : (fun i : Nat => l.toArray[i]?) = (fun i : Nat => l[i]?) := by funext i; simp
            simp only [e1, hzc, hf]
            rfl
          · cases hpl
        · rename_i n e hu
          split at hpl
          · rename_i i hi
            cases hpl
            have hun : (underlying t).run P w = .ok (.array n e) w := by simp [underlying, program, Sem.run, hu]
            have hsz : (sizeOf e).run P w = .ok i.size w := by simp [sizeOf, typeInfo, program, Sem.run, hi]
            rw [run_bind_ok hun]
            simp only
            rw [run_bind_ok hsz]
            simp only [hzc, hf]
            rfl
          · cases hpl
        · cases hpl
      · cases h
    · cases h
  · cases h

/-- a slice's content -/
def slOf : A1 → Option (List (List D))
  | .c (.d (.sl l)) => some l
  | .c (.tl _ l) => some l
  | .c (.d (.v (.slice none 0 0))) => some []
  | _ => none
theorem slOf_rep {x : A1} {l : List (List D)} (h : slOf x = some l) {ρ : Env} {M : Mem} {v : Value} (hr : x.rep ρ M v) : Rep M (.sl l) v := by
  unfold slOf at h
  split at h
  · cases h; exact hr
  · cases h; exact hr.2
  · cases h; rw [Rep.v_inv hr]; exact Rep.nil
  · cases h
def isSl (P : Program) (t : TypeId) : Bool := match P.underlying t with
  | some (.slice _) => true
  | _ => false
def dcells (row : List D) : List Cell := row.map .d

/-- the value of a quiet operation -/
def evQ (P : Program) (F : FS) (ty : TypeId) : Op → Option A1
  | .move x => rd F x
  | .assign x => rd F x
  | .binOp op t x y _ => match rdV F x with
    | some vx => match rdV F y with
      | some vy => match runPure P (eqGuard op t x y vx vy >>= fun _ => binOp op t vx vy) with
        | some v => some (ofV v)
        | none => none
      | none => none
    | none => none
  | .unOp op _ x => match rdV F x with
    | some vx => match runPure P (Op.unary op vx) with
      | some v => some (ofV v)
      | none => none
    | none => none
  | .convert s d x => match rdV F x with
    | some vx => match runPure P (convert s d vx) with
      | some v => some (ofV v)
      | none => none
    | none => none
  | .field t x f => match rd F x with
    | some (.agg cs) => match fieldOff P t f with
      | some (o, ft) => takeA P ft cs o
      | none => none
    | _ => none
  | .index t x i => match rdV F x with
    | some vx => match rdV F i with
      | some vi => match runPure P (Instr.index t vx vi) with
        | some v => some (ofV v)
        | none => none
      | none => none
    | none => none
  | .build t parts => match rds F (parts.toList.map (·.2)) with
    | some ps => buildA P t (parts.toList.map (·.1)) ps
    | none => none
  | .extract t i => match opnd F t with
    | some (.tup xs) => xs[i]?
    | _ => none
  | .fieldAddr t x f => match rd F x with
    | some (.c (.loc j off)) => match fieldOff P t f with
      | some (o, _) => some (.c (.loc j (off + o)))
      | none => none
    | some (.c (.pt row)) => match fieldOff P t f with
      | some (o, _) => some (.c (.pt (row.drop o)))
      | none => none
    | _ => none
  | .load t x => match rd F x with
    | some (.c (.loc j off)) => match F.bl j with
      | some (.blk cs _) => takeA P t cs off
      | _ => none
    | some (.c (.pt row)) => takeA P t (dcells row) 0
    | _ => none
  | .nilCheck x => match rd F x with
    | some (.c (.loc j off)) => some (.c (.loc j off))
    | some (.c (.pt row)) => some (.c (.pt row))
    | _ => none
  | .indexAddr t x i => match rd F x with
    | some (.c (.loc j off)) => match rdV F i with
      | some (.int _ (.ofNat k)) => match arrInfo P t with
        | some (n, sz) => match Nat.blt k n with
          | true => some (.c (.loc j (off + k * sz)))
          | false => none
        | none => none
      | _ => none
    | _ => none
  | .call { callee := .builtin b, args, argTypes } => match rdVs F args.toList with
    | some vs => match runPure P (builtin b argTypes ty (args.map fun | .const _ => true | _ => false) vs.toArray) with
      | some (.value v) => some (ofV v)
      | _ => none
    | none => match b, args.toList, argTypes.toList with
      | .len, [x], [t] => match rd F x with
        | some y => match slOf y with
          | some l => match isSl P t with
            | true => some (.c (.d (.v (.int .i64 l.length))))
            | false => none
          | none => none
        | none => none
      | _, _, _ => none
  | _ => none

theorem zip_parts (parts : Array (Nat × Operand)) (f : Operand → Value) : parts.map (fun x => (x.fst, f x.snd)) = ((parts.toList.map (·.1)).zip ((parts.toList.map (·.2)).map f)).toArray := by
  apply Array.ext'
  simp only [Array.toList_map, List.map_map]
  induction parts.toList with
  | nil => rfl
  | cons p r ih => simp [ih]
theorem len_run {M : Mem} {l : List (List D)} {v : Value} (h : Rep M (.sl l) v) {t : TypeId} (ht : isSl P t = true) (w : World) : (Builtin.len_ #[t] 0 #[v]).run P w = .ok (.int .i64 l.length) w := by
  unfold isSl at ht
  split at ht
  · rename_i e hu
    have hun : (underlying t).run P w = .ok (.slice e) w := by simp [underlying, program, Sem.run, hu]
    obtain ⟨a, n, c, rfl, hn⟩ : ∃ a n c, v = .slice a n c ∧ n = l.length := by
      cases h with
      | nil => exact ⟨_, _, _, rfl, rfl⟩
      | sl => exact ⟨_, _, _, rfl, rfl⟩
    subst hn
    unfold Builtin.len_
    simp only [List.getElem?_toArray, List.getElem?_cons_zero]
    rw [run_bind_ok hun]
    rfl
  · cases ht

theorem evQ_run {ρ : Env} {M : Mem} {a : Act} {w : World} {o : Oper} {x : A1} (hr : Rel0 C F ρ M a w) (hR : Reads F a ρ M o.op.operands.toList) (h : evQ P F o.type o.op = some x) :
    ∃ u, (execOp a.eval o).run P w = .ok (.value u) w ∧ x.rep ρ M u := by
  have fin : ∀ {s : Sem Value} {v : Value}, runPure P s = some v → x = ofV v → ∃ u, (do let y ← s; pure (Next.value y) : Sem Next).run P w = .ok (.value u) w ∧ x.rep ρ M u := by
    intro s v h1 h2
    exact ⟨v, bind_value (runPure_run h1 w), by rw [h2]; exact ofV_rep v ρ M⟩
  unfold evQ at h
  split at h
  · rename_i x' ho
    unfold execOp; simp only [ho]
    exact ⟨_, rfl, hR x' (by simp [ho, Op.operands]) _ h⟩
  · rename_i x' ho
    unfold execOp; simp only [ho]
    exact ⟨_, rfl, hR x' (by simp [ho, Op.operands]) _ h⟩
  · rename_i op t x1 y1 yt ho
    split at h
    · rename_i vx hvx
      split at h
      · rename_i vy hvy
        split at h
        · rename_i v hv
          cases h
          unfold execOp; simp only [ho]
          rw [rdV_eval hR (by simp [ho, Op.operands]) hvx, rdV_eval hR (by simp [ho, Op.operands]) hvy]
          exact fin hv rfl
        · cases h
      · cases h
    · cases h
  · rename_i op t x1 ho
    split at h
    · rename_i vx hvx
      split at h
      · rename_i v hv
        cases h
        unfold execOp; simp only [ho]
        rw [rdV_eval hR (by simp [ho, Op.operands]) hvx]
        exact fin hv rfl
      · cases h
    · cases h
  · rename_i s d x1 ho
    split at h
    · rename_i vx hvx
      split at h
      · rename_i v hv
        cases h
        unfold execOp; simp only [ho]
        rw [rdV_eval hR (by simp [ho, Op.operands]) hvx]
        exact fin hv rfl
      · cases h
    · cases h
  · rename_i t x1 f ho
    split at h
    · rename_i cs hcs
      split at h
      · rename_i o' ft hf
        unfold execOp; simp only [ho]
        obtain ⟨arr, e1, h2⟩ := hR x1 (by simp [ho, Op.operands]) _ hcs
        rw [e1]
        obtain ⟨u, g1, g2⟩ := field_run (P := P) hf h2 h w
        exact ⟨u, bind_value g1, g2⟩
      · cases h
    · cases h
  · rename_i t x1 i1 ho
    split at h
    · rename_i vx hvx
      split at h
      · rename_i vi hvi
        split at h
        · rename_i v hv
          cases h
          unfold execOp; simp only [ho]
          rw [rdV_eval hR (by simp [ho, Op.operands]) hvx, rdV_eval hR (by simp [ho, Op.operands]) hvi]
          exact fin hv rfl
        · cases h
      · cases h
    · cases h
  · rename_i t parts ho
    split at h
    · rename_i ps hps
      unfold execOp; simp only [ho]
      obtain ⟨u, g1, g2⟩ := buildA_run (P := P) h (rds_rep (fun z hz => hR z (by simpa [ho, Op.operands] using hz)) hps) w
      refine ⟨u, ?_, g2⟩
      show (do let y ← Instr.build t (parts.map fun (x : Nat × Operand) => (x.fst, a.eval x.snd)); pure (Next.value y) : Sem Next).run P w = _
      rw [zip_parts]
      exact bind_value g1
    · cases h
  · rename_i t i ho
    split at h
    · rename_i xs hxs
      unfold execOp; simp only [ho]
      obtain ⟨arr, e1, h2⟩ := opnd_rep hr hxs
      rw [e1]
      have key : ∀ (xs : List A1) (vs : List Value) (i : Nat), A1.reps ρ M xs vs → xs[i]? = some x → ∃ u, vs[i]? = some u ∧ x.rep ρ M u := by
        intro xs
        induction xs with
        | nil => intro vs i _ hx; simp at hx
        | cons y ys ih =>
          intro vs i hrs hx
          cases vs with
          | nil => exact hrs.elim
          | cons u us =>
            cases i with
            | zero => simp at hx; subst hx; exact ⟨u, rfl, hrs.1⟩
            | succ i => obtain ⟨u', q1, q2⟩ := ih us i hrs.2 (by simpa using hx); exact ⟨u', by simpa using q1, q2⟩
      obtain ⟨u, q1, q2⟩ := key xs arr.toList i h2 h
      refine ⟨u, ?_, q2⟩
      have e2 : arr[i]? = some u := by simpa using q1
      simp only [Instr.extract, e2]
      rfl
    · cases h
  · rename_i t x1 f ho
    split at h
    · rename_i j off hx
      split at h
      · rename_i o' ft ho'
        cases h
        unfold execOp; simp only [ho]
        have e : a.eval x1 = ptr ρ j off := hR x1 (by simp [ho, Op.operands]) _ hx
        rw [e]
        exact ⟨_, bind_value (fieldOff_run ho' _ _ w), rfl⟩
      · cases h
    · rename_i row hx
      split at h
      · rename_i o' ft ho'
        cases h
        unfold execOp; simp only [ho]
        obtain ⟨b, off, e, hd⟩ := hR x1 (by simp [ho, Op.operands]) _ hx
        rw [e]
        refine ⟨_, bind_value (fieldOff_run ho' _ _ w), b, off + o', rfl, fun j d hj => ?_⟩
        rw [List.getElem?_drop] at hj
        rw [Nat.add_assoc]; exact hd _ _ hj
      · cases h
    · cases h
  · rename_i t x1 ho
    split at h
    · rename_i j off hx
      split at h
      · rename_i cs ty' hb
        unfold execOp; simp only [ho]
        have e : a.eval x1 = ptr ρ j off := hR x1 (by simp [ho, Op.operands]) _ hx
        rw [e]
        obtain ⟨⟨arr, g1, g2⟩, _⟩ := hr.heap.inv _ _ hb
        obtain ⟨u, q1, q2⟩ := takeA_run (P := P) (w := w) (b := blockOf (ρ j)) (o0 := 0) (fun i v hv => by
          rw [Nat.zero_add]
          have hv' : arr[i]? = some v := by simpa using hv
          simp only [World.cell?, g1]; simpa using hv') g2 h
        rw [Nat.zero_add] at q1
        exact ⟨u, bind_value q1, q2⟩
      · cases h
    · rename_i row hx
      unfold execOp; simp only [ho]
      obtain ⟨b, off, e, hd⟩ := hR x1 (by simp [ho, Op.operands]) _ hx
      rw [e]
      have key : ∀ (row : List D) (k : Nat), (∀ (j : Nat) d, row[j]? = some d → ∃ u, M.cell b (off + k + j) = some u ∧ Rep M d u) → ∃ vs, Reps ρ M (dcells row) vs ∧ ∀ (i : Nat) v, vs[i]? = some v → w.cell? ⟨b, off + k + i, none⟩ = some v := by
        intro row
        induction row with
        | nil => intro k _; exact ⟨[], trivial, fun i v hv => by simp at hv⟩
        | cons d r ih =>
          intro k hk
          obtain ⟨u, m1, m2⟩ := hk 0 d rfl
          obtain ⟨vs, r1, r2⟩ := ih (k + 1) (fun j d' hj => by
            have := hk (j + 1) d' (by simpa using hj)
            rw [show off + (k + 1) + j = off + k + (j + 1) by omega]; exact this)
          refine ⟨u :: vs, ⟨m2, r1⟩, fun i v hv => ?_⟩
          cases i with
          | zero => simp at hv; subst hv; exact hr.heap.mem.cell _ _ _ (by simpa using m1)
          | succ i =>
            have := r2 i v (by simpa using hv)
            rw [show off + k + (i + 1) = off + (k + 1) + i by omega]; exact this
      obtain ⟨vs, r1, r2⟩ := key row 0 (fun j d hj => by simpa using hd j d hj)
      obtain ⟨u, q1, q2⟩ := takeA_run (P := P) (w := w) (b := b) (o0 := off) (off := 0) (fun i v hv => by have := r2 i v hv; simpa using this) r1 h
      exact ⟨u, bind_value q1, q2⟩
    · cases h
  · rename_i x1 ho
    split at h
    · rename_i j off hx
      cases h
      unfold execOp; simp only [ho]
      have e : a.eval x1 = ptr ρ j off := hR x1 (by simp [ho, Op.operands]) _ hx
      rw [e]
      exact ⟨_, rfl, rfl⟩
    · rename_i row hx
      cases h
      unfold execOp; simp only [ho]
      have hp := hR x1 (by simp [ho, Op.operands]) _ hx
      obtain ⟨b, off, e, hd⟩ := hp
      rw [e]
      exact ⟨_, rfl, b, off, rfl, hd⟩
    · cases h
  · rename_i t x1 i1 ho
    split at h
    · rename_i j off hx
      split at h
      · rename_i ik k hi
        split at h
        · rename_i n sz hti
          split at h
          · rename_i hlt
            cases h
            unfold execOp; simp only [ho]
            have e : a.eval x1 = ptr ρ j off := hR x1 (by simp [ho, Op.operands]) _ hx
            rw [e, rdV_eval hR (by simp [ho, Op.operands]) hi]
            refine ⟨_, bind_value (arrInfo_run hti (Int.natCast_nonneg k) (by have := Nat.blt_eq.mp hlt; exact Int.ofNat_lt.mpr this) w), rfl⟩
          · cases h
        · cases h
      · cases h
    · cases h
  · rename_i b args argTypes ho
    split at h
    · rename_i vs hvs
      split at h
      · rename_i v hv
        cases h
        unfold execOp; simp only [ho]
        have e1 : args.map a.eval = vs.toArray := by
          rw [← rdVs_eval (fun z hz => hR z (by simpa [ho, Op.operands, Call.operands] using hz)) hvs]; apply Array.ext'; simp
        simp only [resolve, e1, pure_bind, invoke]
        exact ⟨v, runPure_run hv w, ofV_rep v ρ M⟩
      · cases h
    · split at h
      · rename_i x1 t ha ht
        split at h
        · rename_i y hy
          split at h
          · rename_i l hl
            split at h
            · rename_i his
              cases h
              unfold execOp; simp only [ho]
              have ha' : args = #[x1] := by apply Array.ext'; simpa using ha
              have ht' : argTypes = #[t] := by apply Array.ext'; simpa using ht
              subst ha' ht'
              refine ⟨_, ?_, Rep.v _⟩
              have hrep := slOf_rep hl (hR x1 (by simp [ho, Op.operands, Call.operands]) y hy)
              have := len_run (P := P) hrep his w
              simp only [resolve, List.map_toArray, List.map_cons, List.map_nil, pure_bind, invoke]
              show (do let y ← Builtin.len_ #[t] o.type #[a.eval x1]; pure (Next.value y) : Sem Next).run P w = _
              exact bind_value this
            · cases h
          · cases h
        · cases h
      · cases h
  · cases h

/-! ### what an operation reads -/
def slotsOf : List Operand → List Nat
  | [] => []
  | .tmp t :: r => t :: slotsOf r
  | _ :: r => slotsOf r
def ldBlk (F : FS) : Op → List Nat
  | .load _ x => match rd F x with
    | some (.c (.loc j _)) => [j]
    | _ => []
  | _ => []
def Same (F' F : FS) (rs rb : List Nat) : Prop := (∀ t ∈ rs, F'.sl t = F.sl t) ∧ (∀ j ∈ rb, F'.bl j = F.bl j)
theorem opnd_same {F' : FS} : ∀ {xs : List Operand}, (∀ t ∈ slotsOf xs, F'.sl t = F.sl t) → ∀ x ∈ xs, opnd F' x = opnd F x
  | [], _, x, hx => by cases hx
  | y :: r, h, x, hx => by
    cases hx with
    | head => cases y with
      | tmp t => exact h t (by simp [slotsOf])
      | _ => rfl
    | tail _ hm => exact opnd_same (fun t ht => h t (by cases y <;> simp [slotsOf, ht])) x hm
theorem rd_same {F' : FS} {x : Operand} (h : opnd F' x = opnd F x) : rd F' x = rd F x := by unfold rd; rw [h]
theorem rdV_same {F' : FS} {x : Operand} (h : opnd F' x = opnd F x) : rdV F' x = rdV F x := by unfold rdV; rw [rd_same h]
theorem rdVs_same {F' : FS} {xs : List Operand} (h : ∀ x ∈ xs, opnd F' x = opnd F x) : rdVs F' xs = rdVs F xs := by
  induction xs with
  | nil => rfl
  | cons x r ih => simp only [rdVs, rdV_same (h x (by simp)), ih (fun z hz => h z (by simp [hz]))]
theorem rds_same {F' : FS} {xs : List Operand} (h : ∀ x ∈ xs, opnd F' x = opnd F x) : rds F' xs = rds F xs := by
  induction xs with
  | nil => rfl
  | cons x r ih => simp only [rds, rd_same (h x (by simp)), ih (fun z hz => h z (by simp [hz]))]
theorem sideOk_same {F' : FS} {g : Bool} {xs : List Operand} (h : ∀ x ∈ xs, opnd F' x = opnd F x) (hs : sideOk F g xs) : sideOk F' g xs := by
  induction xs with
  | nil => trivial
  | cons x r ih =>
    unfold sideOk at hs ⊢
    rw [h x (by simp)]
    split at hs
    · exact ⟨hs.1, ih (fun z hz => h z (by simp [hz])) hs.2⟩
    · exact ih (fun z hz => h z (by simp [hz])) hs
theorem evQ_same {F' : FS} {ty : TypeId} {op : Op} (h : ∀ x ∈ op.operands.toList, opnd F' x = opnd F x) (hb : ∀ j ∈ ldBlk F op, F'.bl j = F.bl j) : evQ P F' ty op = evQ P F ty op := by
  unfold evQ
  split
  · rename_i x; exact rd_same (h x (by simp [Op.operands]))
  · rename_i x; exact rd_same (h x (by simp [Op.operands]))
  · rename_i op t x y yt
    rw [rdV_same (h x (by simp [Op.operands])), rdV_same (h y (by simp [Op.operands]))]
  · rename_i op t x
    rw [rdV_same (h x (by simp [Op.operands]))]
  · rename_i s d x
    rw [rdV_same (h x (by simp [Op.operands]))]
  · rename_i t x f
    rw [rd_same (h x (by simp [Op.operands]))]
  · rename_i t x i
    rw [rdV_same (h x (by simp [Op.operands])), rdV_same (h i (by simp [Op.operands]))]
  · rename_i t parts
    rw [rds_same (fun z hz => h z (by simpa [Op.operands] using hz))]
  · rename_i t i
    rw [h t (by simp [Op.operands])]
  · rename_i t x f
    rw [rd_same (h x (by simp [Op.operands]))]
  · rename_i t x
    rw [rd_same (h x (by simp [Op.operands]))]
    split
    · rename_i j off hj
      rw [hb j (by simp [ldBlk, hj])]
    · rfl
    · rfl
  · rename_i x
    rw [rd_same (h x (by simp [Op.operands]))]
  · rename_i t x i
    rw [rd_same (h x (by simp [Op.operands])), rdV_same (h i (by simp [Op.operands]))]
  · rename_i b args argTypes
    have hs : ∀ x ∈ args.toList, opnd F' x = opnd F x := fun z hz => h z (by simpa [Op.operands, Call.operands] using hz)
    rw [rdVs_same hs]
    split
    · rfl
    · split
      · rename_i x t ha ht
        rw [rd_same (hs x (by rw [ha]; simp))]
      · rfl
  · rfl
end Go.E2

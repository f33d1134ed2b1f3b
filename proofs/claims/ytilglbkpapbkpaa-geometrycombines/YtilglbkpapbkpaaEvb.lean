/-
  The evaluator of operations: what a quiet operation yields, what it reads; and that it is the model's own operation.
-/
import Derived.Test.YtilglbkpapbkpaaEva
namespace Go.Ev
variable {P : Program} {C : Ctx} {F : FS}

def runPure (P : Program) {α : Type} : Sem α → Option α
  | .pure a => some a
  | .program k => runPure P (k P)
  | .mark _ k => runPure P k
  | _ => none
theorem runPure_run {α : Type} {s : Sem α} {a : α} (h : runPure P s = some a) (w : World) : s.run P w = .ok a w := by
  induction s with
  | pure x => simp only [runPure, Option.some.injEq] at h; subst h; rfl
  | program k ih => simp only [runPure] at h; exact ih P h
  | mark m k ih => simp only [runPure] at h; exact ih h
  | _ => simp [runPure] at h

def cellVals : List Cell → Option (List Value)
  | [] => some []
  | c :: r => match c with
    | .v x => match cellVals r with
      | some l => some (x :: l)
      | none => none
    | _ => none
def A1.val : A1 → Option Value
  | .c (.v x) => some x
  | .agg cs => match cellVals cs with
    | some l => some (.agg l.toArray)
    | none => none
  | _ => none
def ofV : Value → A1
  | .agg cs => .agg (cs.toList.map .v)
  | v => .c (.v v)
theorem cellVals_den {cs : List Cell} {l : List Value} (h : cellVals cs = some l) (ρ : Env) : cs.map (Cell.den ρ) = l := by
  induction cs generalizing l with
  | nil => simp [cellVals] at h; simp [h]
  | cons c r ih =>
    cases c with
    | loc j off => simp [cellVals] at h
    | sym j => simp [cellVals] at h
    | v x =>
      simp only [cellVals] at h
      split at h
      · rename_i l' hl'
        simp only [Option.some.injEq] at h
        subst h
        simp [ih hl', Cell.den]
      · cases h
theorem A1.val_den {x : A1} {v : Value} (h : x.val = some v) (ρ : Env) : x.den ρ = v := by
  cases x with
  | c y => cases y with
    | v u => simp [A1.val] at h; simp [A1.den, Cell.den, h]
    | loc j off => simp [A1.val] at h
    | sym j => simp [A1.val] at h
  | agg cs =>
    simp only [A1.val] at h
    split at h
    · rename_i l hl
      simp only [Option.some.injEq] at h
      subst h
      simp [A1.den, cellVals_den hl ρ]
    · cases h
theorem ofV_den (v : Value) (ρ : Env) : (ofV v).den ρ = v := by
  cases v <;> simp [ofV, A1.den, Cell.den, List.map_map, Function.comp_def]

/-- an operand's value, guards put aside -/
def rd (F : FS) (x : Operand) : Option A1 :=
  match opnd F x with
  | some (.s x) => some x
  | some (.gd _ x) => some x
  | _ => none
def rdV (F : FS) (x : Operand) : Option Value :=
  match rd F x with
  | some y => y.val
  | none => none
def rdVs (F : FS) : List Operand → Option (List Value)
  | [] => some []
  | x :: r => match rdV F x with
    | some v => match rdVs F r with
      | some l => some (v :: l)
      | none => none
    | none => none
def rdParts (F : FS) : List (Nat × Operand) → Option (List (Nat × A1))
  | [] => some []
  | (i, x) :: r => match rd F x with
    | some v => match rdParts F r with
      | some l => some ((i, v) :: l)
      | none => none
    | none => none
/-- the guards of the operands hold -/
def sideOk (F : FS) (g : Bool) : List Operand → Prop
  | [] => True
  | x :: r => match opnd F x with
    | some (.gd g' _) => (g = true → g' = true) ∧ sideOk F g r
    | _ => sideOk F g r

/-- what each operand reads as, in the frame -/
def Reads (F : FS) (a : Act) (ρ : Env) (xs : List Operand) : Prop := ∀ x, x ∈ xs → ∀ y, rd F x = some y → a.eval x = y.den ρ
theorem reads_of {ρ : Env} {M : Mem} {a : Act} {w : World} (hr : Rel0 C F ρ M a w) {g : Bool} (hg : g = true) {xs : List Operand} (hs : sideOk F g xs) : Reads F a ρ xs := by
  induction xs with
  | nil => intro x hx; cases hx
  | cons x r ih =>
    intro z hz y hy
    unfold sideOk at hs
    unfold rd at hy
    cases hz with
    | head =>
      split at hy
      · rename_i y' h'; cases hy; exact opnd_den hr h'
      · rename_i g' y' h'
        cases hy
        rw [h'] at hs
        rw [opnd_den hr h', AV.den, hs.1 hg, if_pos rfl]
      · cases hy
    | tail _ hm =>
      refine ih ?_ z hm y hy
      split at hs
      · exact hs.2
      · exact hs
theorem rdV_eval {ρ : Env} {a : Act} {xs : List Operand} (h : Reads F a ρ xs) {x : Operand} (hx : x ∈ xs) {v : Value} (hv : rdV F x = some v) : a.eval x = v := by
  unfold rdV at hv
  split at hv
  · rename_i y hy; rw [h x hx y hy, A1.val_den hv]
  · cases hv
theorem rdVs_eval {ρ : Env} {a : Act} {xs : List Operand} (h : Reads F a ρ xs) {vs : List Value} (hv : rdVs F xs = some vs) : xs.map a.eval = vs := by
  induction xs generalizing vs with
  | nil => simp [rdVs] at hv; simp [hv]
  | cons x r ih =>
    simp only [rdVs] at hv
    split at hv
    · rename_i v hv1
      split at hv
      · rename_i l hl
        cases hv
        simp only [List.map_cons]
        rw [rdV_eval h (List.mem_cons_self ..) hv1, ih (fun z hz => h z (List.mem_cons_of_mem _ hz)) hl]
      · cases hv
    · cases hv
theorem rdParts_eval {ρ : Env} {a : Act} {ps : List (Nat × Operand)} (h : Reads F a ρ (ps.map (·.2))) {vs : List (Nat × A1)} (hv : rdParts F ps = some vs) : ps.map (fun p => (p.1, a.eval p.2)) = vs.map (fun p => (p.1, p.2.den ρ)) := by
  induction ps generalizing vs with
  | nil => simp [rdParts] at hv; simp [hv]
  | cons p r ih =>
    obtain ⟨i, x⟩ := p
    simp only [rdParts] at hv
    split at hv
    · rename_i v hv1
      split at hv
      · rename_i l hl
        cases hv
        simp only [List.map_cons]
        rw [h x (by simp) v hv1, ih (fun z hz => h z (by simp at hz ⊢; exact .inr hz)) hl]
      · cases hv
    · cases hv

/-- size in cells, and whether it is a struct or an array -/
def tinfo (P : Program) (t : TypeId) : Option (Nat × Bool) :=
  match P.info? t, P.underlying t with
  | some i, some d => some (i.size, match d with | .struct _ => true | .array _ _ => true | _ => false)
  | _, _ => none
theorem tinfo_size {t n : Nat} {b : Bool} (h : tinfo P t = some (n, b)) (w : World) : (sizeOf t).run P w = .ok n w := by
  unfold tinfo at h
  split at h
  · rename_i i d hi hd
    simp only [Option.some.injEq, Prod.mk.injEq] at h
    obtain ⟨rfl, _⟩ := h
    show (Sem.bind (Sem.program Sem.pure) _).run P w = _
    simp [Sem.bind, Sem.run, hi, pure]
  · cases h
theorem tinfo_agg {t n : Nat} {b : Bool} (h : tinfo P t = some (n, b)) (w : World) : (isAgg t).run P w = .ok b w := by
  unfold tinfo at h
  split at h
  · rename_i i d hi hd
    simp only [Option.some.injEq, Prod.mk.injEq] at h
    obtain ⟨_, rfl⟩ := h
    simp only [isAgg, underlying, program, Sem.bind, bind, pure, Sem.run, hd]
    cases d <;> rfl
  · cases h

def loadA (P : Program) (t : TypeId) (cs : List Cell) (off : Nat) : Option A1 :=
  match tinfo P t with
  | some (n, true) => match Nat.ble (off + n) cs.length with
    | true => some (.agg ((cs.drop off).take n))
    | false => none
  | some (_, false) => match cs[off]? with
    | some c => some (.c c)
    | none => none
  | none => none

theorem run_bind_ok {α β : Type} {x : Sem α} {f : α → Sem β} {w w' : World} {a : α} (h : x.run P w = .ok a w') : (x >>= f).run P w = (f a).run P w' := by
  rw [Sem.run_bind, h]; rfl
theorem load_run {w : World} {b off : Nat} {arr : Array Value} {ty : TypeId} {fr : Nat × Nat} (h : w.heap[b]? = some (.cells arr ty fr)) {v : Value} (hv : arr[off]? = some v) :
    (load ⟨b, off, none⟩).run P w = .ok v w := by
  simp [load, Sem.run, World.cell?, h, hv]
theorem add_none (b off i : Nat) : (Addr.mk b off none).add i = ⟨b, off + i, none⟩ := by
  unfold Addr.add; split
  · rename_i h; subst h; rfl
  · rfl
theorem loadCellsFrom_run {w : World} {b off : Nat} {arr : Array Value} {ty : TypeId} {fr : Nat × Nat} (h : w.heap[b]? = some (.cells arr ty fr)) :
    ∀ (n i : Nat) (acc : Array Value), off + i + n ≤ arr.size → (loadCellsFrom ⟨b, off, none⟩ i n acc).run P w = .ok (acc ++ arr.extract (off + i) (off + i + n)) w
  | 0, i, acc, _ => by simp [loadCellsFrom]; omega
  | n + 1, i, acc, hn => by
    have hlt : off + i < arr.size := by omega
    have hl : (load ((Addr.mk b off none).add i)).run P w = .ok arr[off + i] w := by
      rw [add_none]; exact load_run h (by simp [hlt])
    unfold loadCellsFrom
    rw [run_bind_ok hl]
    rw [loadCellsFrom_run h n (i + 1) _ (by omega)]
    congr 1
    apply Array.ext'
    simp only [Array.toList_append, Array.toList_push, Array.toList_extract, List.append_assoc, List.extract_eq_take_drop]
    congr 1
    have e1 : off + i + (n + 1) - (off + i) = n + 1 := by omega
    have e2 : off + (i + 1) + n - (off + (i + 1)) = n := by omega
    rw [e1, e2]
    have e3 : arr.toList.drop (off + i) = arr[off + i] :: arr.toList.drop (off + i + 1) := by
      rw [List.drop_eq_getElem_cons (by simpa using hlt)]; rfl
    rw [e3, List.take_succ_cons]
    rfl
theorem loadCells_run {w : World} {b off n : Nat} {arr : Array Value} {ty : TypeId} {fr : Nat × Nat} (h : w.heap[b]? = some (.cells arr ty fr)) (hn : off + n ≤ arr.size) :
    (loadCells ⟨b, off, none⟩ n).run P w = .ok (arr.extract off (off + n)) w := by
  unfold loadCells
  rw [loadCellsFrom_run h n 0 #[] (by omega)]
  simp
theorem loadA_run {w : World} {ρ : Env} {b off : Nat} {cs : List Cell} {ty t : TypeId} {x : A1} {fr : Nat × Nat} (h : w.heap[b]? = some (.cells (cs.map (Cell.den ρ)).toArray ty fr)) (hl : loadA P t cs off = some x) :
    (loadVar t ⟨b, off, none⟩).run P w = .ok (x.den ρ) w := by
  unfold loadA at hl
  split at hl
  · rename_i n hti
    split at hl
    · rename_i hle
      cases hl
      have hle' : off + n ≤ cs.length := Nat.le_of_ble_eq_true hle
      unfold loadVar
      rw [run_bind_ok (tinfo_agg hti w), if_pos rfl, run_bind_ok (tinfo_size hti w), run_bind_ok (loadCells_run h (by simpa using hle'))]
      simp only [pure, Sem.run, A1.den]
      congr 2
      apply Array.ext'
      simp [List.extract_eq_take_drop, List.map_take, List.map_drop]
    · cases hl
  · rename_i n hti
    split at hl
    · rename_i c hc
      cases hl
      unfold loadVar
      rw [run_bind_ok (tinfo_agg hti w), if_neg (by simp), load_run h (v := c.den ρ) (by simp [hc])]
      rfl
    · cases hl
  · cases hl

/-- the offset of a field whose type has cells -/
def fieldOff (P : Program) (t f : Nat) : Option Nat :=
  match P.underlying t with
  | some (.struct fs) => match fs[f]? with
    | some fd => match P.info? fd.type with
      | some i => match i.size with
        | 0 => none
        | _ + 1 => some fd.offset
      | none => none
    | none => none
  | _ => none
theorem fieldOff_run {t f o : Nat} (h : fieldOff P t f = some o) (b off : Nat) (w : World) : (Instr.fieldAt t (.pointer (some ⟨b, off, none⟩)) f).run P w = .ok (.pointer (some ⟨b, off + o, none⟩)) w := by
  unfold fieldOff at h
  split at h
  · rename_i fs hu
    split at h
    · rename_i fd hfd
      split at h
      · rename_i i hi
        split at h
        · cases h
        · rename_i n hn
          cases h
          simp only [Instr.fieldAt, underlying, program, Sem.bind, bind, pure, Sem.run, hu, hfd, Instr.sureAddr, fieldPlace, sizeOf, typeInfo, hi, hn]
          simp [Sem.run, add_none, Sem.bind]
      · cases h
    · cases h
  · cases h

/-- an array's elements: how many, and their size in cells -/
def arrInfo (P : Program) (t : TypeId) : Option (Nat × Nat) :=
  match P.underlying t with
  | some (.array n e) => match P.info? e with
    | some i => some (n, i.size)
    | none => none
  | _ => none
theorem arrInfo_run {t n sz i b off : Nat} {k : IntKind} (h : arrInfo P t = some (n, sz)) (hi : i < n) (w : World) :
    (Instr.indexAt t (.pointer (some ⟨b, off, none⟩)) (.int k i)).run P w = .ok (.pointer (some ⟨b, off + i * sz, none⟩)) w := by
  unfold arrInfo at h
  split at h
  · rename_i n' e hu
    split at h
    · rename_i inf hinf
      simp only [Option.some.injEq, Prod.mk.injEq] at h
      obtain ⟨rfl, rfl⟩ := h
      have h1 : (0 : Int) ≤ (i : Int) ∧ (i : Int) < (n' : Int) := by omega
      simp only [Instr.indexAt, asIntOf, underlying, program, Sem.bind, bind, pure, Sem.run, hu, Instr.sureAddr, sizeOf, typeInfo, hinf, h1, and_self, if_true]
      simp [Sem.run, add_none, Sem.bind]
    · cases h
  · cases h


/-! ### struct and array literals -/
def A1.cells : A1 → List Cell
  | .c x => [x]
  | .agg cs => cs
def plainCell : Cell → Bool
  | .v (.agg _) => false
  | .sym _ => false
  | _ => true
/-- the value of a variable is of one cell, or an aggregate -/
def plain1 : A1 → Bool
  | .c x => plainCell x
  | .agg _ => true
theorem A1.cells_den {x : A1} (h : plain1 x = true) (ρ : Env) : (x.den ρ).cells = (x.cells.map (Cell.den ρ)).toArray := by
  cases x with
  | c y =>
    cases y with
    | v u => cases u <;> first | rfl | cases h
    | loc j off => rfl
    | sym j => cases h
  | agg cs => rfl

def setCells : List Cell → Nat → List Cell → List Cell
  | cs, _, [] => cs
  | cs, off, x :: r => setCells (cs.set off x) (off + 1) r
def zeroCells (P : Program) (t : TypeId) : Option (List Value) :=
  match P.info? t with
  | some i => match i.zero with
    | some (.agg cs) => some cs.toList
    | some v => some [v]
    | none => none
  | none => none
theorem zeroCells_run {t : TypeId} {l : List Value} (h : zeroCells P t = some l) (w : World) : ∃ v, (zeroValue t).run P w = .ok v w ∧ v.cells = l.toArray := by
  unfold zeroCells at h
  split at h
  · rename_i i hi
    split at h
    · rename_i cs hz
      cases h
      exact ⟨.agg cs, by simp [zeroValue, typeInfo, program, Sem.bind, Sem.run, hi, hz, bind, pure], by simp [Value.cells]⟩
    · rename_i v hne hz
      cases h
      refine ⟨v, by simp [zeroValue, typeInfo, program, Sem.bind, Sem.run, hi, hz, bind, pure], ?_⟩
      cases v <;> first | rfl | exact absurd rfl (hne _)
    · cases h
  · cases h

def setV : List Value → Nat → List Value → List Value
  | cs, _, [] => cs
  | cs, off, x :: r => setV (cs.set off x) (off + 1) r
theorem setCells_den (ρ : Env) : ∀ (xs cs : List Cell) (off : Nat), (setCells cs off xs).map (Cell.den ρ) = setV (cs.map (Cell.den ρ)) off (xs.map (Cell.den ρ))
  | [], _, _ => rfl
  | x :: r, cs, off => by simp only [setCells, List.map_cons, setV]; rw [setCells_den ρ r, List.map_set]
theorem zip_setV : ∀ (xs : List Value) (k off : Nat) (cs : Array Value), ((xs.zipIdx k).foldl (fun cs (p : Value × Nat) => cs.setIfInBounds (off + p.2) p.1) cs).toList = setV cs.toList (off + k) xs
  | [], _, _, _ => rfl
  | x :: r, k, off, cs => by
    simp only [List.zipIdx_cons, List.foldl_cons, setV]
    rw [zip_setV r (k + 1) off]
    simp [Nat.add_assoc]
theorem fill_set (v : Value) (off : Nat) (cs : Array Value) : (v.cells.zipIdx.foldl (fun cs (c, j) => cs.setIfInBounds (off + j) c) cs) = (setV cs.toList off v.cells.toList).toArray := by
  apply Array.ext'
  have h := zip_setV v.cells.toList 0 off cs
  rw [Nat.add_zero] at h
  rw [← Array.foldl_toList, Array.toList_zipIdx]
  exact h

/-- where the i-th part lies, and its size -/
def placesOf (P : Program) : List Field → Option (List (Nat × Nat))
  | [] => some []
  | f :: r => match P.info? f.type with
    | some i => match placesOf P r with
      | some l => some ((f.offset, i.size) :: l)
      | none => none
    | none => none
theorem placesOf_run : ∀ (fs : List Field) (l : List (Nat × Nat)), placesOf P fs = some l → ∀ w, (List.mapM (fun f => (do pure (f.offset, ← sizeOf f.type) : Sem (Nat × Nat))) fs).run P w = .ok l w
  | [], l, h, w => by simp [placesOf] at h; subst h; rfl
  | f :: r, l, h, w => by
    simp only [placesOf] at h
    split at h
    · rename_i i hi
      split at h
      · rename_i l' hl'
        cases h
        have h1 : (do pure (f.offset, ← sizeOf f.type) : Sem (Nat × Nat)).run P w = .ok (f.offset, i.size) w := by
          simp [sizeOf, typeInfo, program, Sem.run, hi]
        rw [List.mapM_cons, run_bind_ok h1, run_bind_ok (placesOf_run r l' hl' w)]
        rfl
      · cases h
    · cases h

def place (P : Program) (t : TypeId) : Option (Nat → Option (Nat × Nat)) :=
  match P.underlying t with
  | some (.struct fs) => match placesOf P fs.toList with
    | some l => some (fun i => l[i]?)
    | none => none
  | some (.array _ e) => match P.info? e with
    | some i => some (fun k => some (k * i.size, i.size))
    | none => none
  | _ => none
def fillA (pl : Nat → Option (Nat × Nat)) (cs : List Cell) : List (Nat × A1) → Option (List Cell)
  | [] => some cs
  | (i, x) :: r => match pl i with
    | some (off, size) => match plain1 x with
      | true => match Nat.beq x.cells.length size with
        | true => match Nat.ble (off + size) cs.length with
          | true => fillA pl (setCells cs off x.cells) r
          | false => none
        | false => none
      | false => none
    | none => none
def buildA (P : Program) (t : TypeId) (ps : List (Nat × A1)) : Option A1 :=
  match zeroCells P t with
  | some z => match place P t with
    | some pl => match fillA pl (z.map .v) ps with
      | some cs => some (.agg cs)
      | none => none
    | none => none
  | none => none
theorem setCells_length (cs : List Cell) (off : Nat) (xs : List Cell) : (setCells cs off xs).length = cs.length := by
  induction xs generalizing cs off with
  | nil => rfl
  | cons x r ih => simp [setCells, ih]
theorem fillA_run {ρ : Env} {pl : Nat → Option (Nat × Nat)} : ∀ (ps : List (Nat × A1)) (cs cs' : List Cell), fillA pl cs ps = some cs' →
    Instr.fill pl (cs.map (Cell.den ρ)).toArray (ps.map fun p => (p.1, p.2.den ρ)) = some (cs'.map (Cell.den ρ)).toArray
  | [], cs, cs', h => by simp [fillA] at h; subst h; rfl
  | (i, x) :: r, cs, cs', h => by
    simp only [fillA] at h
    split at h
    · rename_i off size hp
      split at h
      · rename_i hpl
        split at h
        · rename_i hl
          split at h
          · rename_i hle
            have hl' : x.cells.length = size := Nat.eq_of_beq_eq_true hl
            have hle' := Nat.le_of_ble_eq_true hle
            have hc := A1.cells_den hpl ρ
            simp only [List.map_cons, Instr.fill, hp]
            rw [if_neg (by rw [hc]; simp [hl']; omega), fill_set, hc]
            have := fillA_run (ρ := ρ) r (setCells cs off x.cells) cs' h
            rw [setCells_den] at this
            simpa using this
          · cases h
        · cases h
      · cases h
    · cases h
theorem buildA_run {ρ : Env} {t : TypeId} {ps : List (Nat × A1)} {x : A1} (h : buildA P t ps = some x) (w : World) :
    (Instr.build t (ps.map fun p => (p.1, p.2.den ρ)).toArray).run P w = .ok (x.den ρ) w := by
  unfold buildA at h
  split at h
  · rename_i z hz
    split at h
    · rename_i pl hpl
      split at h
      · rename_i cs hcs
        cases h
        obtain ⟨zv, hzv, hzc⟩ := zeroCells_run hz w
        have hf := fillA_run (ρ := ρ) ps _ _ hcs
        have e0 : ((z.map Cell.v).map (Cell.den ρ)).toArray = z.toArray := by simp [List.map_map, Function.comp_def, Cell.den]
        rw [e0] at hf
        unfold Instr.build
        rw [run_bind_ok hzv]
        unfold place at hpl
        split at hpl
        · rename_i fs hu
          split at hpl
          · rename_i l hl
            cases hpl
            have hun : (underlying t).run P w = .ok (.struct fs) w := by simp [underlying, program, Sem.run, hu]
            rw [run_bind_ok hun]
            simp only
            have hm : (fs.mapM fun f => (do pure (f.offset, ← sizeOf f.type) : Sem (Nat × Nat))).run P w = .ok l.toArray w := by
              rw [← Array.toArray_toList (xs := fs), List.mapM_toArray, Sem.run_map]
              have := placesOf_run fs.toList l hl w
              rw [this]; rfl
            rw [run_bind_ok hm]
            have e1 : (fun i : Nat => l.toArray[i]?) = (fun i : Nat => l[i]?) := by funext i; simp
            simp only [e1, hzc, hf]
            rfl
          · cases hpl
        · rename_i n e hu
          split at hpl
          · rename_i i hi
            cases hpl
            have hun : (underlying t).run P w = .ok (.array n e) w := by simp [underlying, program, Sem.run, hu]
            have hsz : (sizeOf e).run P w = .ok i.size w := by simp [sizeOf, typeInfo, program, Sem.run, hi]
            rw [run_bind_ok hun]
            simp only
            rw [run_bind_ok hsz]
            simp only [hzc, hf]
            rfl
          · cases hpl
        · cases hpl
      · cases h
    · cases h
  · cases h

/-- the value of a quiet operation -/
def evQ (P : Program) (F : FS) (ty : TypeId) : Op → Option A1
  | .move x => rd F x
  | .assign x => rd F x
  | .binOp op t x y _ => match rdV F x with
    | some vx => match rdV F y with
      | some vy => match runPure P (eqGuard op t x y vx vy >>= fun _ => binOp op t vx vy) with
        | some v => some (ofV v)
        | none => none
      | none => none
    | none => none
  | .unOp op _ x => match rdV F x with
    | some vx => match runPure P (Op.unary op vx) with
      | some v => some (ofV v)
      | none => none
    | none => none
  | .convert s d x => match rdV F x with
    | some vx => match runPure P (convert s d vx) with
      | some v => some (ofV v)
      | none => none
    | none => none
  | .field t x f => match rdV F x with
    | some vx => match runPure P (Instr.field t vx f) with
      | some v => some (ofV v)
      | none => none
    | none => none
  | .index t x i => match rdV F x with
    | some vx => match rdV F i with
      | some vi => match runPure P (Instr.index t vx vi) with
        | some v => some (ofV v)
        | none => none
      | none => none
    | none => none
  | .build t parts => match rdParts F parts.toList with
    | some ps => buildA P t ps
    | none => none
  | .extract t i => match opnd F t with
    | some (.tup xs) => xs[i]?
    | _ => none
  | .fieldAddr t x f => match rd F x with
    | some (.c (.loc j off)) => match fieldOff P t f with
      | some o => some (.c (.loc j (off + o)))
      | none => none
    | _ => none
  | .load t x => match rd F x with
    | some (.c (.loc j off)) => match F.bl j with
      | some (.blk cs _) => loadA P t cs off
      | _ => none
    | _ => none
  | .nilCheck x => match rd F x with
    | some (.c (.loc j off)) => some (.c (.loc j off))
    | _ => none
  | .indexAddr t x i => match rd F x with
    | some (.c (.loc j off)) => match rdV F i with
      | some (.int _ (.ofNat k)) => match arrInfo P t with
        | some (n, sz) => match Nat.blt k n with
          | true => some (.c (.loc j (off + k * sz)))
          | false => none
        | none => none
      | _ => none
    | _ => none
  | .call { callee := .builtin b, args, argTypes } => match rdVs F args.toList with
    | some vs => match runPure P (builtin b argTypes ty (args.map fun | .const _ => true | _ => false) vs.toArray) with
      | some (.value v) => some (ofV v)
      | _ => none
    | none => none
  | _ => none

theorem bind_value {x : Sem Value} {v : Value} {w w' : World} (h : x.run P w = .ok v w') : (do let y ← x; pure (Next.value y) : Sem Next).run P w = .ok (.value v) w' := by
  rw [run_bind_ok h]; rfl

theorem evQ_run {ρ : Env} {M : Mem} {a : Act} {w : World} {o : Oper} {x : A1} (hr : Rel0 C F ρ M a w) (hR : Reads F a ρ o.op.operands.toList) (h : evQ P F o.type o.op = some x) :
    (execOp a.eval o).run P w = .ok (.value (x.den ρ)) w := by
  have fin : ∀ {s : Sem Value} {v : Value}, runPure P s = some v → x = ofV v → (do let y ← s; pure (Next.value y) : Sem Next).run P w = .ok (.value (x.den ρ)) w := by
    intro s v h1 h2
    rw [bind_value (runPure_run h1 w), h2, ofV_den]
  unfold evQ at h
  split at h
  · -- move
    rename_i x' ho
    unfold execOp; simp only [ho]
    rw [hR x' (by simp [ho, Op.operands]) _ h]; rfl
  · rename_i x' ho
    unfold execOp; simp only [ho]
    rw [hR x' (by simp [ho, Op.operands]) _ h]; rfl
  · rename_i op t x1 y1 yt ho
    split at h
    · rename_i vx hvx
      split at h
      · rename_i vy hvy
        split at h
        · rename_i v hv
          cases h
          unfold execOp; simp only [ho]
          rw [rdV_eval hR (by simp [ho, Op.operands]) hvx, rdV_eval hR (by simp [ho, Op.operands]) hvy]
          exact fin hv rfl
        · cases h
      · cases h
    · cases h
  · rename_i op t x1 ho
    split at h
    · rename_i vx hvx
      split at h
      · rename_i v hv
        cases h
        unfold execOp; simp only [ho]
        rw [rdV_eval hR (by simp [ho, Op.operands]) hvx]
        exact fin hv rfl
      · cases h
    · cases h
  · rename_i s d x1 ho
    split at h
    · rename_i vx hvx
      split at h
      · rename_i v hv
        cases h
        unfold execOp; simp only [ho]
        rw [rdV_eval hR (by simp [ho, Op.operands]) hvx]
        exact fin hv rfl
      · cases h
    · cases h
  · rename_i t x1 f ho
    split at h
    · rename_i vx hvx
      split at h
      · rename_i v hv
        cases h
        unfold execOp; simp only [ho]
        rw [rdV_eval hR (by simp [ho, Op.operands]) hvx]
        exact fin hv rfl
      · cases h
    · cases h
  · rename_i t x1 i1 ho
    split at h
    · rename_i vx hvx
      split at h
      · rename_i vi hvi
        split at h
        · rename_i v hv
          cases h
          unfold execOp; simp only [ho]
          rw [rdV_eval hR (by simp [ho, Op.operands]) hvx, rdV_eval hR (by simp [ho, Op.operands]) hvi]
          exact fin hv rfl
        · cases h
      · cases h
    · cases h
  · rename_i t parts ho
    split at h
    · rename_i ps hps
      unfold execOp; simp only [ho]
      have e1 : parts.map (fun x => (x.fst, a.eval x.snd)) = (ps.map fun p => (p.1, p.2.den ρ)).toArray := by
        rw [← rdParts_eval (fun z hz => hR z (by simpa [ho, Op.operands] using hz)) hps]
        apply Array.ext'; simp
      show (do let y ← Instr.build t (parts.map fun (x : Nat × Operand) => (x.fst, a.eval x.snd)); pure (Next.value y) : Sem Next).run P w = _
      rw [e1]
      exact bind_value (buildA_run h w)
    · cases h
  · rename_i t i ho
    split at h
    · rename_i xs hxs
      unfold execOp; simp only [ho]
      have e1 := opnd_den hr hxs
      rw [e1]
      simp only [AV.den, Instr.extract]
      have e2 : (xs.map (A1.den ρ)).toArray[i]? = some (x.den ρ) := by simp [h]
      rw [e2]
      rfl
    · cases h
  · rename_i t x1 f ho
    split at h
    · rename_i j off hx
      split at h
      · rename_i o' ho'
        cases h
        unfold execOp; simp only [ho]
        rw [hR x1 (by simp [ho, Op.operands]) _ hx]
        exact bind_value (fieldOff_run ho' _ _ w)
      · cases h
    · cases h
  · rename_i t x1 ho
    split at h
    · rename_i j off hx
      split at h
      · rename_i cs ty' hb
        unfold execOp; simp only [ho]
        rw [hR x1 (by simp [ho, Op.operands]) _ hx]
        refine bind_value ?_
        show (loadVar t ⟨blockOf (ρ j), off, none⟩).run P w = _
        exact loadA_run (hr.heap.objs _ _ _ hb) h
      · cases h
    · cases h
  · rename_i x1 ho
    split at h
    · rename_i j off hx
      cases h
      unfold execOp; simp only [ho]
      rw [hR x1 (by simp [ho, Op.operands]) _ hx]
      rfl
    · cases h
  · rename_i t x1 i1 ho
    split at h
    · rename_i j off hx
      split at h
      · rename_i ik k hi
        split at h
        · rename_i n sz hti
          split at h
          · rename_i hlt
            cases h
            unfold execOp; simp only [ho]
            rw [hR x1 (by simp [ho, Op.operands]) _ hx, rdV_eval hR (by simp [ho, Op.operands]) hi]
            exact bind_value (arrInfo_run hti (Nat.blt_eq.mp hlt) w)
          · cases h
        · cases h
      · cases h
    · cases h
  · rename_i b args argTypes ho
    split at h
    · rename_i vs hvs
      split at h
      · rename_i v hv
        cases h
        unfold execOp; simp only [ho]
        have e1 : args.map a.eval = vs.toArray := by
          rw [← rdVs_eval (fun z hz => hR z (by simpa [ho, Op.operands, Call.operands] using hz)) hvs]; apply Array.ext'; simp
        simp only [resolve, e1, pure_bind, invoke]
        rw [ofV_den]
        exact runPure_run hv w
      · cases h
    · cases h
  · cases h

/-! ### what an operation reads -/
def slotsOf : List Operand → List Nat
  | [] => []
  | .tmp t :: r => t :: slotsOf r
  | _ :: r => slotsOf r
def ldBlk (F : FS) : Op → List Nat
  | .load _ x => match rd F x with
    | some (.c (.loc j _)) => [j]
    | _ => []
  | _ => []
def Same (F' F : FS) (rs rb : List Nat) : Prop := (∀ t ∈ rs, F'.sl t = F.sl t) ∧ (∀ j ∈ rb, F'.bl j = F.bl j)
theorem opnd_same {F' : FS} : ∀ {xs : List Operand}, (∀ t ∈ slotsOf xs, F'.sl t = F.sl t) → ∀ x ∈ xs, opnd F' x = opnd F x
  | [], _, x, hx => by cases hx
  | y :: r, h, x, hx => by
    cases hx with
    | head => cases y with
      | tmp t => exact h t (by simp [slotsOf])
      | _ => rfl
    | tail _ hm => exact opnd_same (fun t ht => h t (by cases y <;> simp [slotsOf, ht])) x hm
theorem rd_same {F' : FS} {x : Operand} (h : opnd F' x = opnd F x) : rd F' x = rd F x := by unfold rd; rw [h]
theorem rdV_same {F' : FS} {x : Operand} (h : opnd F' x = opnd F x) : rdV F' x = rdV F x := by unfold rdV; rw [rd_same h]
theorem rdVs_same {F' : FS} {xs : List Operand} (h : ∀ x ∈ xs, opnd F' x = opnd F x) : rdVs F' xs = rdVs F xs := by
  induction xs with
  | nil => rfl
  | cons x r ih => simp only [rdVs, rdV_same (h x (by simp)), ih (fun z hz => h z (by simp [hz]))]
theorem rdParts_same {F' : FS} {ps : List (Nat × Operand)} (h : ∀ x ∈ ps.map (·.2), opnd F' x = opnd F x) : rdParts F' ps = rdParts F ps := by
  induction ps with
  | nil => rfl
  | cons p r ih =>
    obtain ⟨i, x⟩ := p
    simp only [rdParts, rd_same (h x (by simp)), ih (fun z hz => h z (by simp at hz ⊢; exact .inr hz))]
theorem sideOk_same {F' : FS} {g : Bool} {xs : List Operand} (h : ∀ x ∈ xs, opnd F' x = opnd F x) (hs : sideOk F g xs) : sideOk F' g xs := by
  induction xs with
  | nil => trivial
  | cons x r ih =>
    unfold sideOk at hs ⊢
    rw [h x (by simp)]
    split at hs
    · exact ⟨hs.1, ih (fun z hz => h z (by simp [hz])) hs.2⟩
    · exact ih (fun z hz => h z (by simp [hz])) hs
theorem evQ_same {F' : FS} {ty : TypeId} {op : Op} (h : ∀ x ∈ op.operands.toList, opnd F' x = opnd F x) (hb : ∀ j ∈ ldBlk F op, F'.bl j = F.bl j) : evQ P F' ty op = evQ P F ty op := by
  unfold evQ
  split
  · rename_i x; exact rd_same (h x (by simp [Op.operands]))
  · rename_i x; exact rd_same (h x (by simp [Op.operands]))
  · rename_i op t x y yt
    rw [rdV_same (h x (by simp [Op.operands])), rdV_same (h y (by simp [Op.operands]))]
  · rename_i op t x
    rw [rdV_same (h x (by simp [Op.operands]))]
  · rename_i s d x
    rw [rdV_same (h x (by simp [Op.operands]))]
  · rename_i t x f
    rw [rdV_same (h x (by simp [Op.operands]))]
  · rename_i t x i
    rw [rdV_same (h x (by simp [Op.operands])), rdV_same (h i (by simp [Op.operands]))]
  · rename_i t parts
    rw [rdParts_same (fun z hz => h z (by simpa [Op.operands] using hz))]
  · rename_i t i
    rw [h t (by simp [Op.operands])]
  · rename_i t x f
    rw [rd_same (h x (by simp [Op.operands]))]
  · rename_i t x
    rw [rd_same (h x (by simp [Op.operands]))]
    split
    · rename_i j off hj
      rw [hb j (by simp [ldBlk, hj])]
    · rfl
  · rename_i x
    rw [rd_same (h x (by simp [Op.operands]))]
  · rename_i t x i
    rw [rd_same (h x (by simp [Op.operands])), rdV_same (h i (by simp [Op.operands]))]
  · rename_i b args argTypes
    rw [rdVs_same (fun z hz => h z (by simpa [Op.operands, Call.operands] using hz))]
  · rfl
end Go.Ev

/-
  '==' between two structs of numbers, bools and strings.
-/
import Derived.Test.YtilglbkpapbkpaaEvf
import Derived.Laws.StructEq
namespace Go.Ev
variable {P : Program} {C : Ctx} {F : FS} {ops : Array Oper} {dst : Nat} {ty : TypeId} {pos : String} {after : Array Edge}

def isFlat : TypeDesc → Bool
  | .struct _ => false
  | .array _ _ => false
  | _ => true
def eqCell (P : Program) (t : TypeId) : Value → Value → Option Bool
  | .int k a, .int k' b => match P.underlying t with
    | some (.int _) => match decide (k = k') with
      | true => some (a == b)
      | false => none
    | _ => none
  | .bool a, .bool b => match P.underlying t with
    | some .bool => some (a == b)
    | _ => none
  | .string a, .string b => match P.underlying t with
    | some .string => some (a.toList == b.toList)
    | _ => none
  | _, _ => none
def eqRow (P : Program) (xs ys : List Value) : List Field → Option Bool
  | [] => some true
  | [f] => match xs[f.offset]? with
    | some x => match ys[f.offset]? with
      | some y => eqCell P f.type x y
      | none => none
    | none => none
  | f :: r => match xs[f.offset]? with
    | some x => match ys[f.offset]? with
      | some y => match eqCell P f.type x y with
        | some b => match eqRow P xs ys r with
          | some c => some (b && c)
          | none => none
        | none => none
      | none => none
    | none => none
def namesOk : List Field → Bool
  | [] => true
  | f :: r => !(f.name == "_") && namesOk r
/-- a struct type whose values '==' compares cell by cell -/
def EqOk (P : Program) (t : TypeId) : Prop := P.underlying t = some (.struct (P.fieldsOf t)) ∧ P.stoodInHeld t = false ∧ P.eqGuardType P.depth t = false ∧ namesOk (P.fieldsOf t).toList = true

theorem part_cell {t : TypeId} {xs : Array Value} {off : Nat} {v : Value} (hv : xs[off]? = some v) {d : TypeDesc} (hu : P.underlying t = some d) (ha : isFlat d = true) (w : World) : (part t xs off).run P w = .ok v w := by
  unfold part isAgg
  simp only [underlying, program, Sem.bind, bind, pure, Sem.run, hu]
  cases d <;> first | (cases ha; done) | simp [Sem.run, Sem.bind, hv]
theorem eqCell_run {t : TypeId} {x y : Value} {b : Bool} (h : eqCell P t x y = some b) : (∃ d, P.underlying t = some d ∧ isFlat d = true) ∧ ∀ d w, (Op.equalIn (d + 1) t x y).run P w = .ok b w := by
  unfold eqCell at h
  split at h
  · split at h
    · rename_i hu
      split at h
      · rename_i hk
        cases h
        have := of_decide_eq_true hk
        subst this
        exact ⟨⟨_, hu, rfl⟩, fun d w => run_equalIn_int w d t _ _ _ _ hu⟩
      · cases h
    · cases h
  · split at h
    · rename_i a b' hu
      cases h
      exact ⟨⟨_, hu, rfl⟩, fun d w => run_equalIn_bool' w d t _ _ hu⟩
    · cases h
  · split at h
    · rename_i a b' hu
      cases h
      exact ⟨⟨_, hu, rfl⟩, fun d w => run_equalIn_string w d t _ _ hu⟩
    · cases h
  · cases h

theorem eqRow_cons {xs ys : List Value} {f : Field} {r : List Field} {b : Bool} (h : eqRow P xs ys (f :: r) = some b) : ∃ x y c b', xs[f.offset]? = some x ∧ ys[f.offset]? = some y ∧ eqCell P f.type x y = some c ∧ eqRow P xs ys r = some b' ∧ b = (c && b') := by
  cases r with
  | nil =>
    simp only [eqRow] at h
    split at h
    · rename_i x hx
      split at h
      · rename_i y hy
        exact ⟨x, y, b, true, hx, hy, h, rfl, by simp⟩
      · cases h
    · cases h
  | cons f2 r =>
    simp only [eqRow] at h
    split at h
    · rename_i x hx
      split at h
      · rename_i y hy
        split at h
        · rename_i c hc
          split at h
          · rename_i b' hb'
            cases h
            exact ⟨x, y, c, b', hx, hy, hc, hb', rfl⟩
          · cases h
        · cases h
      · cases h
    · cases h

theorem eqRow_run {xs ys : List Value} (d : Nat) : ∀ (fs : List Field) (b : Bool), namesOk fs = true → eqRow P xs ys fs = some b → ∀ w, (Op.eqFields (d + 1) xs.toArray ys.toArray fs).run P w = .ok b w
  | [], b, _, h, w => by simp [eqRow] at h; subst h; rfl
  | f :: r, b, hn, h, w => by
    obtain ⟨x, y, c, b', hx, hy, hc, hr, rfl⟩ := eqRow_cons h
    simp only [namesOk, Bool.and_eq_true, Bool.not_eq_true', beq_eq_false_iff_ne] at hn
    obtain ⟨⟨dd, hu, ha⟩, he⟩ := eqCell_run hc
    unfold Op.eqFields
    rw [if_pos hn.1, run_bind_ok (part_cell (by simpa using hx) hu ha w), run_bind_ok (part_cell (by simpa using hy) hu ha w), run_bind_ok (he d w)]
    cases c with
    | true => simp only [Bool.not_true, Bool.false_eq_true, if_false, Bool.true_and]; exact eqRow_run d r b' hn.2 hr w
    | false => rfl

theorem eqS_run {t : TypeId} {x y : Operand} {xs ys : List Value} {b : Bool} (ht : EqOk P t) (he : eqRow P xs ys (P.fieldsOf t).toList = some b) (w : World) :
    (eqGuard .eql t x y (.agg xs.toArray) (.agg ys.toArray) >>= fun _ => binOp .eql t (.agg xs.toArray) (.agg ys.toArray)).run P w = .ok (.bool b) w := by
  obtain ⟨h1, h2, h3, h4⟩ := ht
  rw [run_bind_ok (run_eqGuard_agg w .eql t x y _ _ h3), run_eql_struct, run_equalIn_struct w 9999 t _ _ h1 h2, eqRow_run 9998 _ b h4 he w]
  rfl
theorem neS_run {t : TypeId} {x y : Operand} {xs ys : List Value} {b : Bool} (ht : EqOk P t) (he : eqRow P xs ys (P.fieldsOf t).toList = some b) (w : World) :
    (eqGuard .neq t x y (.agg xs.toArray) (.agg ys.toArray) >>= fun _ => binOp .neq t (.agg xs.toArray) (.agg ys.toArray)).run P w = .ok (.bool (!b)) w := by
  obtain ⟨h1, h2, h3, h4⟩ := ht
  rw [run_bind_ok (run_eqGuard_agg w .neq t x y _ _ h3), run_neq_struct, run_equalIn_struct w 9999 t _ _ h1 h2, eqRow_run 9998 _ b h4 he w]
  rfl

def rdCs (F : FS) (x : Operand) : Option (List Value) :=
  match rd F x with
  | some (.agg cs) => cellVals cs
  | _ => none
theorem rdCs_eval {ρ : Env} {a : Act} {xs : List Operand} (h : Reads F a ρ xs) {x : Operand} (hx : x ∈ xs) {l : List Value} (hv : rdCs F x = some l) : a.eval x = .agg l.toArray := by
  unfold rdCs at hv
  split at hv
  · rename_i cs hcs
    rw [h x hx _ hcs, A1.den, cellVals_den hv]
  · cases hv
theorem rdCs_same {F' : FS} {x : Operand} (h : opnd F' x = opnd F x) : rdCs F' x = rdCs F x := by unfold rdCs; rw [rd_same h]

theorem triEqS {t t' : TypeId} {x y : Operand} {xs ys : List Value} {b : Bool} (hx : rdCs F x = some xs) (hy : rdCs F y = some ys) (ht : EqOk P t) (he : eqRow P xs ys (P.fieldsOf t).toList = some b) (hs : sideOk F true [x, y]) (hn : Nat.blt dst C.n = true) :
    TriL P C ops ⟨some dst, .binOp .eql t x y t', ty, pos, after, none⟩ ⟨slotsOf [x, y], [], [dst], []⟩ [(dst, .s (.c (.v (.bool b))))] [] F := by
  refine ⟨⟨rfl, rfl⟩, fun F' hS => ?_⟩
  have h1 := opnd_same hS.1
  refine Tri.quiet (x := .c (.v (.bool b))) rfl rfl hn (fun ρ M a' w hr _ => ?_)
  have hR := reads_of hr rfl (sideOk_same h1 hs)
  unfold execOp
  simp only
  rw [rdCs_eval hR (by simp) ((rdCs_same (h1 x (by simp))).trans hx), rdCs_eval hR (by simp) ((rdCs_same (h1 y (by simp))).trans hy)]
  exact bind_value (eqS_run ht he w)
theorem triEqSG {t t' : TypeId} {x y : Operand} {xs ys : List Value} {b : Bool} {k : Nat} {want g : Bool} (hb : guardB F ops k want = some g) (hx : rdCs F x = some xs) (hy : rdCs F y = some ys) (ht : EqOk P t) (he : eqRow P xs ys (P.fieldsOf t).toList = some b) (hs : sideOk F g [x, y]) (hn : Nat.blt dst C.n = true) :
    TriL P C ops ⟨some dst, .binOp .eql t x y t', ty, pos, after, some (k, want)⟩ ⟨gSlot ops k ++ slotsOf [x, y], [], [dst], []⟩ [(dst, .gd g (.c (.v (.bool b))))] [] F := by
  refine ⟨⟨rfl, rfl⟩, fun F' hS => ?_⟩
  have h1 := opnd_same (F := F) (F' := F') (xs := [x, y]) (fun t ht => hS.1 t (by simp [ht]))
  refine Tri.quietG (x := .c (.v (.bool b))) rfl ((guardB_same (fun t ht => hS.1 t (by simp [ht]))).trans hb) rfl hn (fun ρ M a' w hr hg => ?_)
  have hR := reads_of hr hg (sideOk_same h1 hs)
  unfold execOp
  simp only
  rw [rdCs_eval hR (by simp) ((rdCs_same (h1 x (by simp))).trans hx), rdCs_eval hR (by simp) ((rdCs_same (h1 y (by simp))).trans hy)]
  exact bind_value (eqS_run ht he w)
theorem triNeS {t t' : TypeId} {x y : Operand} {xs ys : List Value} {b : Bool} (hx : rdCs F x = some xs) (hy : rdCs F y = some ys) (ht : EqOk P t) (he : eqRow P xs ys (P.fieldsOf t).toList = some b) (hs : sideOk F true [x, y]) (hn : Nat.blt dst C.n = true) :
    TriL P C ops ⟨some dst, .binOp .neq t x y t', ty, pos, after, none⟩ ⟨slotsOf [x, y], [], [dst], []⟩ [(dst, .s (.c (.v (.bool (!b)))))] [] F := by
  refine ⟨⟨rfl, rfl⟩, fun F' hS => ?_⟩
  have h1 := opnd_same hS.1
  refine Tri.quiet (x := .c (.v (.bool (!b)))) rfl rfl hn (fun ρ M a' w hr _ => ?_)
  have hR := reads_of hr rfl (sideOk_same h1 hs)
  unfold execOp
  simp only
  rw [rdCs_eval hR (by simp) ((rdCs_same (h1 x (by simp))).trans hx), rdCs_eval hR (by simp) ((rdCs_same (h1 y (by simp))).trans hy)]
  exact bind_value (neS_run ht he w)
/-- a value is handed on, whatever it is -/
theorem triMv {x : Operand} {v : AV} (hx : opnd F x = some v) (hn : Nat.blt dst C.n = true) :
    TriL P C ops ⟨some dst, .move x, ty, pos, after, none⟩ ⟨slotsOf [x], [], [dst], []⟩ [(dst, v)] [] F := by
  refine ⟨⟨rfl, rfl⟩, fun F' hS => ?_⟩
  have h1 := opnd_same hS.1
  have hx' := (h1 x (by simp)).trans hx
  intro Q' K' hK ρ M a w hr
  rw [if_pos (wanted_none rfl)]
  refine .inl ?_
  unfold Oper.wp
  show K' (a.put (some dst) (a.eval x)) w
  refine hK ρ M _ _ fun ρ' ha => ?_
  have h0 := hr ρ' (fun j hj => ha j (by rw [FS.upd, over_nil]; exact hj))
  exact h0.put (Nat.blt_eq.mp hn) (opnd_den h0 hx') (by rw [over_nil]; exact h0.heap)
end Go.Ev

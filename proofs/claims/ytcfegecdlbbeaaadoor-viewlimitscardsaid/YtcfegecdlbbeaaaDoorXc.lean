/-
  Operations as steps with what they read and write: quiet ones, new blocks, stores, slices.
-/
import Derived.Test.YtcfegecdlbbeaaaDoorXb
namespace Go.E2
variable {P : Program} {C : Ctx}

/-! ### rows of data, laid flat -/
def RepsD (M : Mem) : List D → List Value → Prop
  | [], [] => True
  | d :: ds, v :: vs => Rep M d v ∧ RepsD M ds vs
  | _, _ => False
theorem RepsD.len {M : Mem} : ∀ {ds : List D} {vs : List Value}, RepsD M ds vs → vs.length = ds.length
  | [], [], _ => rfl
  | _ :: _, _ :: _, h => by simp [RepsD.len h.2]
  | [], _ :: _, h => h.elim
  | _ :: _, [], h => h.elim
theorem RepsD.mono {M M' : Mem} (hm : M.le M') : ∀ {ds : List D} {vs : List Value}, RepsD M ds vs → RepsD M' ds vs
  | [], [], _ => trivial
  | _ :: _, _ :: _, h => ⟨h.1.mono hm, h.2.mono hm⟩
  | [], _ :: _, h => h.elim
  | _ :: _, [], h => h.elim
theorem RepsD.append {M : Mem} : ∀ {ds : List D} {vs : List Value} {es : List D} {us : List Value}, RepsD M ds vs → RepsD M es us → RepsD M (ds ++ es) (vs ++ us)
  | [], [], _, _, _, h => h
  | _ :: _, _ :: _, _, _, h, h' => ⟨h.1, RepsD.append h.2 h'⟩
  | [], _ :: _, _, _, h, _ => h.elim
  | _ :: _, [], _, _, h, _ => h.elim
theorem RepsD.get {M : Mem} : ∀ {ds : List D} {vs : List Value}, RepsD M ds vs → ∀ (i : Nat) d, ds[i]? = some d → ∃ v, vs[i]? = some v ∧ Rep M d v
  | [], [], _, i, d, h => by simp at h
  | x :: xs, v :: vs, hr, i, d, h => by
    cases i with
    | zero => simp at h; subst h; exact ⟨v, rfl, hr.1⟩
    | succ i => obtain ⟨u, h1, h2⟩ := RepsD.get hr.2 i d (by simpa using h); exact ⟨u, by simpa using h1, h2⟩
  | [], _ :: _, hr, _, _, _ => hr.elim
  | _ :: _, [], hr, _, _, _ => hr.elim
theorem RepsD.drop {M : Mem} : ∀ {ds : List D} {vs : List Value} (n : Nat), RepsD M ds vs → RepsD M (ds.drop n) (vs.drop n)
  | _, _, 0, h => h
  | [], [], _ + 1, _ => trivial
  | _ :: _, _ :: _, n + 1, hr => RepsD.drop n hr.2
  | [], _ :: _, _ + 1, hr => hr.elim
  | _ :: _, [], _ + 1, hr => hr.elim
theorem RepsD.take {M : Mem} : ∀ {ds : List D} {vs : List Value} (n : Nat), RepsD M ds vs → RepsD M (ds.take n) (vs.take n)
  | _, _, 0, _ => trivial
  | [], [], _ + 1, _ => trivial
  | _ :: _, _ :: _, n + 1, hr => ⟨hr.1, RepsD.take n hr.2⟩
  | [], _ :: _, _ + 1, hr => hr.elim
  | _ :: _, [], _ + 1, hr => hr.elim
def Rows (sz : Nat) (l : List (List D)) : Prop := ∀ row ∈ l, row.length = sz
theorem flatten_len {sz : Nat} : ∀ {l : List (List D)}, Rows sz l → l.flatten.length = l.length * sz
  | [], _ => by simp
  | x :: r, h => by
    have := flatten_len (l := r) (fun y hy => h y (by simp [hy]))
    simp [this, h x (by simp), Nat.succ_mul, Nat.add_comm]
theorem flatten_get {sz : Nat} : ∀ {l : List (List D)}, Rows sz l → ∀ (i j : Nat) row, l[i]? = some row → j < sz → l.flatten[i * sz + j]? = row[j]?
  | [], _, i, j, row, h, _ => by simp at h
  | x :: r, hr, i, j, row, h, hj => by
    have hx := hr x (by simp)
    cases i with
    | zero => simp at h; subst h; simp only [List.flatten_cons, Nat.zero_mul, Nat.zero_add]; rw [List.getElem?_append_left (by omega)]
    | succ i =>
      have := flatten_get (l := r) (fun y hy => hr y (by simp [hy])) i j row (by simpa using h) hj
      rw [List.flatten_cons, List.getElem?_append_right (by rw [hx, Nat.succ_mul]; omega), ← this]
      congr 1
      rw [hx, Nat.succ_mul]; omega
theorem flatten_drop {sz : Nat} : ∀ {l : List (List D)} (n : Nat), Rows sz l → (l.drop n).flatten = l.flatten.drop (n * sz)
  | _, 0, _ => by simp
  | [], _ + 1, _ => by simp
  | x :: r, n + 1, h => by
    have hx := h x (by simp)
    rw [List.drop_succ_cons, flatten_drop n (fun y hy => h y (by simp [hy])), List.flatten_cons, Nat.succ_mul, List.drop_append, List.drop_eq_nil_of_le (as := x) (by omega), List.nil_append]
    congr 1
    omega
theorem flatten_take {sz : Nat} : ∀ {l : List (List D)} (n : Nat), Rows sz l → (l.take n).flatten = l.flatten.take (n * sz)
  | _, 0, _ => by simp
  | [], _ + 1, _ => by simp
  | x :: r, n + 1, h => by
    have hx := h x (by simp)
    rw [List.take_succ_cons, List.flatten_cons, flatten_take n (fun y hy => h y (by simp [hy])), List.flatten_cons, Nat.succ_mul, List.take_append, List.take_of_length_le (l := x) (by omega)]
    congr 2
    omega
/-- a slice that is not empty, laid flat -/
theorem Rep.flat {M : Mem} {l : List (List D)} {v : Value} (h : Rep M (.sl l) v) (hne : l ≠ []) : ∃ b off cap sz vs, v = .slice (some ⟨b, off, none⟩) l.length cap ∧ l.length ≤ cap ∧ Rows sz l ∧ RepsD M l.flatten vs ∧ ∀ (k : Nat) u, vs[k]? = some u → M.cell b (off + k) = some u := by
  cases h with
  | nil => exact absurd rfl hne
  | @sl _ b off cap sz f hc hl hm he =>
    have hrows : Rows sz l := fun row hrow => by
      obtain ⟨i, hi, e⟩ := List.getElem_of_mem hrow
      exact hl i row (by rw [List.getElem?_eq_getElem hi, e])
    have key : ∀ (k : Nat) (l' : List (List D)), (∀ (i : Nat) row, l'[i]? = some row → l[k + i]? = some row) → ∃ vs, RepsD M l'.flatten vs ∧ ∀ (q : Nat) u, vs[q]? = some u → M.cell b (off + k * sz + q) = some u := by
      intro k l'
      induction l' generalizing k with
      | nil => intro _; exact ⟨[], trivial, fun q u hq => by simp at hq⟩
      | cons x r ih =>
        intro hl'
        have hx : l[k]? = some x := by simpa using hl' 0 x rfl
        obtain ⟨us, u1, u2⟩ := ih (k + 1) (fun i row hi => by
          have := hl' (i + 1) row (by simpa using hi)
          rw [show k + 1 + i = k + (i + 1) by omega]; exact this)
        have row : ∀ (m : Nat) (y : List D), (∀ (j : Nat) d, y[j]? = some d → x[m + j]? = some d) → ∃ vs, RepsD M y vs ∧ ∀ (q : Nat) u, vs[q]? = some u → M.cell b (off + k * sz + (m + q)) = some u := by
          intro m y
          induction y generalizing m with
          | nil => intro _; exact ⟨[], trivial, fun q u hq => by simp at hq⟩
          | cons d ds ihy =>
            intro hy
            have hd : x[m]? = some d := by simpa using hy 0 d rfl
            obtain ⟨vs, v1, v2⟩ := ihy (m + 1) (fun j d' hj => by
              have := hy (j + 1) d' (by simpa using hj)
              rw [show m + 1 + j = m + (j + 1) by omega]; exact this)
            refine ⟨f k m :: vs, ⟨he k x m d hx hd, v1⟩, fun q u hq => ?_⟩
            cases q with
            | zero => simp at hq; subst hq; have := hm k x m d hx hd; rw [Nat.add_zero]; exact this
            | succ q =>
              have := v2 q u (by simpa using hq)
              rw [show m + (q + 1) = m + 1 + q by omega]; exact this
        obtain ⟨vs, v1, v2⟩ := row 0 x (fun j d hj => by simpa using hj)
        refine ⟨vs ++ us, by rw [List.flatten_cons]; exact v1.append u1, fun q u hq => ?_⟩
        have hvl : vs.length = sz := by rw [v1.len]; exact hl k x hx
        rcases Nat.lt_or_ge q vs.length with hlt | hge
        · rw [List.getElem?_append_left hlt] at hq
          have := v2 q u hq
          simpa using this
        · rw [List.getElem?_append_right hge] at hq
          have := u2 _ u hq
          rw [hvl] at this hge
          rw [Nat.succ_mul] at this
          rw [show off + k * sz + q = off + (k * sz + sz) + (q - sz) by omega]; exact this
    obtain ⟨vs, h1, h2⟩ := key 0 l (fun i row hi => by simpa using hi)
    exact ⟨b, off, cap, sz, vs, rfl, hc, hrows, h1, fun k u hk => by simpa using h2 k u hk⟩
theorem Rep.ofFlat {M : Mem} {l : List (List D)} {b off cap sz : Nat} {vs : List Value} (hc : l.length ≤ cap) (hr : Rows sz l) (hv : RepsD M l.flatten vs) (hm : ∀ (k : Nat) u, vs[k]? = some u → M.cell b (off + k) = some u) :
    Rep M (.sl l) (.slice (some ⟨b, off, none⟩) l.length cap) := by
  have key : ∀ (i : Nat) row (j : Nat) d, l[i]? = some row → row[j]? = some d → ∃ u, vs[i * sz + j]? = some u ∧ Rep M d u := by
    intro i row j d hi hj
    have hrow : row.length = sz := hr row (List.mem_of_getElem? hi)
    have hjl : j < row.length := (List.getElem?_eq_some_iff.1 hj).1
    have := flatten_get hr i j row hi (by omega)
    exact hv.get _ d (by rw [this]; exact hj)
  refine .sl (sz := sz) (f := fun i j => (vs[i * sz + j]?).getD undef) hc (fun i row hi => hr row (List.mem_of_getElem? hi)) (fun i row j d hi hj => ?_) (fun i row j d hi hj => ?_)
  · obtain ⟨u, h1, h2⟩ := key i row j d hi hj
    rw [h1]
    rw [Nat.add_assoc]; exact hm _ _ h1
  · obtain ⟨u, h1, h2⟩ := key i row j d hi hj
    simp only [h1]
    exact h2
theorem Rep.sl_cases {M : Mem} {l : List (List D)} {v : Value} (h : Rep M (.sl l) v) : ∃ a cap, v = .slice a l.length cap := by
  cases h with
  | nil => exact ⟨_, _, rfl⟩
  | sl => exact ⟨_, _, rfl⟩

/-- memory that stays, with some cells more -/
def Mem.put (M : Mem) (b off : Nat) (vs : List Value) : Mem := ⟨fun b' o => if b' = b ∧ off ≤ o ∧ o < off + vs.length then vs[o - off]? else M.cell b' o, M.obj⟩
theorem Mem.put_le {M : Mem} {b off : Nat} {vs : List Value} (h : ∀ o, off ≤ o → M.cell b o = none) : M.le (M.put b off vs) := by
  refine ⟨fun b' o v hv => ?_, fun _ _ h => h⟩
  simp only [Mem.put]
  rw [if_neg]
  · exact hv
  · rintro ⟨rfl, h1, _⟩
    rw [h o h1] at hv; cases hv
theorem Mem.put_at {M : Mem} {b off k : Nat} {vs : List Value} {u : Value} (h : vs[k]? = some u) : (M.put b off vs).cell b (off + k) = some u := by
  have hk : k < vs.length := (List.getElem?_eq_some_iff.1 h).1
  simp only [Mem.put]
  rw [if_pos (by simp; omega), show off + k - off = k by omega]; exact h
theorem Mem.put_far {M : Mem} {b off b' o : Nat} {vs : List Value} (h : b' ≠ b) : (M.put b off vs).cell b' o = M.cell b' o := by
  simp only [Mem.put]; rw [if_neg (fun e => h e.1)]
theorem Mem.put_inv {M : Mem} {b off o : Nat} {vs : List Value} {v : Value} (h : (M.put b off vs).cell b o = some v) : (off ≤ o ∧ vs[o - off]? = some v) ∨ M.cell b o = some v := by
  simp only [Mem.put] at h
  split at h
  · rename_i hc; exact .inl ⟨hc.2.1, h⟩
  · exact .inr h

/-! ### steps -/
structure Sum where
  rs : List Nat
  rb : List Nat
  ws : List Nat
  wb : List Nat
/-- the operation, from every state that reads as F does where it looks -/
def TriL (P : Program) (C : Ctx) (ops : Array Oper) (o : Oper) (s : Sum) (Ws : List (Nat × AV)) (Wb : List (Nat × Ob)) (F : FS) : Prop :=
  (s.ws = Ws.map (·.1) ∧ s.wb = Wb.map (·.1)) ∧ ∀ F', Same F' F s.rs s.rb → Tri P C ops o F' (F'.upd Ws Wb)
theorem TriL.tri {ops : Array Oper} {o : Oper} {s : Sum} {Ws : List (Nat × AV)} {Wb : List (Nat × Ob)} {F : FS} (h : TriL P C ops o s Ws Wb F) : Tri P C ops o F (F.upd Ws Wb) :=
  h.2 F ⟨fun _ _ => rfl, fun _ _ => rfl⟩
section ops
variable {F : FS} {ops : Array Oper} {dst : Nat} {op : Op} {ty : TypeId} {pos : String} {after : Array Edge}

theorem Tri.quiet {o : Oper} {d : Nat} {x : A1} (hg : o.guard = none) (hd : o.dst = some d) (hn : Nat.blt d C.n = true) (hq : ∀ ρ M a w, Rel0 C F ρ M a w → ∃ u, (execOp a.eval o).run P w = .ok (.value u) w ∧ x.rep ρ M u) : Tri P C ops o F (F.upd [(d, .s x)] []) := by
  refine Tri.val [] hg hd hn (fun _ h => by cases h) (fun k hk => by rw [over_nil]; exact hk) (fun _ h => by cases h) (fun ρ M a w hr => ?_)
  obtain ⟨u, h1, _⟩ := hq ρ M a w hr
  refine ⟨u, w, M, fun _ => undef, h1, Mem.le_refl _, fun ρ' h0 _ => ?_⟩
  obtain ⟨u', h1', h2'⟩ := hq ρ' M a w h0
  have e : u = u' := by have := h1.symm.trans h1'; simpa using this
  subst e
  exact ⟨h2', by rw [over_nil]; exact h0.heap⟩
theorem Tri.quietG {o : Oper} {d k : Nat} {want g : Bool} {x : A1} (hg : o.guard = some (k, want)) (hb : guardB F ops k want = some g) (hd : o.dst = some d) (hn : Nat.blt d C.n = true) (hq : g = true → ∀ ρ M a w, Rel0 C F ρ M a w → ∃ u, (execOp a.eval o).run P w = .ok (.value u) w ∧ x.rep ρ M u) : Tri P C ops o F (F.upd [(d, .gd g x)] []) := by
  refine Tri.valG hg hb hd hn (fun hgt ρ M a w hr => ?_)
  obtain ⟨u, h1, _⟩ := hq hgt ρ M a w hr
  refine ⟨u, w, M, h1, Mem.le_refl _, fun ρ' h0 => ?_⟩
  obtain ⟨u', h1', h2'⟩ := hq hgt ρ' M a w h0
  have e : u = u' := by have := h1.symm.trans h1'; simpa using this
  subst e
  exact ⟨h2', h0.heap⟩

theorem triQ {x : A1} (he : evQ P F ty op = some x) (hs : sideOk F true op.operands.toList) (hn : Nat.blt dst C.n = true) :
    TriL P C ops ⟨some dst, op, ty, pos, after, none⟩ ⟨slotsOf op.operands.toList, ldBlk F op, [dst], []⟩ [(dst, .s x)] [] F := by
  refine ⟨⟨rfl, rfl⟩, fun F' hS => ?_⟩
  have h1 := opnd_same hS.1
  refine Tri.quiet rfl rfl hn (fun ρ M a w hr => evQ_run hr (reads_of hr rfl (sideOk_same h1 hs)) ?_)
  exact (evQ_same h1 hS.2).trans he
def gSlot (ops : Array Oper) (k : Nat) : List Nat :=
  match (ops[k]?).bind (·.dst) with
  | some t => [t]
  | none => []
theorem guardB_same {F' : FS} {k : Nat} {want : Bool} (h : ∀ t ∈ gSlot ops k, F'.sl t = F.sl t) : guardB F' ops k want = guardB F ops k want := by
  unfold guardB
  unfold gSlot at h
  cases hk : (ops[k]?).bind (·.dst) with
  | none => rfl
  | some t =>
    rw [hk] at h
    simp only
    rw [h t (by simp)]
theorem triQG {x : A1} {k : Nat} {want g : Bool} (hb : guardB F ops k want = some g) (he : evQ P F ty op = some x) (hs : sideOk F g op.operands.toList) (hn : Nat.blt dst C.n = true) :
    TriL P C ops ⟨some dst, op, ty, pos, after, some (k, want)⟩ ⟨gSlot ops k ++ slotsOf op.operands.toList, ldBlk F op, [dst], []⟩ [(dst, .gd g x)] [] F := by
  refine ⟨⟨rfl, rfl⟩, fun F' hS => ?_⟩
  have h1 := opnd_same (F := F) (F' := F') (xs := op.operands.toList) (fun t ht => hS.1 t (by simp [ht]))
  refine Tri.quietG rfl ((guardB_same (fun t ht => hS.1 t (by simp [ht]))).trans hb) rfl hn (fun hg ρ M a w hr => evQ_run hr (reads_of hr hg (sideOk_same h1 hs)) ?_)
  exact (evQ_same h1 hS.2).trans he
/-- a value is handed on, whatever it is -/
theorem triMv {x : Operand} {v : AV} (hx : opnd F x = some v) (hn : Nat.blt dst C.n = true) :
    TriL P C ops ⟨some dst, .move x, ty, pos, after, none⟩ ⟨slotsOf [x], [], [dst], []⟩ [(dst, v)] [] F := by
  refine ⟨⟨rfl, rfl⟩, fun F' hS => ?_⟩
  have h1 := opnd_same hS.1
  refine Tri.val [] rfl rfl hn (fun _ h => by cases h) (fun k hk => by rw [over_nil]; exact hk) (fun _ h => by cases h) (fun ρ M a w hr => ?_)
  exact ⟨a.eval x, w, M, fun _ => undef, rfl, Mem.le_refl _, fun ρ' h0 _ => ⟨opnd_rep h0 ((h1 x (by simp)).trans hx), by rw [over_nil]; exact h0.heap⟩⟩

/-! ### pick -/
def gval (F : FS) (x : Operand) : Option (Bool × Bool) :=
  match opnd F x with
  | some (.s (.c (.d (.v (.bool b))))) => some (true, b)
  | some (.gd g (.c (.d (.v (.bool b))))) => some (g, b)
  | _ => none
theorem gval_same {F' : FS} {x : Operand} (h : opnd F' x = opnd F x) : gval F' x = gval F x := by unfold gval; rw [h]
theorem gval_eval {ρ : Env} {M : Mem} {a : Act} {w : World} (hr : Rel0 C F ρ M a w) {x : Operand} {g b : Bool} (h : gval F x = some (g, b)) (hg : g = true) : a.eval x = .bool b := by
  unfold gval at h
  split at h
  · rename_i b' h'
    simp only [Option.some.injEq, Prod.mk.injEq] at h
    obtain ⟨_, rfl⟩ := h
    exact Rep.v_inv (opnd_rep hr h')
  · rename_i g' b' h'
    simp only [Option.some.injEq, Prod.mk.injEq] at h
    obtain ⟨rfl, rfl⟩ := h
    have := opnd_rep hr h'
    rw [hg] at this
    exact Rep.v_inv this
  · cases h
theorem pick_run {ρ : Env} {M : Mem} {a : Act} {w : World} {o : Oper} {c x y : Operand} {gc bc gx bx gy by' r : Bool} (hr : Rel0 C F ρ M a w) (ho : o.op = .pick c x y) (hc : gval F c = some (gc, bc)) (hx : gval F x = some (gx, bx)) (hy : gval F y = some (gy, by'))
    (hgc : gc = true) (h1 : bc = true → gx = true ∧ r = bx) (h2 : bc = false → gy = true ∧ r = by') : ∃ u, (execOp a.eval o).run P w = .ok (.value u) w ∧ (A1.c (.d (.v (.bool r)))).rep ρ M u := by
  refine ⟨.bool r, ?_, Rep.v _⟩
  unfold execOp; simp only [ho]
  rw [gval_eval hr hc hgc]
  cases bc with
  | true =>
    obtain ⟨h3, rfl⟩ := h1 rfl
    rw [gval_eval hr hx h3]; rfl
  | false =>
    obtain ⟨h3, rfl⟩ := h2 rfl
    rw [gval_eval hr hy h3]; rfl
theorem triAnd {c x : Operand} {bc gx bx : Bool} (hc : gval F c = some (true, bc)) (hx : gval F x = some (gx, bx)) (hs : bc = true → gx = true) (hn : Nat.blt dst C.n = true) :
    TriL P C ops ⟨some dst, .pick c x (.const (.bool false)), ty, pos, after, none⟩ ⟨slotsOf [c, x], [], [dst], []⟩ [(dst, .s (.c (.d (.v (.bool (bc && bx))))))] [] F := by
  refine ⟨⟨rfl, rfl⟩, fun F' hS => ?_⟩
  have h1 := opnd_same hS.1
  exact Tri.quiet (x := .c (.d (.v (.bool (bc && bx))))) rfl rfl hn (fun _ _ _ _ hr => pick_run hr rfl ((gval_same (h1 c (by simp))).trans hc) ((gval_same (h1 x (by simp))).trans hx) (gy := true) (by' := false) rfl rfl (fun e => ⟨hs e, by simp [e]⟩) (fun e => ⟨rfl, by simp [e]⟩))
theorem triOr {c x : Operand} {bc gx bx : Bool} (hc : gval F c = some (true, bc)) (hx : gval F x = some (gx, bx)) (hs : bc = false → gx = true) (hn : Nat.blt dst C.n = true) :
    TriL P C ops ⟨some dst, .pick c (.const (.bool true)) x, ty, pos, after, none⟩ ⟨slotsOf [c, x], [], [dst], []⟩ [(dst, .s (.c (.d (.v (.bool (bc || bx))))))] [] F := by
  refine ⟨⟨rfl, rfl⟩, fun F' hS => ?_⟩
  have h1 := opnd_same hS.1
  exact Tri.quiet (x := .c (.d (.v (.bool (bc || bx))))) rfl rfl hn (fun _ _ _ _ hr => pick_run hr rfl ((gval_same (h1 c (by simp))).trans hc) (gx := true) (bx := true) rfl ((gval_same (h1 x (by simp))).trans hx) rfl (fun e => ⟨rfl, by simp [e]⟩) (fun e => ⟨hs e, by simp [e]⟩))
theorem triAndG {c x : Operand} {k : Nat} {want g gc bc gx bx : Bool} (hb : guardB F ops k want = some g) (hc : gval F c = some (gc, bc)) (hx : gval F x = some (gx, bx)) (hgc : g = true → gc = true) (hs : g = true → bc = true → gx = true) (hn : Nat.blt dst C.n = true) :
    TriL P C ops ⟨some dst, .pick c x (.const (.bool false)), ty, pos, after, some (k, want)⟩ ⟨gSlot ops k ++ slotsOf [c, x], [], [dst], []⟩ [(dst, .gd g (.c (.d (.v (.bool (bc && bx))))))] [] F := by
  refine ⟨⟨rfl, rfl⟩, fun F' hS => ?_⟩
  have h1 := opnd_same (F := F) (F' := F') (xs := [c, x]) (fun t ht => hS.1 t (by simp [ht]))
  exact Tri.quietG (x := .c (.d (.v (.bool (bc && bx))))) rfl ((guardB_same (fun t ht => hS.1 t (by simp [ht]))).trans hb) rfl hn (fun hg _ _ _ _ hr => pick_run hr rfl ((gval_same (h1 c (by simp))).trans hc) ((gval_same (h1 x (by simp))).trans hx) (gy := true) (by' := false) rfl (hgc hg) (fun e => ⟨hs hg e, by simp [e]⟩) (fun e => ⟨rfl, by simp [e]⟩))
theorem triOrG {c x : Operand} {k : Nat} {want g gc bc gx bx : Bool} (hb : guardB F ops k want = some g) (hc : gval F c = some (gc, bc)) (hx : gval F x = some (gx, bx)) (hgc : g = true → gc = true) (hs : g = true → bc = false → gx = true) (hn : Nat.blt dst C.n = true) :
    TriL P C ops ⟨some dst, .pick c (.const (.bool true)) x, ty, pos, after, some (k, want)⟩ ⟨gSlot ops k ++ slotsOf [c, x], [], [dst], []⟩ [(dst, .gd g (.c (.d (.v (.bool (bc || bx))))))] [] F := by
  refine ⟨⟨rfl, rfl⟩, fun F' hS => ?_⟩
  have h1 := opnd_same (F := F) (F' := F') (xs := [c, x]) (fun t ht => hS.1 t (by simp [ht]))
  exact Tri.quietG (x := .c (.d (.v (.bool (bc || bx))))) rfl ((guardB_same (fun t ht => hS.1 t (by simp [ht]))).trans hb) rfl hn (fun hg _ _ _ _ hr => pick_run hr rfl ((gval_same (h1 c (by simp))).trans hc) (gx := true) (bx := true) rfl ((gval_same (h1 x (by simp))).trans hx) (hgc hg) (fun e => ⟨rfl, by simp [e]⟩) (fun e => ⟨hs hg e, by simp [e]⟩))

/-! ### new blocks -/
theorem alloc_heap (w : World) (o : Obj) : (w.alloc o).heap = w.heap.push o := rfl
theorem alloc_old {w : World} {o : Obj} {b : Nat} (h : b < w.heap.size) : (w.alloc o).heap[b]? = w.heap[b]? := by
  rw [alloc_heap, Array.getElem?_push, if_neg (by omega)]
theorem alloc_new (w : World) (o : Obj) : (w.alloc o).heap[w.heap.size]? = some o := by rw [alloc_heap]; simp
theorem InW.none {M : Mem} {w : World} (h : InW M w) {b : Nat} (hb : w.heap.size ≤ b) : (∀ o, M.cell b o = .none) ∧ M.obj b = .none := by
  constructor
  · intro o
    cases hm : M.cell b o with
    | none => rfl
    | some v => have := h.lt hm; omega
  · cases hm : M.obj b with
    | none => rfl
    | some v => have := h.ltO hm; omega
theorem RelW.alloc {bl : Nat → Option Ob} {ρ : Env} {M : Mem} {w : World} {cs : List Cell} {arr : Array Value} {t : TypeId} {j : Nat} (h : RelW C bl ρ M w) (_hj : bl j = none) (hρ : ρ j = .pointer (some ⟨w.heap.size, 0, none⟩)) (hr : Reps ρ M cs arr.toList) :
    RelW C (over [(j, .blk cs t)] bl) ρ M (w.alloc (.cells arr t)) := by
  have hn := h.mem.none (Nat.le_refl w.heap.size)
  refine h.change j (fun _ => False) (fun _ h => h.elim) ⟨rfl, rfl, rfl, by rw [alloc_heap]; simp⟩ (fun b hb _ => alloc_old hb) (Mem.le_refl _) (fun _ _ _ => ⟨fun _ => rfl, rfl⟩) (fun b hb => ?_) (fun k ob hk => ?_)
  · rcases hb with hb | hb
    · exact hb.elim
    · have := h.mem.none hb
      exact ⟨fun o v hv => (by rw [this.1 o] at hv; cases hv), fun o ho => (by rw [this.2] at ho; cases ho)⟩
  · rw [over_one] at hk
    split at hk
    · rename_i e
      subst e
      cases hk
      refine .inr (.inr ⟨rfl, ?_, fun b hb => .inr ?_⟩)
      · rw [hρ]
        exact ⟨⟨arr, alloc_new _ _, hr⟩, hn.1⟩
      · rw [hρ] at hb; cases hb; exact Nat.le_refl _
    · rename_i e
      exact .inr (.inl ⟨hk, fun _ _ h => h⟩)
theorem dom_over {Wb : List (Nat × Ob)} {bl : Nat → Option Ob} {k : Nat} (h : bl k ≠ none) : over Wb bl k ≠ none := by
  unfold over; split
  · simp
  · exact h
theorem Tri.made {o : Oper} {d j : Nat} {cs : List Cell} {t : TypeId} (hg : o.guard = none) (hd : o.dst = some d) (hn : Nat.blt d C.n = true) (hj : F.bl j = none)
    (hq : ∀ ρ M a w, Rel0 C F ρ M a w → ∃ arr, (execOp a.eval o).run P w = .ok (.value (.pointer (some ⟨w.heap.size, 0, none⟩))) (w.alloc (.cells arr t)) ∧ Reps ρ M cs arr.toList) :
    Tri P C ops o F (F.upd [(d, .s (.c (.loc j 0)))] [(j, .blk cs t)]) := by
  refine Tri.val [j] hg hd hn (fun k hk => by simp at hk; subst hk; exact hj) (fun k hk => dom_over hk) (fun k hk => by simp at hk; subst hk; rw [over_one, if_pos rfl]; simp) (fun ρ M a w hr => ?_)
  obtain ⟨arr, h1, _⟩ := hq ρ M a w hr
  refine ⟨_, _, M, fun _ => .pointer (some ⟨w.heap.size, 0, none⟩), h1, Mem.le_refl _, fun ρ' h0 hnv => ?_⟩
  have hnx := hnv j (by simp)
  obtain ⟨arr', h1', h2'⟩ := hq ρ' M a w h0
  have e : w.alloc (.cells arr t) = w.alloc (.cells arr' t) := by have := h1.symm.trans h1'; simpa using this
  rw [e]
  exact ⟨by show _ = ptr ρ' j 0; simp [ptr, hnx, blockOf], h0.heap.alloc hj hnx h2'⟩
theorem triBox {t : TypeId} {x : Operand} {y : A1} {j : Nat} {cs : List Cell} (hx : opnd F x = some (.s y)) (hp : plain1 y = true) (hcs : y.cells = cs) (hn : Nat.blt dst C.n = true) (hj : F.bl j = none) :
    TriL P C ops ⟨some dst, .box t x, ty, pos, after, none⟩ ⟨slotsOf [x], [j], [dst], [j]⟩ [(dst, .s (.c (.loc j 0)))] [(j, .blk cs t)] F := by
  subst hcs
  refine ⟨⟨rfl, rfl⟩, fun F' hS => ?_⟩
  have h1 := opnd_same hS.1
  refine Tri.made (cs := y.cells) (t := t) rfl rfl hn ((hS.2 j (by simp)).trans hj) (fun ρ M a w hr => ?_)
  have hrep : y.rep ρ M (a.eval x) := opnd_rep hr ((h1 x (by simp)).trans hx)
  refine ⟨(a.eval x).cells, ?_, A1.cells_rep hp hrep⟩
  unfold execOp
  simp only [Instr.box, newVar, newRow]
  rfl
theorem triAlloc {t : TypeId} {l : List Value} {j : Nat} {cs : List Cell} (hz : zeroCells P t = some l) (hcs : l.map zcell = cs) (hn : Nat.blt dst C.n = true) (hj : F.bl j = none) :
    TriL P C ops ⟨some dst, .alloc t, ty, pos, after, none⟩ ⟨[], [j], [dst], [j]⟩ [(dst, .s (.c (.loc j 0)))] [(j, .blk cs t)] F := by
  subst hcs
  refine ⟨⟨rfl, rfl⟩, fun F' hS => ?_⟩
  refine Tri.made (cs := l.map zcell) (t := t) rfl rfl hn ((hS.2 j (by simp)).trans hj) (fun ρ M a w hr => ?_)
  obtain ⟨v, hv, hc⟩ := zeroCells_run hz w
  refine ⟨l.toArray, ?_, Reps.zero l⟩
  unfold execOp
  simp only [Instr.alloc]
  refine bind_value ?_
  rw [run_bind_ok hv]
  simp only [newVar, newRow, hc]
  rfl

/-! ### a store into an owned block -/
theorem allSingle_cons {x : Cell} {r : List Cell} (h : allSingle (x :: r) = true) : x.single = true ∧ allSingle r = true := by
  simp only [allSingle] at h
  split at h
  · rename_i hx; exact ⟨hx, h⟩
  · cases h
theorem store_run {w : World} {b off : Nat} {arr : Array Value} {ty : TypeId} {v u : Value} (h : w.heap[b]? = some (.cells arr ty (0, 0))) (hv : arr[off]? = some u) (hs : notMany v = true) :
    (store ⟨b, off, none⟩ v).run P w = .ok () (w.setCell ⟨b, off, none⟩ v) := by
  have hc : w.cell? ⟨b, off, none⟩ = some u := by simp [World.cell?, h, hv]
  have hf : w.frozen? ⟨b, off, none⟩ = false := by simp [World.frozen?, h]
  cases v <;> first | (simp [store, Sem.run, hc, hf]; done) | cases hs
theorem setCell_heap {w : World} {b off : Nat} {arr : Array Value} {ty : TypeId} {fr : Nat × Nat} {v : Value} (h : w.heap[b]? = some (.cells arr ty fr)) : (w.setCell ⟨b, off, none⟩ v).heap[b]? = some (.cells (arr.setIfInBounds off v) ty fr) ∧ (∀ k, k ≠ b → (w.setCell ⟨b, off, none⟩ v).heap[k]? = w.heap[k]?) ∧ (w.setCell ⟨b, off, none⟩ v).heap.size = w.heap.size := by
  refine ⟨?_, fun k hk => ?_, by simp [World.setCell]⟩
  · simp only [World.setCell, Array.getElem?_modify, if_pos, h, Option.map_some]
    simp
  · simp only [World.setCell, Array.getElem?_modify]; rw [if_neg (by omega)]
/-- several cells of a block are written -/
theorem storeCells_run {b off : Nat} {ty : TypeId} : ∀ (us : List Value) (i : Nat) (w : World) (arr : Array Value), w.heap[b]? = some (.cells arr ty (0, 0)) → (∀ u ∈ us, notMany u = true) → off + i + us.length ≤ arr.size →
    ∃ w', (storeCells ⟨b, off, none⟩ us i).run P w = .ok () w' ∧ w'.heap[b]? = some (.cells (setV arr.toList (off + i) us).toArray ty (0, 0)) ∧ (∀ k, k ≠ b → w'.heap[k]? = w.heap[k]?) ∧ w'.heap.size = w.heap.size ∧ w'.os = w.os ∧ w'.tape = w.tape ∧ w'.output = w.output
  | [], i, w, arr, h, _, _ => ⟨w, rfl, by simpa [setV] using h, fun _ _ => rfl, rfl, rfl, rfl, rfl⟩
  | u :: r, i, w, arr, h, hs, hl => by
    simp only [List.length_cons] at hl
    have hlt : off + i < arr.size := by omega
    have hst : (store ((Addr.mk b off none).add i) u).run P w = .ok () (w.setCell ⟨b, off + i, none⟩ u) := by
      rw [add_none]
      exact store_run h (u := arr[off + i]) (by simp [hlt]) (hs u (by simp))
    obtain ⟨g1, g2, g3⟩ := setCell_heap (off := off + i) (v := u) h
    obtain ⟨w', q1, q2, q3, q4, q5, q6, q7⟩ := storeCells_run (off := off) r (i + 1) (w.setCell ⟨b, off + i, none⟩ u) (arr.setIfInBounds (off + i) u) g1 (fun x hx => hs x (by simp [hx])) (by rw [Array.size_setIfInBounds]; omega)
    refine ⟨w', ?_, ?_, fun k hk => (q3 k hk).trans (g2 k hk), q4.trans g3, q5, q6, q7⟩
    · simp only [storeCells]
      rw [run_bind_ok hst]
      exact q1
    · rw [q2]
      simp only [setV, Array.toList_setIfInBounds]
      rfl
theorem triStore {t : TypeId} {x y : Operand} {j off : Nat} {cs cs' : List Cell} {u : TypeId} {v : A1} {n : Nat} {b : Bool}
    (hx : opnd F x = some (.s (.c (.loc j off)))) (hj : F.bl j = some (.blk cs u)) (hy : opnd F y = some (.s v)) (hp : plain1 v = true) (hs : allSingle v.cells = true) (ht : tinfo P t = some (n, b)) (hl : Nat.beq v.cells.length n = true)
    (hle : Nat.ble (off + n) cs.length = true) (hc : setCells cs off v.cells = cs') :
    TriL P C ops ⟨none, .store t x y, ty, pos, after, none⟩ ⟨slotsOf [x, y], [j], [], [j]⟩ [] [(j, .blk cs' u)] F := by
  refine ⟨⟨rfl, rfl⟩, fun F' hS => ?_⟩
  have h1 := opnd_same hS.1
  have hj' : F'.bl j = some (.blk cs u) := (hS.2 j (by simp)).trans hj
  have hx' := (h1 x (by simp)).trans hx
  have hy' := (h1 y (by simp)).trans hy
  refine Tri.eff rfl rfl (fun k hk => dom_over hk) (fun ρ M a w hr => ?_)
  have hl' : v.cells.length = n := Nat.eq_of_beq_eq_true hl
  have ex : a.eval x = ptr ρ j off := opnd_rep hr hx'
  have ey : v.rep ρ M (a.eval y) := opnd_rep hr hy'
  obtain ⟨⟨arr, g1, g2⟩, g3⟩ := hr.heap.inv _ _ hj'
  have hcr := A1.cells_rep hp ey
  have hnm : ∀ u ∈ (a.eval y).cells.toList, notMany u = true := by
    have : ∀ (cs : List Cell) (vs : List Value), allSingle cs = true → Reps ρ M cs vs → ∀ u ∈ vs, notMany u = true := by
      intro cs
      induction cs with
      | nil => intro vs _ hr u hu; cases vs with
        | nil => cases hu
        | cons _ _ => exact hr.elim
      | cons c r ih =>
        intro vs ha hr u hu
        cases vs with
        | nil => exact hr.elim
        | cons v' vs =>
          obtain ⟨a1, a2⟩ := allSingle_cons ha
          cases hu with
          | head => exact single_rep a1 hr.1
          | tail _ hm => exact ih vs a2 hr.2 u hm
    exact this _ _ hs hcr
  have hlen := hcr.len
  have hcl := g2.len
  have hle' := Nat.le_of_ble_eq_true hle
  obtain ⟨w', q1, q2, q3, q4, q5, q6, q7⟩ := storeCells_run (P := P) (off := off) (a.eval y).cells.toList 0 w arr g1 hnm (by have e : arr.size = cs.length := (by simpa using hcl); rw [hlen, hl']; omega)
  refine ⟨w', M, ?_, Mem.le_refl _, fun ρ' h0 => ?_⟩
  · unfold execOp
    simp only [ex, ptr]
    have hsv : (storeVar t ⟨blockOf (ρ j), off, none⟩ (a.eval y)).run P w = .ok () w' := by
      unfold storeVar
      rw [run_bind_ok (tinfo_size ht w)]
      rw [if_neg (by simp at hlen; simp [hlen, hl'])]
      exact q1
    show (do storeVar t ⟨blockOf (ρ j), off, none⟩ (a.eval y); pure Next.skip : Sem Next).run P w = _
    rw [run_bind_ok hsv]
    rfl
  · have ex' : a.eval x = ptr ρ' j off := opnd_rep h0 hx'
    have eb : blockOf (ρ' j) = blockOf (ρ j) := by have := ex'.symm.trans ex; simpa [ptr] using this
    obtain ⟨⟨arr', g1', g2'⟩, g3'⟩ := h0.heap.inv _ _ hj'
    rw [eb] at g1' g3'
    have ea : arr' = arr := by have := g1'.symm.trans g1; simpa using this
    subst ea
    have ey' : v.rep ρ' M (a.eval y) := opnd_rep h0 hy'
    refine h0.heap.change j (fun b => b = blockOf (ρ j)) ?_ ⟨q5, q6, q7, Nat.le_of_eq q4.symm⟩ (fun b _ hb => q3 b hb) (Mem.le_refl _) (fun _ _ _ => ⟨fun _ => rfl, rfl⟩) ?_ ?_
    · rintro b rfl _
      rw [← eb]
      exact h0.heap.priv j _ _ hj' rfl
    · rintro b (rfl | hb)
      · exact ⟨fun o v' hv' => (by rw [g3' o] at hv'; cases hv'), fun o ho => (by rw [h0.heap.mem.noObj g1'] at ho; cases ho)⟩
      · have := h0.heap.mem.none hb
        exact ⟨fun o v' hv' => (by rw [this.1 o] at hv'; cases hv'), fun o ho => (by rw [this.2] at ho; cases ho)⟩
    · intro k ob hk
      rw [over_one] at hk
      split at hk
      · rename_i e
        subst e
        cases hk
        refine .inr (.inr ⟨rfl, ⟨⟨_, by rw [eb]; exact q2, ?_⟩, by rw [eb]; exact g3'⟩, fun b hb => .inl (by cases hb; exact eb)⟩)
        rw [← hc]
        simpa using Reps.setMany off (A1.cells_rep hp ey') g2'
      · rename_i e
        refine .inr (.inl ⟨hk, fun b hb hbe => ?_⟩)
        subst hbe
        exact e ((h0.heap.dist k j _ _ _ hk hj' hb (by show some _ = some _; rw [eb])).symm)
end ops
end Go.E2

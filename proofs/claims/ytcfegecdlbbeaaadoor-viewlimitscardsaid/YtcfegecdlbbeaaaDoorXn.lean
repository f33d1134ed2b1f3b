/-
  Functions as values: made, called.
-/
import Derived.Test.YtcfegecdlbbeaaaDoorXm
namespace Go.E2
variable {P : Program} {C : Ctx} {F : FS} {ops : Array Oper} {dst : Nat} {op : Op} {ty : TypeId} {pos : String} {after : Array Edge}
def capA (caps : List (Nat × Nat)) : List A1 := caps.map fun p => .c (.loc p.1 p.2)
theorem capA_reps {ρ : Env} {M : Mem} : ∀ {caps : List (Nat × Nat)} {vs : List Value}, A1.reps ρ M (capA caps) vs → vs = caps.map fun p => ptr ρ p.1 p.2
  | [], [], _ => rfl
  | [], _ :: _, h => h.elim
  | _ :: _, [], h => h.elim
  | p :: r, v :: vs, h => by
    have h1 : v = ptr ρ p.1 p.2 := h.1
    rw [h1, capA_reps (caps := r) h.2]; rfl
theorem capA_rep {ρ : Env} {M : Mem} : ∀ (caps : List (Nat × Nat)), A1.reps ρ M (capA caps) (caps.map fun p => ptr ρ p.1 p.2)
  | [] => trivial
  | _ :: r => ⟨rfl, capA_rep r⟩
theorem A1.reps_app {ρ : Env} {M : Mem} : ∀ {xs ys : List A1} {vs us : List Value}, A1.reps ρ M xs vs → A1.reps ρ M ys us → A1.reps ρ M (xs ++ ys) (vs ++ us)
  | [], _, [], _, _, h => h
  | [], _, _ :: _, _, h, _ => h.elim
  | _ :: _, _, [], _, h, _ => h.elim
  | _ :: _, _, _ :: _, _, h, h' => ⟨h.1, A1.reps_app h.2 h'⟩
theorem triMkF {f : FuncId} (caps : List (Nat × Nat)) {args : Array Operand} (hx : rds F args.toList = some (capA caps)) (hs : sideOk F true args.toList) (hd : Nat.blt dst C.n = true) :
    TriL P C ops ⟨some dst, .makeFunc (.func f) #[] args, ty, pos, after, none⟩ ⟨slotsOf args.toList, [], [dst], []⟩ [(dst, .s (.c (.fn f caps)))] [] F := by
  refine ⟨⟨rfl, rfl⟩, fun F' hS => ?_⟩
  have h1 := opnd_same hS.1
  refine Tri.quiet (x := .c (.fn f caps)) rfl rfl hd (fun ρ M a w hr => ?_)
  have hR := reads_of hr rfl (sideOk_same h1 hs)
  have h2 := capA_reps (rds_rep hR ((rds_same h1).trans hx))
  refine ⟨.func (.func f) #[] (caps.map fun (p : Nat × Nat) => ptr ρ p.1 p.2).toArray, ?_, (rfl : _ = _)⟩
  have e : args.map a.eval = (caps.map fun p => ptr ρ p.1 p.2).toArray := by
    apply Array.ext'; simpa using h2
  unfold execOp
  simp only [e, Instr.makeFunc, List.map_toArray, List.map_nil]
  exact bind_value rfl
/-- a call of a function that is a value -/
theorem callF_run {a : Act} {w : World} {f : FuncId} {t : Nat} {args : Array Operand} {argTypes : Array TypeId} {cvs vs : List Value} {fn : Func} {dst : Option Tmp} {ty : TypeId} {pos : String} {after : Array Edge} {gu : Option (Nat × Bool)}
    (et : a.eval (.tmp t) = .func (.func f) #[] cvs.toArray) (e0 : args.toList.map a.eval ++ cvs = vs) (hf : P.funcs[f]? = some fn) (hn : (fn.name == "runtime.NumGoroutine") = false) (hb : fn.body.isNone = false) :
    (execOp a.eval ⟨dst, .call ⟨.value (.tmp t), args, argTypes⟩, ty, pos, after, gu⟩).run P w = .ok (.enter f vs.toArray) w := by
  unfold execOp
  have e1 : args.map a.eval ++ cvs.toArray = vs.toArray := by
    rw [← e0]; apply Array.ext'; simp
  simp only [resolve, et, Deferred.ofValue, pure_bind, invoke, callFunc, Array.empty_append, e1]
  show (Sem.program _).run P w = _
  simp only [Sem.run, Sem.bind, hf]
  rw [if_neg (by rw [hn]; simp), if_neg (by rw [hb]; simp)]
  rfl
theorem triCallF [HasTab P C] {f : FuncId} {t : Nat} {args : Array Operand} {argTypes : Array TypeId} {ys as : List A1} {bl bl' : List (Nat × Ob)} {res : AV} {caps : List (Nat × Nat)} (σ : Nat → Nat) (res' : AV) (Wb : List (Nat × Ob)) (hft : rd F (.tmp t) = some (.c (.fn f caps))) (hc : Con P f as bl res bl') (hy : rds F args.toList = some ys) (hfit : Fits (ys ++ capA caps) (as.map (A1.ren σ))) (hs : sideOk F true (.tmp t :: args.toList)) (hf : Entry P f)
    (hl : lentOk F σ bl) (hdom : domB bl' bl = true) (hap : apart σ bl' = true) (hsc : blIn bl bl = true) (hsa : a1sIn bl as = true) (hnew : allNone F (newNames σ bl bl')) (hn : Nat.blt dst C.n = true) (hres : res.ren σ = res') (hWb : renBl σ bl' = Wb) :
    TriL P C ops ⟨some dst, .call ⟨.value (.tmp t), args, argTypes⟩, ty, pos, after, none⟩ ⟨slotsOf (.tmp t :: args.toList), Wb.map (·.1), [dst], Wb.map (·.1)⟩ [(dst, res')] Wb F := by
  subst hres hWb
  refine ⟨⟨rfl, rfl⟩, fun F' hS => ?_⟩
  have h1 := opnd_same hS.1
  obtain ⟨fn, hf1, hf2, hf3⟩ := hf
  have hb' : ∀ i, look bl' i ≠ none → F'.bl (σ i) = F.bl (σ i) := fun i hi => by
    obtain ⟨o2, ho2⟩ := Option.ne_none_iff_exists'.1 hi
    have := renBl_look hap i o2 ho2
    exact hS.2 _ (mem_of_look (by rw [this]; simp))
  have hl' : lentOk F' σ bl := by
    have : ∀ (l : List (Nat × Ob)), (∀ p ∈ l, look bl' p.1 ≠ none) → lentOk F σ l → lentOk F' σ l := by
      intro l
      induction l with
      | nil => intro _ _; trivial
      | cons p r ih =>
        obtain ⟨i, o⟩ := p
        intro hm h
        exact ⟨(hb' i (hm (i, o) (by simp))).trans h.1, ih (fun q hq => hm q (by simp [hq])) h.2⟩
    exact this bl (fun p hp => domB_spec hdom p.1 (look_of_mem (List.mem_map_of_mem hp))) hl
  have hnew' : allNone F' (newNames σ bl bl') := by
    have : ∀ (l : List Nat), (∀ k ∈ l, F'.bl k = none) → allNone F' l := by
      intro l
      induction l with
      | nil => intro _; trivial
      | cons k r ih => intro h; exact ⟨h k (by simp), ih (fun j hj => h j (by simp [hj]))⟩
    refine this _ (fun k hk => ?_)
    obtain ⟨i, h2, h3, rfl⟩ := newNames_mem.1 hk
    rw [hb' i h2]; exact allNone_spec hnew _ hk
  have hft' : rd F' (.tmp t) = some (.c (.fn f caps)) := (rd_same (h1 (.tmp t) (by simp))).trans hft
  refine Tri.call rfl rfl hn hc hl' hdom hap hsc hnew' hsa (fun ρ M a w hr => ?_)
  have hR := reads_of hr rfl (sideOk_same h1 hs)
  have et : a.eval (.tmp t) = .func (.func f) #[] (caps.map fun p => ptr ρ p.1 p.2).toArray := hR (.tmp t) (by simp) _ hft'
  have hR' : Reads F' a ρ M args.toList := fun x hx y hy => hR x (by simp [hx]) y hy
  refine ⟨args.toList.map a.eval ++ caps.map fun p => ptr ρ p.1 p.2, callF_run et rfl hf1 hf2 hf3, ?_⟩
  refine Fits.reps hfit (A1.reps_app (rds_rep hR' ((rds_same (fun x hx => h1 x (by simp [hx]))).trans hy)) (capA_rep caps))

/-! ### an exact empty slice inside a value becomes one that grows, or is written -/
theorem Conv.nilAg {sl : List (Nat × AV)} {bl : List (Nat × Ob)} {nx : Nat} (s i j : Nat) (ob : Ob) (c : Cell) (cs cs' : List Cell) (nx' : Nat) (hv : look sl s = some (.s (.agg cs))) (hi : cs[i]? = some (.d (.v (.slice none 0 0)))) (hcs : cs.set i c = cs') (hj : look bl j = none)
    (hob : ∀ ρ M w, ρ j = .slice none 0 0 → Inv1 ρ M w ob (ρ j) ∧ ∀ b, ob.blkOf (ρ j) ≠ some b) (hc : ∀ ρ M, ρ j = .slice none 0 0 → c.rep ρ M (.slice none 0 0)) : Conv C ⟨sl, bl, nx⟩ ⟨(s, .s (.agg cs')) :: sl, (j, ob) :: bl, nx'⟩ := by
  subst hcs
  intro ρ M a w hr
  refine ⟨fun i => if i = j then .slice none 0 0 else ρ i, M, fun ρ' ha => ?_⟩
  have hag : Agree (look bl) ρ ρ' := fun i hi => by
    have hne : i ≠ j := fun e => hi (e ▸ hj)
    have := ha i (by show look ((j, ob) :: bl) i ≠ none; rw [look_cons, if_neg (Ne.symm hne)]; exact hi)
    rw [this]; exact if_neg hne
  have hnj : ρ' j = .slice none 0 0 := by
    have := ha j (by show look ((j, ob) :: bl) j ≠ none; rw [look_cons, if_pos rfl]; simp)
    rw [this]; exact if_pos rfl
  have h0 := hr ρ' hag
  refine ⟨h0.defers, h0.size, fun t u hu => ?_, ?_⟩
  · have hu' : look ((s, AV.s (.agg (cs.set i c))) :: sl) t = some u := hu
    rw [look_cons] at hu'
    split at hu'
    · rename_i e
      subst e
      cases hu'
      obtain ⟨arr, e1, h2⟩ := h0.slots s _ hv
      obtain ⟨v, hv1, hv2⟩ := h2.get i _ hi
      have := Rep.v_inv hv2
      subst this
      refine ⟨arr, e1, ?_⟩
      have h3 := h2.set (hc ρ' M hnj) i
      have e3 : arr.toList.set i (.slice none 0 0) = arr.toList := by
        apply List.ext_getElem?
        intro k
        by_cases hk : i = k
        · subst hk; rw [List.getElem?_set_self (List.getElem?_eq_some_iff.1 hv1).1, hv1]
        · rw [List.getElem?_set_ne hk]
      rwa [e3] at h3
    · exact h0.slots t u hu'
  · refine h0.heap.change j (fun _ => False) (fun _ h => h.elim) ⟨rfl, rfl, rfl, Nat.le_refl _⟩ (fun _ _ _ => rfl) (Mem.le_refl _) (fun _ _ _ => ⟨fun _ => rfl, rfl⟩) (fun b _ => ⟨fun o v hv => h0.heap.mem.cell b o v hv, fun o ho => h0.heap.mem.obj b o ho⟩) (fun k ob' hk => ?_)
    have hk' : look ((j, ob) :: bl) k = some ob' := hk
    rw [look_cons] at hk'
    split at hk'
    · rename_i e
      subst e
      cases hk'
      obtain ⟨q1, q2⟩ := hob ρ' M w hnj
      exact .inr (.inr ⟨rfl, q1, fun b hb => absurd hb (q2 b)⟩)
    · exact .inr (.inl ⟨hk', fun _ _ h => h⟩)
theorem nil_tail (sz j : Nat) : ∀ (ρ : Env) (M : Mem) (w : World), ρ j = .slice none 0 0 → Inv1 ρ M w (.tail sz) (ρ j) ∧ ∀ b, (Ob.tail sz).blkOf (ρ j) ≠ some b := fun ρ M w h => by
  rw [h]; exact ⟨⟨none, 0, 0, rfl, Nat.le_refl _, fun h => absurd h (Nat.lt_irrefl _)⟩, fun b hb => by cases hb⟩
theorem nil_vec {α : Type} (enc : α → List D) (sz j : Nat) : ∀ (ρ : Env) (M : Mem) (w : World), ρ j = .slice none 0 0 → Inv1 ρ M w (.vec sz (([] : List α).map enc)) (ρ j) ∧ ∀ b, (Ob.vec sz (([] : List α).map enc)).blkOf (ρ j) ≠ some b := fun ρ M w h => by
  rw [h]; exact ⟨⟨none, 0, rfl, Nat.le_refl _, fun i row h => by simp at h, fun h => absurd h (Nat.lt_irrefl _)⟩, fun b hb => by cases hb⟩
/-- the same in a block -/
theorem Conv.nilB {sl : List (Nat × AV)} {bl : List (Nat × Ob)} {nx : Nat} (k i j : Nat) (ob : Ob) (c : Cell) (cs cs' : List Cell) (u : TypeId) (nx' : Nat) (hv : look bl k = some (.blk cs u)) (hi : cs[i]? = some (.d (.v (.slice none 0 0)))) (hcs : cs.set i c = cs') (hj : look bl j = none)
    (hob : ∀ ρ M w, ρ j = .slice none 0 0 → Inv1 ρ M w ob (ρ j) ∧ ∀ b, ob.blkOf (ρ j) ≠ some b) (hc : ∀ ρ M, ρ j = .slice none 0 0 → c.rep ρ M (.slice none 0 0)) : Conv C ⟨sl, bl, nx⟩ ⟨sl, (k, .blk cs' u) :: (j, ob) :: bl, nx'⟩ := by
  subst hcs
  intro ρ M a w hr
  have hkj : k ≠ j := fun e => by subst e; rw [hj] at hv; cases hv
  refine ⟨fun i => if i = j then .slice none 0 0 else ρ i, M, fun ρ' ha => ?_⟩
  have hag : Agree (look bl) ρ ρ' := fun i hi => by
    have hne : i ≠ j := fun e => hi (e ▸ hj)
    have := ha i (by
      show look ((k, _) :: (j, ob) :: bl) i ≠ none
      rw [look_cons]; split
      · simp
      · rw [look_cons, if_neg (Ne.symm hne)]; exact hi)
    rw [this]; exact if_neg hne
  have hnj : ρ' j = .slice none 0 0 := by
    have := ha j (by
      show look ((k, _) :: (j, ob) :: bl) j ≠ none
      rw [look_cons, if_neg hkj, look_cons, if_pos rfl]; simp)
    rw [this]; exact if_pos rfl
  have h0 := hr ρ' hag
  have h1 : RelW C (look ((j, ob) :: bl)) ρ' M w := by
    refine h0.heap.change j (fun _ => False) (fun _ h => h.elim) ⟨rfl, rfl, rfl, Nat.le_refl _⟩ (fun _ _ _ => rfl) (Mem.le_refl _) (fun _ _ _ => ⟨fun _ => rfl, rfl⟩) (fun b _ => ⟨fun o v hv => h0.heap.mem.cell b o v hv, fun o ho => h0.heap.mem.obj b o ho⟩) (fun q ob' hk => ?_)
    rw [look_cons] at hk
    split at hk
    · rename_i e
      subst e
      cases hk
      obtain ⟨q1, q2⟩ := hob ρ' M w hnj
      exact .inr (.inr ⟨rfl, q1, fun b hb => absurd hb (q2 b)⟩)
    · exact .inr (.inl ⟨hk, fun _ _ h => h⟩)
  refine ⟨h0.defers, h0.size, fun t u hu => h0.slots t u hu, h1.review (fun q ob' hq => ?_)⟩
  have hq' : look ((k, Ob.blk (cs.set i c) u) :: (j, ob) :: bl) q = some ob' := hq
  rw [look_cons] at hq'
  split at hq'
  · rename_i e
    subst e
    cases hq'
    refine .inr ⟨cs, _, u, by rw [look_cons, if_neg (Ne.symm hkj)]; exact hv, rfl, fun vs hvs => ?_⟩
    obtain ⟨v, hv1, hv2⟩ := hvs.get i _ hi
    have := Rep.v_inv hv2
    subst this
    have h3 := hvs.set (hc ρ' M hnj) i
    have e3 : vs.set i (.slice none 0 0) = vs := by
      apply List.ext_getElem?
      intro q
      by_cases hk : i = q
      · subst hk; rw [List.getElem?_set_self (List.getElem?_eq_some_iff.1 hv1).1, hv1]
      · rw [List.getElem?_set_ne hk]
    rwa [e3] at h3
  · exact .inl hq'
theorem OkOps.wq {o : Oper} {rest : List Oper} {Q : AState → Prop} {sl : List (Nat × AV)} {bl : List (Nat × Ob)} {nx d : Nat} {a : AV} {s : Sum} (Wb : List (Nat × Ob)) (ht : TriL P C ops o s [(d, a)] Wb ⟨look sl, look bl⟩) (h : OkOps P C ops rest Q ⟨(d, a) :: sl, Wb ++ bl, nx⟩) : OkOps P C ops (o :: rest) Q ⟨sl, bl, nx⟩ := OkOps.step (st := ⟨sl, bl, nx⟩) (nx' := nx) ht.tri h
theorem OkD.wq {o : Oper} {rest : List Oper} {ss0 : List Sum} {Q : AState → Prop} {sl : List (Nat × AV)} {bl : List (Nat × Ob)} {nx d : Nat} {a : AV} {s : Sum} (Wb : List (Nat × Ob)) (ht : TriL P C ops o s [(d, a)] Wb ⟨look sl, look bl⟩) (h : OkD P C ops rest (s :: ss0) Q ⟨(d, a) :: sl, Wb ++ bl, nx⟩) : OkD P C ops (o :: rest) ss0 Q ⟨sl, bl, nx⟩ := OkD.step (st := ⟨sl, bl, nx⟩) (nx' := nx) ht h

/-! ### tables -/
def encAcc (x : Int × Int) : List D := [.v (.int .u8 x.1), .v (.int .u8 x.2)]
theorem idxT_run {α : Type} {enc : α → List D} {L : List α} {M : Mem} {w : World} {g t n sz : Nat} {k : IntKind} {i : Int} {x : α} (hi : idxO L i = some x) (hL : L.length = n) (ht : arrInfo P t = some (n, sz)) (hM : ∀ (k : Nat) x, L[k]? = some x → ∀ (j : Nat) d, (enc x)[j]? = some d → ∃ u, M.cell g (k * sz + j) = some u ∧ Rep M d u) :
    ∃ u, (Instr.indexAt t (.pointer (some ⟨g, 0, none⟩)) (.int k i)).run P w = .ok u w ∧ PtRep M (enc x) u := by
  obtain ⟨h0, h1, h2⟩ := idxO_spec hi
  have := arrInfo_run (b := g) (off := 0) (k := k) ht h0 (by omega) w
  refine ⟨_, this, ⟨g, 0 + i.toNat * sz, rfl, fun j d hd => ?_⟩⟩
  obtain ⟨u, q1, q2⟩ := hM _ _ h2 j d hd
  exact ⟨u, by rw [Nat.zero_add]; exact q1, q2⟩
theorem triTab {α : Type} {enc : α → List D} {L : List α} {t n sz g : Nat} {i : Operand} {k : IntKind} {z : Int} {y : α} {row : List D} (hi : idxO L z = some y) (hL : L.length = n) (hrow : enc y = row) (ht : arrInfo P t = some (n, sz)) (hM : ∀ M, C.M0.le M → ∀ (k : Nat) x, L[k]? = some x → ∀ (j : Nat) d, (enc x)[j]? = some d → ∃ u, M.cell g (k * sz + j) = some u ∧ Rep M d u) (hz : rdV F i = some (.int k z)) (hs : sideOk F true [i]) (hd : Nat.blt dst C.n = true) :
    TriL P C ops ⟨some dst, .indexAddr t (.global g) i, ty, pos, after, none⟩ ⟨slotsOf [i], [], [dst], []⟩ [(dst, .s (.c (.pt row)))] [] F := by
  subst hrow
  refine ⟨⟨rfl, rfl⟩, fun F' hS => ?_⟩
  have h1 := opnd_same hS.1
  refine Tri.quiet (x := .c (.pt (enc y))) rfl rfl hd (fun ρ M a w hr => ?_)
  have hR := reads_of hr rfl (sideOk_same h1 hs)
  obtain ⟨u, g1, g2⟩ := idxT_run (P := P) (w := w) (k := k) hi hL ht (hM M hr.heap.base)
  refine ⟨u, ?_, g2⟩
  unfold execOp
  simp only
  rw [rdV_eval hR (by simp) ((rdV_same (h1 i (by simp))).trans hz)]
  exact bind_value g1
theorem triFirst [hT : HasTab P C] {t g : Nat} {i : Operand} {k : IntKind} {z y : Int} (hi : idxO utf8First z = some y) (hg : P.globalNamed "unicode/utf8.first" = some g) (ht : arrInfo P t = some (256, 1)) (hz : rdV F i = some (.int k z)) (hs : sideOk F true [i]) (hd : Nat.blt dst C.n = true) :
    TriL P C ops ⟨some dst, .indexAddr t (.global g) i, ty, pos, after, none⟩ ⟨slotsOf [i], [], [dst], []⟩ [(dst, .s (.c (.pt [.v (.int .u8 y)])))] [] F :=
  triTab (enc := eInt .u8) (L := utf8First) hi (by decide +kernel) rfl ht (fun M hle k x hx j d hd => by
    cases j with
    | zero =>
      have := hle.cell _ _ _ (hT.tab.1 g hg k x hx)
      simp [eInt] at hd; subst hd
      exact ⟨_, by rw [Nat.mul_one, Nat.add_zero]; exact this, Rep.v _⟩
    | succ j => simp [eInt] at hd) hz hs hd
theorem triAccept [hT : HasTab P C] {t g : Nat} {i : Operand} {k : IntKind} {z : Int} {y : Int × Int} (hi : idxO utf8Accept z = some y) (hg : P.globalNamed "unicode/utf8.acceptRanges" = some g) (ht : arrInfo P t = some (16, 2)) (hz : rdV F i = some (.int k z)) (hs : sideOk F true [i]) (hd : Nat.blt dst C.n = true) :
    TriL P C ops ⟨some dst, .indexAddr t (.global g) i, ty, pos, after, none⟩ ⟨slotsOf [i], [], [dst], []⟩ [(dst, .s (.c (.pt [.v (.int .u8 y.1), .v (.int .u8 y.2)])))] [] F :=
  triTab (enc := encAcc) (L := utf8Accept) hi (by decide) rfl ht (fun M hle k x hx j d hd => by
    have := hT.tab.2 g hg k x hx
    match j with
    | 0 => simp [encAcc] at hd; subst hd; exact ⟨_, hle.cell _ _ _ this.1, Rep.v _⟩
    | 1 => simp [encAcc] at hd; subst hd; exact ⟨_, hle.cell _ _ _ this.2, Rep.v _⟩
    | j + 2 => simp [encAcc] at hd) hz hs hd

/-! ### a call whose growing argument is an exact empty slice -/
def nilFit (j : Nat) : List A1 → List A1 → Prop
  | [], [] => True
  | y :: ys, x :: xs => (y = x ∨ (y = .c (.d (.v (.slice none 0 0))) ∧ (x = .c (.tl j []) ∨ x = .c (.own j)))) ∧ nilFit j ys xs
  | _, _ => False
theorem nilFit_reps {j : Nat} {ρ : Env} {M : Mem} (hρ : ρ j = .slice none 0 0) : ∀ {ys xs : List A1} {vs : List Value}, nilFit j ys xs → A1.reps ρ M ys vs → A1.reps ρ M xs vs
  | [], [], _, _, h => h
  | [], _ :: _, _, h, _ => h.elim
  | _ :: _, [], _, h, _ => h.elim
  | y :: ys, x :: xs, [], _, h => h.elim
  | y :: ys, x :: xs, v :: vs, hf, h => by
    refine ⟨?_, nilFit_reps hρ hf.2 h.2⟩
    rcases hf.1 with rfl | ⟨rfl, rfl | rfl⟩
    · exact h.1
    · have := Rep.v_inv (show Rep M _ v from h.1)
      exact ⟨by rw [this, hρ], by rw [this]; exact Rep.nil⟩
    · have := Rep.v_inv (show Rep M _ v from h.1)
      show v = ρ j
      rw [this, hρ]
def eraseO (j : Nat) : List (Nat × Ob) → List (Nat × Ob)
  | [] => []
  | (i, o) :: r => if Nat.beq i j then eraseO j r else (i, o) :: eraseO j r
theorem eraseO_look {j : Nat} : ∀ {l : List (Nat × Ob)} {k : Nat}, look (eraseO j l) k = if k = j then none else look l k
  | [], k => by simp [eraseO, look]
  | (i, o) :: r, k => by
    unfold eraseO
    cases h : Nat.beq i j with
    | true =>
      have := Nat.eq_of_beq_eq_true h
      subst this
      simp only [if_true]
      rw [eraseO_look, look_cons]
      by_cases e : k = i
      · simp [e]
      · simp [e, show ¬ i = k from fun e' => e e'.symm]
    | false =>
      simp only [Bool.false_eq_true, if_false]
      rw [look_cons, look_cons, eraseO_look]
      by_cases e : i = k
      · subst e
        have : i ≠ j := fun e' => by subst e'; simp at h
        simp [this]
      · simp [e]
theorem Con.nilArg {f : FuncId} {args args' : List A1} {bl bl2 bl' bl2' : List (Nat × Ob)} {res : AV} {ob : Ob} (j : Nat) (h : Con P f args bl res bl') (hfit : nilFit j args' args) (hj : look bl j = some ob) (hob : ∀ ρ M w, ρ j = .slice none 0 0 → Inv1 ρ M w ob (ρ j) ∧ ∀ b, ob.blkOf (ρ j) ≠ some b)
    (h2 : eraseO j bl = bl2) (h2' : eraseO j bl' = bl2') (hs0 : blIn bl2 bl2 = true) (hsa : a1sIn bl2 args' = true) (hs : blIn bl2' bl2' = true) (hsr : res.inB bl2' = true) (hdom : domB bl2' bl2 = true) : Con P f args' bl2 res bl2' := by
  subst h2 h2'
  intro ρ M w g vs hT hrel
  have hag0 : ∀ ρ', Agree (look bl) (fun i => if i = j then .slice none 0 0 else ρ i) ρ' → Agree (look (eraseO j bl)) ρ ρ' ∧ ρ' j = .slice none 0 0 := by
    intro ρ' ha
    refine ⟨fun i hi => ?_, ?_⟩
    · rw [eraseO_look] at hi
      by_cases e : i = j
      · rw [if_pos e] at hi; exact absurd rfl hi
      · rw [if_neg e] at hi
        have := ha i hi
        rw [this]; exact if_neg e
    · have := ha j (by rw [hj]; simp)
      rw [this]; exact if_pos rfl
  refine (h (fun i => if i = j then .slice none 0 0 else ρ i) M w g vs hT (fun ρ' ha => ?_)).mono ?_
  · obtain ⟨a1, a2⟩ := hag0 ρ' ha
    obtain ⟨r1, r2⟩ := hrel ρ' a1
    refine ⟨⟨fun k o hk => ?_, fun i k x y b hi hk hx hy => ?_, fun k o b hk ho => ?_, r1.mem, r1.base, r1.fresh, r1.kept, fun k hk => ha k hk⟩, nilFit_reps a2 hfit r2⟩
    · by_cases e : k = j
      · subst e; rw [hj] at hk; cases hk; exact (hob ρ' M w a2).1
      · exact r1.inv k o (by rw [eraseO_look, if_neg e]; exact hk)
    · have n1 : i ≠ j := fun e => by subst e; rw [hj] at hi; cases hi; exact absurd hx ((hob ρ' M w a2).2 b)
      have n2 : k ≠ j := fun e => by subst e; rw [hj] at hk; cases hk; exact absurd hy ((hob ρ' M w a2).2 b)
      exact r1.dist i k x y b (by rw [eraseO_look, if_neg n1]; exact hi) (by rw [eraseO_look, if_neg n2]; exact hk) hx hy
    · have n1 : k ≠ j := fun e => by subst e; rw [hj] at hk; cases hk; exact absurd ho ((hob ρ' M w a2).2 b)
      exact r1.priv k o b (by rw [eraseO_look, if_neg n1]; exact hk) ho
  · rintro e w' ⟨u, ρ1, M', rfl, hfin⟩
    refine ⟨u, ρ1, M', rfl, fun ρ' ha => ?_⟩
    have hag : Agree (look (eraseO j bl')) (fun i => if i = j then ρ1 j else ρ' i) ρ' := fun i hi => by
      have e : i ≠ j := fun e => by subst e; rw [eraseO_look, if_pos rfl] at hi; exact hi rfl
      show ρ' i = if i = j then ρ1 j else ρ' i
      rw [if_neg e]
    obtain ⟨q1, q2⟩ := hfin (fun i => if i = j then ρ1 j else ρ' i) (fun i hi => by
      by_cases e : i = j
      · subst e; show (if i = i then ρ1 i else ρ' i) = ρ1 i; rw [if_pos rfl]
      · show (if i = j then ρ1 j else ρ' i) = ρ1 i
        rw [if_neg e]
        exact ha i (by rw [eraseO_look, if_neg e]; exact hi))
    refine ⟨AV.inB_rep hag hsr q1, ?_⟩
    have q3 : RelW (ctxOf w 0 g M (eraseO j bl) ρ) (look bl') (fun i => if i = j then ρ1 j else ρ' i) M' w' := by
      refine ⟨q2.inv, q2.dist, q2.priv, q2.mem, q2.base, q2.fresh, q2.kept, fun k hk => ?_⟩
      have hk' : look (eraseO j bl) k ≠ none := hk
      rw [eraseO_look] at hk'
      by_cases e : k = j
      · rw [if_pos e] at hk'; exact absurd rfl hk'
      · rw [if_neg e] at hk'
        have := q2.names k hk'
        rw [this]
        show (if k = j then _ else ρ k) = ρ k
        rw [if_neg e]
    exact q3.scoped (fun s v hv => by
      rw [eraseO_look] at hv
      by_cases e : s = j
      · rw [if_pos e] at hv; cases hv
      · rw [if_neg e] at hv; exact .inr hv) hs (fun k hk => domB_spec hdom k hk) hag

/-! ### a store of a value that holds owned slices or maps -/
def singleF (F : FS) : List Cell → Bool
  | [] => true
  | .own j :: r => match F.bl j with
    | some (.vec _ _) => singleF F r
    | some (.mp _ _) => singleF F r
    | _ => false
  | c :: r => match c.single with
    | true => singleF F r
    | false => false
def ownsC : List Cell → List Nat
  | [] => []
  | .own j :: r => j :: ownsC r
  | _ :: r => ownsC r
theorem singleF_same {F F' : FS} : ∀ {cs : List Cell}, (∀ j ∈ ownsC cs, F'.bl j = F.bl j) → singleF F cs = true → singleF F' cs = true
  | [], _, _ => rfl
  | c :: r, hb, h => by
    cases c with
    | own j =>
      simp only [singleF] at h ⊢
      rw [hb j (by simp [ownsC])]
      have hr : ∀ k ∈ ownsC r, F'.bl k = F.bl k := fun k hk => hb k (by simp [ownsC, hk])
      split at h
      · exact singleF_same hr h
      · exact singleF_same hr h
      · cases h
    | _ =>
      simp only [singleF] at h ⊢
      split at h
      · exact singleF_same (fun k hk => hb k (by simpa [ownsC] using hk)) h
      · cases h
theorem singleF_rep {F : FS} {ρ : Env} {M : Mem} {w : World} (hr : RelW C F.bl ρ M w) : ∀ {cs : List Cell} {vs : List Value}, singleF F cs = true → Reps ρ M cs vs → ∀ u ∈ vs, notMany u = true
  | [], [], _, _, u, hu => by cases hu
  | [], _ :: _, _, h, _, _ => h.elim
  | _ :: _, [], _, h, _, _ => h.elim
  | c :: r, v :: vs, hs, h, u, hu => by
    cases c with
    | own j =>
      have hv : v = ρ j := h.1
      simp only [singleF] at hs
      split at hs
      · rename_i sz l e
        rcases List.mem_cons.1 hu with e2 | e2
        · obtain ⟨a, cap, e3, _⟩ := hr.inv j _ e
          rw [e2, hv, e3]; rfl
        · exact singleF_rep hr hs h.2 u e2
      · rename_i agg l e
        rcases List.mem_cons.1 hu with e2 | e2
        · obtain ⟨r0, es, cl, f, e3, _⟩ := hr.inv j _ e
          rw [e2, hv, e3]; rfl
        · exact singleF_rep hr hs h.2 u e2
      · cases hs
    | _ =>
      simp only [singleF] at hs
      split at hs
      · rename_i e
        rcases List.mem_cons.1 hu with e2 | e2
        · rw [e2]; exact single_rep e h.1
        · exact singleF_rep hr hs h.2 u e2
      · cases hs
theorem cells_repF {F : FS} {ρ : Env} {M : Mem} {w : World} (hr : RelW C F.bl ρ M w) {x : A1} (hs : singleF F x.cells = true) {v : Value} (hx : x.rep ρ M v) : Reps ρ M x.cells v.cells.toList := by
  cases x with
  | c y =>
    have := singleF_rep hr hs (show Reps ρ M [y] [v] from ⟨hx, trivial⟩) v (by simp)
    rw [notMany_cells this]
    exact ⟨hx, trivial⟩
  | agg cs => obtain ⟨arr, rfl, h2⟩ := hx; exact h2
theorem triStoreF {t : TypeId} {x y : Operand} {j off : Nat} {cs cs' : List Cell} {u : TypeId} {v : A1} {n : Nat} {b : Bool}
    (hx : opnd F x = some (.s (.c (.loc j off)))) (hj : F.bl j = some (.blk cs u)) (hy : opnd F y = some (.s v)) (hs : singleF F v.cells = true) (ht : tinfo P t = some (n, b)) (hl : Nat.beq v.cells.length n = true)
    (hle : Nat.ble (off + n) cs.length = true) (hc : setCells cs off v.cells = cs') :
    TriL P C ops ⟨none, .store t x y, ty, pos, after, none⟩ ⟨slotsOf [x, y], j :: ownsC v.cells, [], [j]⟩ [] [(j, .blk cs' u)] F := by
  refine ⟨⟨rfl, rfl⟩, fun F' hS => ?_⟩
  have h1 := opnd_same hS.1
  have hj' : F'.bl j = some (.blk cs u) := (hS.2 j (by simp)).trans hj
  have hs' := singleF_same (F' := F') (fun k hk => hS.2 k (by simp [hk])) hs
  have hx' := (h1 x (by simp)).trans hx
  have hy' := (h1 y (by simp)).trans hy
  refine Tri.eff rfl rfl (fun k hk => dom_over hk) (fun ρ M a w hr => ?_)
  have hl' : v.cells.length = n := Nat.eq_of_beq_eq_true hl
  have ex : a.eval x = ptr ρ j off := opnd_rep hr hx'
  have ey : v.rep ρ M (a.eval y) := opnd_rep hr hy'
  obtain ⟨⟨arr, g1, g2⟩, g3⟩ := hr.heap.inv _ _ hj'
  have hcr := cells_repF hr.heap hs' ey
  have hnm : ∀ u ∈ (a.eval y).cells.toList, notMany u = true := singleF_rep hr.heap hs' hcr
  have hlen := hcr.len
  have hcl := g2.len
  have hle' := Nat.le_of_ble_eq_true hle
  obtain ⟨w', q1, q2, q3, q4, q5, q6, q7⟩ := storeCells_run (P := P) (off := off) (a.eval y).cells.toList 0 w arr g1 hnm (by have e : arr.size = cs.length := (by simpa using hcl); rw [hlen, hl']; omega)
  refine ⟨w', M, ?_, Mem.le_refl _, fun ρ' h0 => ?_⟩
  · unfold execOp
    simp only [ex, ptr]
    have hsv : (storeVar t ⟨blockOf (ρ j), off, none⟩ (a.eval y)).run P w = .ok () w' := by
      unfold storeVar
      rw [run_bind_ok (tinfo_size ht w)]
      rw [if_neg (by simp at hlen; simp [hlen, hl'])]
      exact q1
    show (do storeVar t ⟨blockOf (ρ j), off, none⟩ (a.eval y); pure Next.skip : Sem Next).run P w = _
    rw [run_bind_ok hsv]
    rfl
  · have ex' : a.eval x = ptr ρ' j off := opnd_rep h0 hx'
    have eb : blockOf (ρ' j) = blockOf (ρ j) := by have := ex'.symm.trans ex; simpa [ptr] using this
    obtain ⟨⟨arr', g1', g2'⟩, g3'⟩ := h0.heap.inv _ _ hj'
    rw [eb] at g1' g3'
    have ea : arr' = arr := by have := g1'.symm.trans g1; simpa using this
    subst ea
    have ey' : v.rep ρ' M (a.eval y) := opnd_rep h0 hy'
    refine h0.heap.change j (fun b => b = blockOf (ρ j)) ?_ ⟨q5, q6, q7, Nat.le_of_eq q4.symm⟩ (fun b _ hb => q3 b hb) (Mem.le_refl _) (fun _ _ _ => ⟨fun _ => rfl, rfl⟩) ?_ ?_
    · rintro b rfl _
      rw [← eb]
      exact h0.heap.priv j _ _ hj' rfl
    · rintro b (rfl | hb)
      · exact ⟨fun o v' hv' => (by rw [g3' o] at hv'; cases hv'), fun o ho => (by rw [h0.heap.mem.noObj g1'] at ho; cases ho)⟩
      · have := h0.heap.mem.none hb
        exact ⟨fun o v' hv' => (by rw [this.1 o] at hv'; cases hv'), fun o ho => (by rw [this.2] at ho; cases ho)⟩
    · intro k ob hk
      rw [over_one] at hk
      split at hk
      · rename_i e
        subst e
        cases hk
        refine .inr (.inr ⟨rfl, ⟨⟨_, by rw [eb]; exact q2, ?_⟩, by rw [eb]; exact g3'⟩, fun b hb => .inl (by cases hb; exact eb)⟩)
        rw [← hc]
        simpa using Reps.setMany off (cells_repF h0.heap hs' ey') g2'
      · rename_i e
        refine .inr (.inl ⟨hk, fun b hb hbe => ?_⟩)
        subst hbe
        exact e ((h0.heap.dist k j _ _ _ hk hj' hb (by show some _ = some _; rw [eb])).symm)

/-! ### short names for the walks -/
def dI (x : Int) : D := .v (.int .i64 x)
def dB (x : Bool) : D := .v (.bool x)
def dS (x : Str) : D := .v (.string x)
def cI (x : Int) : Cell := .d (.v (.int .i64 x))
def cB_ (x : Bool) : Cell := .d (.v (.bool x))
def cS (x : Str) : Cell := .d (.v (.string x))
def aI (x : Int) : A1 := .c (.d (.v (.int .i64 x)))
def aB (x : Bool) : A1 := .c (.d (.v (.bool x)))
def aS (x : Str) : A1 := .c (.d (.v (.string x)))
theorem OkOps.x {o : Op} {rest : List Oper} {Q : AState → Prop} {sl : List (Nat × AV)} {bl : List (Nat × Ob)} {nx : Nat} (x : A1) (he : evQ P ⟨look sl, look bl⟩ ty o = some x) (hs : sideOk ⟨look sl, look bl⟩ true o.operands.toList) (hn : Nat.blt dst C.n = true) (h : OkOps P C ops rest Q ⟨(dst, .s x) :: sl, bl, nx⟩) :
    OkOps P C ops (⟨some dst, o, ty, pos, after, none⟩ :: rest) Q ⟨sl, bl, nx⟩ := OkOps.q (triQ he hs hn) h
theorem OkD.x {o : Op} {rest : List Oper} {ss0 : List Sum} {Q : AState → Prop} {sl : List (Nat × AV)} {bl : List (Nat × Ob)} {nx : Nat} (x : A1) (he : evQ P ⟨look sl, look bl⟩ ty o = some x) (hs : sideOk ⟨look sl, look bl⟩ true o.operands.toList) (hn : Nat.blt dst C.n = true)
    (h : OkD P C ops rest (⟨slotsOf o.operands.toList, ldBlk ⟨look sl, look bl⟩ o, [dst], []⟩ :: ss0) Q ⟨(dst, .s x) :: sl, bl, nx⟩) : OkD P C ops (⟨some dst, o, ty, pos, after, none⟩ :: rest) ss0 Q ⟨sl, bl, nx⟩ := OkD.q (triQ he hs hn) h
theorem Ok.r1 {id : Nat} {o : Oper} {Q : Exit → AState → Prop} {st : AState} (h : OkOps P C #[o] [o] (Q .normal) st) : Ok P C (.region id #[o] false) Q st := Ok.region (l := [o]) h
end Go.E2

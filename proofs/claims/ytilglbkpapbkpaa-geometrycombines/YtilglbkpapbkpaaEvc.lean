/-
  Operations as steps with what they read and write; regions that draw their order.
-/
import Derived.Test.YtilglbkpapbkpaaEvb
namespace Go.Ev
open Go.RowKit (Below)
variable {P : Program} {C : Ctx}

/-- what an operation reads and writes: slots and objects -/
structure Sum where
  rs : List Nat
  rb : List Nat
  ws : List Nat
  wb : List Nat

/-- the operation, from every state that reads as F does where it looks -/
def TriL (P : Program) (C : Ctx) (ops : Array Oper) (o : Oper) (s : Sum) (Ws : List (Nat × AV)) (Wb : List (Nat × Ob)) (F : FS) : Prop :=
  (s.ws = Ws.map (·.1) ∧ s.wb = Wb.map (·.1)) ∧ ∀ F', Same F' F s.rs s.rb → Tri P C ops o F' (F'.upd Ws Wb)
theorem TriL.tri {ops : Array Oper} {o : Oper} {s : Sum} {Ws : List (Nat × AV)} {Wb : List (Nat × Ob)} {F : FS} (h : TriL P C ops o s Ws Wb F) : Tri P C ops o F (F.upd Ws Wb) :=
  h.2 F ⟨fun _ _ => rfl, fun _ _ => rfl⟩

section ops
variable {F : FS} {ops : Array Oper} {dst : Nat} {op : Op} {ty : TypeId} {pos : String} {after : Array Edge}

theorem triQ {x : A1} (he : evQ P F ty op = some x) (hs : sideOk F true op.operands.toList) (hn : Nat.blt dst C.n = true) :
    TriL P C ops ⟨some dst, op, ty, pos, after, none⟩ ⟨slotsOf op.operands.toList, ldBlk F op, [dst], []⟩ [(dst, .s x)] [] F := by
  refine ⟨⟨rfl, rfl⟩, fun F' hS => ?_⟩
  have h1 := opnd_same hS.1
  refine Tri.quiet rfl rfl hn (fun ρ M a w hr _ => evQ_run hr (reads_of hr rfl (sideOk_same h1 hs)) ?_)
  exact (evQ_same h1 hS.2).trans he

def gSlot (ops : Array Oper) (k : Nat) : List Nat :=
  match (ops[k]?).bind (·.dst) with
  | some t => [t]
  | none => []
theorem guardB_same {F' : FS} {k : Nat} {want : Bool} (h : ∀ t ∈ gSlot ops k, F'.sl t = F.sl t) : guardB F' ops k want = guardB F ops k want := by
  unfold guardB
  unfold gSlot at h
  cases hk : (ops[k]?).bind (·.dst) with
  | none => rfl
  | some t =>
    rw [hk] at h
    simp only
    rw [h t (by simp)]

theorem triQG {x : A1} {k : Nat} {want g : Bool} (hb : guardB F ops k want = some g) (he : evQ P F ty op = some x) (hs : sideOk F g op.operands.toList) (hn : Nat.blt dst C.n = true) :
    TriL P C ops ⟨some dst, op, ty, pos, after, some (k, want)⟩ ⟨gSlot ops k ++ slotsOf op.operands.toList, ldBlk F op, [dst], []⟩ [(dst, .gd g x)] [] F := by
  refine ⟨⟨rfl, rfl⟩, fun F' hS => ?_⟩
  have h1 := opnd_same (F := F) (F' := F') (xs := op.operands.toList) (fun t ht => hS.1 t (by simp [ht]))
  refine Tri.quietG rfl ((guardB_same (fun t ht => hS.1 t (by simp [ht]))).trans hb) rfl hn (fun ρ M a w hr hg => evQ_run hr (reads_of hr hg (sideOk_same h1 hs)) ?_)
  exact (evQ_same h1 hS.2).trans he

/-! ### pick -/
def gval (F : FS) (x : Operand) : Option (Bool × Bool) :=
  match opnd F x with
  | some (.s (.c (.v (.bool b)))) => some (true, b)
  | some (.gd g (.c (.v (.bool b)))) => some (g, b)
  | _ => none
theorem gval_same {F' : FS} {x : Operand} (h : opnd F' x = opnd F x) : gval F' x = gval F x := by unfold gval; rw [h]
theorem gval_eval {ρ : Env} {M : Mem} {a : Act} {w : World} (hr : Rel0 C F ρ M a w) {x : Operand} {g b : Bool} (h : gval F x = some (g, b)) (hg : g = true) : a.eval x = .bool b := by
  unfold gval at h
  split at h
  · rename_i b' h'
    simp only [Option.some.injEq, Prod.mk.injEq] at h
    obtain ⟨_, rfl⟩ := h
    exact opnd_den hr h'
  · rename_i g' b' h'
    simp only [Option.some.injEq, Prod.mk.injEq] at h
    obtain ⟨rfl, rfl⟩ := h
    rw [opnd_den hr h', AV.den, hg, if_pos rfl]; rfl
  · cases h
theorem pick_run {ρ : Env} {M : Mem} {a : Act} {w : World} {o : Oper} {c x y : Operand} {gc bc gx bx gy by' r : Bool} (hr : Rel0 C F ρ M a w) (ho : o.op = .pick c x y) (hc : gval F c = some (gc, bc)) (hx : gval F x = some (gx, bx)) (hy : gval F y = some (gy, by'))
    (hgc : gc = true) (h1 : bc = true → gx = true ∧ r = bx) (h2 : bc = false → gy = true ∧ r = by') : (execOp a.eval o).run P w = .ok (.value (.bool r)) w := by
  unfold execOp; simp only [ho]
  rw [gval_eval hr hc hgc]
  cases bc with
  | true =>
    obtain ⟨h3, rfl⟩ := h1 rfl
    rw [gval_eval hr hx h3]; rfl
  | false =>
    obtain ⟨h3, rfl⟩ := h2 rfl
    rw [gval_eval hr hy h3]; rfl
theorem triAnd {c x : Operand} {bc gx bx : Bool} (hc : gval F c = some (true, bc)) (hx : gval F x = some (gx, bx)) (hs : bc = true → gx = true) (hn : Nat.blt dst C.n = true) :
    TriL P C ops ⟨some dst, .pick c x (.const (.bool false)), ty, pos, after, none⟩ ⟨slotsOf [c, x], [], [dst], []⟩ [(dst, .s (.c (.v (.bool (bc && bx)))))] [] F := by
  refine ⟨⟨rfl, rfl⟩, fun F' hS => ?_⟩
  have h1 := opnd_same hS.1
  exact Tri.quiet (x := .c (.v (.bool (bc && bx)))) rfl rfl hn (fun _ _ _ _ hr _ => pick_run hr rfl ((gval_same (h1 c (by simp))).trans hc) ((gval_same (h1 x (by simp))).trans hx) (gy := true) (by' := false) rfl rfl (fun e => ⟨hs e, by simp [e]⟩) (fun e => ⟨rfl, by simp [e]⟩))
theorem triOr {c x : Operand} {bc gx bx : Bool} (hc : gval F c = some (true, bc)) (hx : gval F x = some (gx, bx)) (hs : bc = false → gx = true) (hn : Nat.blt dst C.n = true) :
    TriL P C ops ⟨some dst, .pick c (.const (.bool true)) x, ty, pos, after, none⟩ ⟨slotsOf [c, x], [], [dst], []⟩ [(dst, .s (.c (.v (.bool (bc || bx)))))] [] F := by
  refine ⟨⟨rfl, rfl⟩, fun F' hS => ?_⟩
  have h1 := opnd_same hS.1
  exact Tri.quiet (x := .c (.v (.bool (bc || bx)))) rfl rfl hn (fun _ _ _ _ hr _ => pick_run hr rfl ((gval_same (h1 c (by simp))).trans hc) (gx := true) (bx := true) rfl ((gval_same (h1 x (by simp))).trans hx) rfl (fun e => ⟨rfl, by simp [e]⟩) (fun e => ⟨hs e, by simp [e]⟩))
theorem triAndG {c x : Operand} {k : Nat} {want g gc bc gx bx : Bool} (hb : guardB F ops k want = some g) (hc : gval F c = some (gc, bc)) (hx : gval F x = some (gx, bx)) (hgc : g = true → gc = true) (hs : g = true → bc = true → gx = true) (hn : Nat.blt dst C.n = true) :
    TriL P C ops ⟨some dst, .pick c x (.const (.bool false)), ty, pos, after, some (k, want)⟩ ⟨gSlot ops k ++ slotsOf [c, x], [], [dst], []⟩ [(dst, .gd g (.c (.v (.bool (bc && bx)))))] [] F := by
  refine ⟨⟨rfl, rfl⟩, fun F' hS => ?_⟩
  have h1 := opnd_same (F := F) (F' := F') (xs := [c, x]) (fun t ht => hS.1 t (by simp [ht]))
  exact Tri.quietG (x := .c (.v (.bool (bc && bx)))) rfl ((guardB_same (fun t ht => hS.1 t (by simp [ht]))).trans hb) rfl hn (fun _ _ _ _ hr hg => pick_run hr rfl ((gval_same (h1 c (by simp))).trans hc) ((gval_same (h1 x (by simp))).trans hx) (gy := true) (by' := false) rfl (hgc hg) (fun e => ⟨hs hg e, by simp [e]⟩) (fun e => ⟨rfl, by simp [e]⟩))
theorem triOrG {c x : Operand} {k : Nat} {want g gc bc gx bx : Bool} (hb : guardB F ops k want = some g) (hc : gval F c = some (gc, bc)) (hx : gval F x = some (gx, bx)) (hgc : g = true → gc = true) (hs : g = true → bc = false → gx = true) (hn : Nat.blt dst C.n = true) :
    TriL P C ops ⟨some dst, .pick c (.const (.bool true)) x, ty, pos, after, some (k, want)⟩ ⟨gSlot ops k ++ slotsOf [c, x], [], [dst], []⟩ [(dst, .gd g (.c (.v (.bool (bc || bx)))))] [] F := by
  refine ⟨⟨rfl, rfl⟩, fun F' hS => ?_⟩
  have h1 := opnd_same (F := F) (F' := F') (xs := [c, x]) (fun t ht => hS.1 t (by simp [ht]))
  exact Tri.quietG (x := .c (.v (.bool (bc || bx)))) rfl ((guardB_same (fun t ht => hS.1 t (by simp [ht]))).trans hb) rfl hn (fun _ _ _ _ hr hg => pick_run hr rfl ((gval_same (h1 c (by simp))).trans hc) (gx := true) (bx := true) rfl ((gval_same (h1 x (by simp))).trans hx) (hgc hg) (fun e => ⟨rfl, by simp [e]⟩) (fun e => ⟨hs hg e, by simp [e]⟩))

/-! ### new blocks -/
theorem RelW.alloc {bl : Nat → Option Ob} {ρ : Env} {M : Mem} {w : World} {cs : List Cell} {t : TypeId} {j : Nat} (h : RelW C bl ρ M w) (hj : bl j = none) (hρ : ρ j = .pointer (some ⟨w.heap.size, 0, none⟩)) :
    RelW C (over [(j, .blk cs t)] bl) ρ M (w.alloc (.cells (cs.map (Cell.den ρ)).toArray t)) := by
  have hlt : ∀ (i : Nat) cs ty, bl i = some (Ob.blk cs ty) → blockOf (ρ i) < w.heap.size := fun i cs ty hi => by
    have := h.objs i cs ty hi
    exact (Array.getElem?_eq_some_iff.1 this).1
  have hb : blockOf (ρ j) = w.heap.size := by rw [hρ]; rfl
  have hM : M w.heap.size = none := by
    cases hm : M w.heap.size with
    | none => rfl
    | some o => have := h.mem _ _ hm; simp at this
  refine ⟨?_, ?_, ?_, ?_, ?_, ?_⟩
  · intro i cs' ty hi
    rw [over_one] at hi
    split at hi
    · rename_i hi'
      subst hi'
      simp only [Option.some.injEq, Ob.blk.injEq] at hi
      obtain ⟨rfl, rfl⟩ := hi
      rw [hb]
      show (w.heap.push _)[w.heap.size]? = _
      simp
    · have := h.objs i cs' ty hi
      show (w.heap.push _)[blockOf (ρ i)]? = _
      rw [Array.getElem?_push, if_neg (by have := hlt i cs' ty hi; omega)]
      exact this
  · intro i k c1 t1 c2 t2 hi hk hik
    rw [over_one] at hi hk
    split at hi <;> split at hk
    · omega
    · rename_i h1 h2
      subst h1
      have := hlt k _ _ hk
      omega
    · rename_i h1 h2
      subst h2
      have := hlt i _ _ hi
      omega
    · exact h.dist i k _ _ _ _ hi hk hik
  · intro i c1 t1 hi
    rw [over_one] at hi
    split at hi
    · rename_i h1
      subst h1
      rw [hb]
      exact ⟨hM, .inl h.kept.size⟩
    · exact h.priv i _ _ hi
  · intro i f hi
    rw [over_one] at hi
    split at hi
    · cases hi
    · exact h.fact i f hi
  · intro b o hb
    have := h.mem b o hb
    have hb' := (Array.getElem?_eq_some_iff.1 this).1
    show (w.heap.push _)[b]? = _
    rw [Array.getElem?_push, if_neg (by omega)]
    exact this
  · refine h.kept.trans ⟨rfl, rfl, rfl, by simp, fun k hk _ => ?_⟩
    show (w.heap.push _)[k]? = _
    rw [Array.getElem?_push, if_neg (by omega)]

theorem Tri.made {o : Oper} {d j : Nat} {cs : List Cell} {t : TypeId} (hg : o.guard = none) (hd : o.dst = some d) (hn : Nat.blt d C.n = true) (hj : F.bl j = none)
    (hq : ∀ ρ M a w, Rel0 C F ρ M a w → (execOp a.eval o).run P w = .ok (.value (.pointer (some ⟨w.heap.size, 0, none⟩))) (w.alloc (.cells (cs.map (Cell.den ρ)).toArray t))) :
    Tri P C ops o F (F.upd [(d, .s (.c (.loc j 0)))] [(j, .blk cs t)]) := by
  intro Q' K' hK ρ M a w hr
  rw [if_pos (wanted_none hg)]
  refine .inl ?_
  unfold Oper.wp
  rw [hq ρ M a w hr.at]
  show K' (a.put o.dst _) _
  rw [hd]
  refine hK (fun i => if i = j then .pointer (some ⟨w.heap.size, 0, none⟩) else ρ i) M _ _ fun ρ' ha => ?_
  have hag : Agree F.bl ρ ρ' := fun i hi => by
    have hne : i ≠ j := fun e => hi (e ▸ hj)
    have := ha i (by
      show over _ F.bl i ≠ none
      rw [over_one, if_neg (Ne.symm hne)]; exact hi)
    rw [this]; exact if_neg hne
  have hnx : ρ' j = .pointer (some ⟨w.heap.size, 0, none⟩) := by
    have := ha j (by
      show over _ F.bl j ≠ none
      rw [over_one, if_pos rfl]; simp)
    rw [this]; exact if_pos rfl
  have h0 := hr ρ' hag
  have e : w.alloc (.cells (cs.map (Cell.den ρ)).toArray t) = w.alloc (.cells (cs.map (Cell.den ρ')).toArray t) := by
    have := (hq ρ M a w hr.at).symm.trans (hq ρ' M a w h0)
    simpa using this
  rw [e]
  exact h0.put (Nat.blt_eq.mp hn) (by simp [AV.den, A1.den, Cell.den, hnx, blockOf]) (h0.heap.alloc hj hnx)

theorem triBox {t : TypeId} {x : Operand} {y : A1} {j : Nat} {cs : List Cell} (hx : opnd F x = some (.s y)) (hp : plain1 y = true) (hcs : y.cells = cs) (hn : Nat.blt dst C.n = true) (hj : F.bl j = none) :
    TriL P C ops ⟨some dst, .box t x, ty, pos, after, none⟩ ⟨slotsOf [x], [j], [dst], [j]⟩ [(dst, .s (.c (.loc j 0)))] [(j, .blk cs t)] F := by
  subst hcs
  refine ⟨⟨rfl, rfl⟩, fun F' hS => ?_⟩
  have h1 := opnd_same hS.1
  refine Tri.made (cs := y.cells) (t := t) rfl rfl hn ((hS.2 j (by simp)).trans hj) (fun ρ M a w hr => ?_)
  unfold execOp
  simp only [opnd_den hr ((h1 x (by simp)).trans hx), AV.den, Instr.box, newVar, newRow, A1.cells_den hp]
  rfl

theorem triAlloc {t : TypeId} {l : List Value} {j : Nat} {cs : List Cell} (hz : zeroCells P t = some l) (hcs : l.map Cell.v = cs) (hn : Nat.blt dst C.n = true) (hj : F.bl j = none) :
    TriL P C ops ⟨some dst, .alloc t, ty, pos, after, none⟩ ⟨[], [j], [dst], [j]⟩ [(dst, .s (.c (.loc j 0)))] [(j, .blk cs t)] F := by
  subst hcs
  refine ⟨⟨rfl, rfl⟩, fun F' hS => ?_⟩
  refine Tri.made (cs := l.map .v) (t := t) rfl rfl hn ((hS.2 j (by simp)).trans hj) (fun ρ M a w hr => ?_)
  obtain ⟨v, hv, hc⟩ := zeroCells_run hz w
  unfold execOp
  simp only [Instr.alloc]
  refine bind_value ?_
  rw [run_bind_ok hv]
  simp only [newVar, newRow, hc]
  simp [List.map_map, Function.comp_def, Cell.den]

/-! ### a store into an owned block -/
def notMany : Value → Bool
  | .agg _ => false
  | .tuple _ => false
  | _ => true
def Cell.single : Cell → Bool
  | .v x => notMany x
  | .loc _ _ => true
  | .sym _ => false
def allSingle : List Cell → Bool
  | [] => true
  | x :: r => match x.single with
    | true => allSingle r
    | false => false
theorem allSingle_cons {x : Cell} {r : List Cell} (h : allSingle (x :: r) = true) : x.single = true ∧ allSingle r = true := by
  simp only [allSingle] at h
  split at h
  · rename_i hx; exact ⟨hx, h⟩
  · cases h

theorem RelW.setCell {bl : Nat → Option Ob} {ρ : Env} {M : Mem} {w : World} {cs : List Cell} {t : TypeId} {j off : Nat} {x : Cell} (h : RelW C bl ρ M w) (hj : bl j = some (.blk cs t)) :
    RelW C (over [(j, .blk (cs.set off x) t)] bl) ρ M (w.setCell ⟨blockOf (ρ j), off, none⟩ (x.den ρ)) := by
  have hb := h.objs j cs t hj
  have hblk : ∀ k, k ≠ blockOf (ρ j) → (w.setCell ⟨blockOf (ρ j), off, none⟩ (x.den ρ)).heap[k]? = w.heap[k]? := fun k hk => by
    simp only [World.setCell, Array.getElem?_modify]; rw [if_neg (by omega)]
  refine ⟨?_, ?_, ?_, ?_, ?_, ?_⟩
  · intro i cs' ty hi
    rw [over_one] at hi
    split at hi
    · rename_i e
      subst e
      simp only [Option.some.injEq, Ob.blk.injEq] at hi
      obtain ⟨rfl, rfl⟩ := hi
      simp only [World.setCell, Array.getElem?_modify, if_pos, hb, Option.map_some]
      simp [List.map_set]
    · rename_i e
      rw [hblk _ (fun e2 => e (h.dist i j _ _ _ _ hi hj e2).symm)]
      exact h.objs i cs' ty hi
  · intro i k c1 t1 c2 t2 hi hk hik
    rw [over_one] at hi hk
    have hi' : ∃ c t, bl i = some (.blk c t) := by
      split at hi
      · rename_i e; subst e; exact ⟨_, _, hj⟩
      · exact ⟨_, _, hi⟩
    have hk' : ∃ c t, bl k = some (.blk c t) := by
      split at hk
      · rename_i e; subst e; exact ⟨_, _, hj⟩
      · exact ⟨_, _, hk⟩
    obtain ⟨_, _, h1⟩ := hi'
    obtain ⟨_, _, h2⟩ := hk'
    exact h.dist i k _ _ _ _ h1 h2 hik
  · intro i c1 t1 hi
    rw [over_one] at hi
    split at hi
    · rename_i e; subst e; exact h.priv _ _ _ hj
    · exact h.priv _ _ _ hi
  · intro i f hi
    rw [over_one] at hi
    split at hi
    · cases hi
    · exact h.fact i f hi
  · intro b o hbo
    rw [hblk b (fun e => by rw [e, (h.priv j _ _ hj).1] at hbo; cases hbo)]
    exact h.mem b o hbo
  · have hp := (h.priv j _ _ hj).2
    refine ⟨h.kept.os, h.kept.tape, h.kept.output, by simpa [World.setCell] using h.kept.size, fun k hk hg => ?_⟩
    rw [hblk k ?_]
    · exact h.kept.block k hk hg
    · rintro rfl
      rcases hp with hp | hp
      · omega
      · exact hg hp

theorem store_run {w : World} {b off : Nat} {arr : Array Value} {ty : TypeId} {v u : Value} (h : w.heap[b]? = some (.cells arr ty (0, 0))) (hv : arr[off]? = some u) (hs : notMany v = true) :
    (store ⟨b, off, none⟩ v).run P w = .ok () (w.setCell ⟨b, off, none⟩ v) := by
  have hc : w.cell? ⟨b, off, none⟩ = some u := by simp [World.cell?, h, hv]
  have hf : w.frozen? ⟨b, off, none⟩ = false := by simp [World.frozen?, h]
  cases v <;> first | (simp [store, Sem.run, hc, hf]; done) | cases hs
theorem single_notMany {x : Cell} (h : x.single = true) (ρ : Env) : notMany (x.den ρ) = true := by
  cases x with
  | v u => exact h
  | loc j off => rfl
  | sym j => cases h
theorem over_again {α : Type} (j : Nat) (u v : α) (f : Nat → Option α) : over [(j, v)] (over [(j, u)] f) = over [(j, v)] f := by
  funext n
  rw [over_one, over_one, over_one]
  by_cases h : j = n <;> simp [h]
theorem over_self {α : Type} {j : Nat} {v : α} {f : Nat → Option α} (h : f j = some v) : over [(j, v)] f = f := by
  funext n
  rw [over_one]
  by_cases e : j = n
  · subst e; simp [h]
  · simp [e]

theorem storeCells_run {ρ : Env} {M : Mem} {j : Nat} {t : TypeId} (off : Nat) : ∀ (xs : List Cell) (i : Nat) (bl : Nat → Option Ob) (w : World) (cs : List Cell), RelW C bl ρ M w → bl j = some (.blk cs t) → allSingle xs = true → off + i + xs.length ≤ cs.length →
    ∃ w', (storeCells ⟨blockOf (ρ j), off, none⟩ (xs.map (Cell.den ρ)) i).run P w = .ok () w' ∧ RelW C (over [(j, .blk (setCells cs (off + i) xs) t)] bl) ρ M w'
  | [], i, bl, w, cs, h, hj, _, _ => ⟨w, rfl, by simp only [setCells]; rw [over_self hj]; exact h⟩
  | x :: r, i, bl, w, cs, h, hj, ha, hl => by
    obtain ⟨h1, h2⟩ := allSingle_cons ha
    simp only [List.length_cons] at hl
    have hlt : off + i < cs.length := by omega
    have hb := h.objs j cs t hj
    have hst : (store ((Addr.mk (blockOf (ρ j)) off none).add i) (x.den ρ)).run P w = .ok () (w.setCell ⟨blockOf (ρ j), off + i, none⟩ (x.den ρ)) := by
      rw [add_none]
      exact store_run hb (u := cs[off + i].den ρ) (by simp [hlt]) (single_notMany h1 ρ)
    have hr := h.setCell (x := x) (off := off + i) hj
    obtain ⟨w', hw', hR⟩ := storeCells_run off r (i + 1) _ _ (cs.set (off + i) x) hr (by rw [over_one, if_pos rfl]) h2 (by simp; omega)
    refine ⟨w', ?_, ?_⟩
    · simp only [List.map_cons, storeCells]
      rw [run_bind_ok hst]
      exact hw'
    · simp only [setCells]
      rw [over_again] at hR
      exact hR

theorem Tri.turned {o : Oper} {Wb : List (Nat × Ob)} (hg : o.guard = none) (hd : o.dst = none) (hdom : ∀ j, F.bl j ≠ none → over Wb F.bl j ≠ none)
    (hq : ∀ ρ M a w, Rel0 C F ρ M a w → ∃ w', (execOp a.eval o).run P w = .ok .skip w' ∧ RelW C (over Wb F.bl) ρ M w') : Tri P C ops o F (F.upd [] Wb) := by
  intro Q' K' hK ρ M a w hr
  rw [if_pos (wanted_none hg)]
  refine .inl ?_
  unfold Oper.wp
  obtain ⟨w', hw', _⟩ := hq ρ M a w hr.at
  rw [hw']
  show K' (a.put o.dst _) _
  rw [hd]
  refine hK ρ M _ _ fun ρ' ha => ?_
  have h0 := hr ρ' (fun j hj => ha j (hdom j hj))
  obtain ⟨w2, hw2, hR⟩ := hq ρ' M a w h0
  have e : w' = w2 := by have := hw'.symm.trans hw2; simpa using this
  subst e
  exact ⟨h0.defers, h0.size, by rw [FS.upd, over_nil]; exact h0.slots, hR⟩

theorem triStore {t : TypeId} {x y : Operand} {j off : Nat} {cs cs' : List Cell} {u : TypeId} {v : A1} {n : Nat} {b : Bool}
    (hx : opnd F x = some (.s (.c (.loc j off)))) (hj : F.bl j = some (.blk cs u)) (hy : opnd F y = some (.s v)) (hp : plain1 v = true) (hs : allSingle v.cells = true) (ht : tinfo P t = some (n, b)) (hl : Nat.beq v.cells.length n = true)
    (hle : Nat.ble (off + n) cs.length = true) (hc : setCells cs off v.cells = cs') :
    TriL P C ops ⟨none, .store t x y, ty, pos, after, none⟩ ⟨slotsOf [x, y], [j], [], [j]⟩ [] [(j, .blk cs' u)] F := by
  refine ⟨⟨rfl, rfl⟩, fun F' hS => ?_⟩
  have h1 := opnd_same hS.1
  have hj' : F'.bl j = some (.blk cs u) := (hS.2 j (by simp)).trans hj
  refine Tri.turned rfl rfl (fun k hk => ?_) (fun ρ M a w hr => ?_)
  · rw [over_one]; by_cases e : j = k <;> simp [e, hk]
  have hl' : v.cells.length = n := Nat.eq_of_beq_eq_true hl
  obtain ⟨w', hw', hR⟩ := storeCells_run (P := P) off v.cells 0 F'.bl w cs hr.heap hj' hs (by rw [hl']; simpa using Nat.le_of_ble_eq_true hle)
  refine ⟨w', ?_, by rw [← hc]; exact hR⟩
  unfold execOp
  simp only [opnd_den hr ((h1 x (by simp)).trans hx), opnd_den hr ((h1 y (by simp)).trans hy), AV.den, Instr.storeAt]
  have : (storeVar t ⟨blockOf (ρ j), off, none⟩ (v.den ρ)).run P w = .ok () w' := by
    unfold storeVar
    rw [run_bind_ok (tinfo_size ht w)]
    rw [if_neg (by rw [A1.cells_den hp]; simp [hl'])]
    rw [A1.cells_den hp]
    exact hw'
  show (do storeVar t ⟨blockOf (ρ j), off, none⟩ (v.den ρ); pure Next.skip : Sem Next).run P w = _
  rw [run_bind_ok this]
  rfl

/-! ### a call that leaves what was there alone and hands back a value -/
def Pure (P : Program) (f : FuncId) (args : List Value) (r : Value) : Prop :=
  ∀ w, Calls P f args.toArray w fun e w' => e = .returned r ∧ Below w.heap.size w w'
theorem RelW.below {bl : Nat → Option Ob} {ρ : Env} {M : Mem} {w w' : World} (h : RelW C bl ρ M w) (hb : Below w.heap.size w w') : RelW C bl ρ M w' := by
  have hlt : ∀ k o, w.heap[k]? = some o → w'.heap[k]? = some o := fun k o hk => by
    rw [hb.block k (Array.getElem?_eq_some_iff.1 hk).1]; exact hk
  refine ⟨fun j cs ty hj => hlt _ _ (h.objs j cs ty hj), h.dist, h.priv, h.fact, fun b o ho => hlt _ _ (h.mem b o ho), ?_⟩
  exact h.kept.trans ⟨hb.os, hb.tape, hb.output, hb.size, fun k hk _ => hb.block k hk⟩
def ofR : Value → AV
  | .tuple vs => .tup (vs.toList.map ofV)
  | v => .s (ofV v)
theorem ofR_den (v : Value) (ρ : Env) : (ofR v).den ρ = v := by
  cases v <;> simp [ofR, AV.den, ofV_den, List.map_map, Function.comp_def]
theorem call_run {a : Act} {w : World} {f : FuncId} {args : Array Operand} {argTypes : Array TypeId} {vs : List Value} {fn : Func} {dst : Option Tmp} {ty : TypeId} {pos : String} {after : Array Edge} {gu : Option (Nat × Bool)}
    (e0 : args.toList.map a.eval = vs) (hf : P.funcs[f]? = some fn) (hn : (fn.name == "runtime.NumGoroutine") = false) (hb : fn.body.isNone = false) :
    (execOp a.eval ⟨dst, .call ⟨.value (.func f), args, argTypes⟩, ty, pos, after, gu⟩).run P w = .ok (.enter f vs.toArray) w := by
  unfold execOp
  have e1 : args.map a.eval = vs.toArray := by
    rw [← e0]; apply Array.ext'; simp
  simp only [resolve, e1, Act.eval, Deferred.ofValue, pure_bind, invoke, callFunc, Array.append_empty, Array.empty_append]
  show (Sem.program _).run P w = _
  simp only [Sem.run, Sem.bind, hf]
  rw [if_neg (by rw [hn]; simp), if_neg (by rw [hb]; simp)]
  rfl
/-- the function's entry: it has a Go body -/
def Entry (P : Program) (f : FuncId) : Prop := ∃ fn, P.funcs[f]? = some fn ∧ (fn.name == "runtime.NumGoroutine") = false ∧ fn.body.isNone = false

theorem triCallP {f : FuncId} {args : Array Operand} {argTypes : Array TypeId} {vs : List Value} {r : Value} {x : AV} (hv : rdVs F args.toList = some vs) (hs : sideOk F true args.toList) (hf : Entry P f) (hc : Pure P f vs r) (hx : ofR r = x) (hn : Nat.blt dst C.n = true) :
    TriL P C ops ⟨some dst, .call ⟨.value (.func f), args, argTypes⟩, ty, pos, after, none⟩ ⟨slotsOf args.toList, [], [dst], []⟩ [(dst, x)] [] F := by
  subst hx
  refine ⟨⟨rfl, rfl⟩, fun F' hS => ?_⟩
  have h1 := opnd_same hS.1
  intro Q' K' hK ρ M a w hr
  obtain ⟨fn, hf1, hf2, hf3⟩ := hf
  rw [if_pos (wanted_none rfl)]
  refine .inl ?_
  unfold Oper.wp
  rw [call_run (rdVs_eval (reads_of hr.at rfl (sideOk_same h1 hs)) ((rdVs_same h1).trans hv)) hf1 hf2 hf3]
  show Calls P f vs.toArray w _
  refine (hc w).mono ?_
  rintro e w' ⟨rfl, hb⟩
  show K' (a.put (some dst) r) w'
  refine hK ρ M _ _ fun ρ' ha => ?_
  have h0 := hr ρ' (fun j hj => ha j (by rw [FS.upd, over_nil]; exact hj))
  exact h0.put (Nat.blt_eq.mp hn) (ofR_den r ρ').symm (by rw [over_nil]; exact h0.heap.below hb)

theorem triCallPG {f k : Nat} {want g : Bool} {args : Array Operand} {argTypes : Array TypeId} {vs : List Value} {r : Value} {x : A1}
    (hb : guardB F ops k want = some g) (hv : rdVs F args.toList = some vs) (hs : sideOk F g args.toList) (hf : Entry P f) (hc : g = true → Pure P f vs r) (hx : ofR r = .s x) (hn : Nat.blt dst C.n = true) :
    TriL P C ops ⟨some dst, .call ⟨.value (.func f), args, argTypes⟩, ty, pos, after, some (k, want)⟩ ⟨gSlot ops k ++ slotsOf args.toList, [], [dst], []⟩ [(dst, .gd g x)] [] F := by
  refine ⟨⟨rfl, rfl⟩, fun F' hS => ?_⟩
  have h1 := opnd_same (F := F) (F' := F') (xs := args.toList) (fun t ht => hS.1 t (by simp [ht]))
  have hb' := (guardB_same (want := want) (fun t ht => hS.1 t (by simp [ht]))).trans hb
  intro Q' K' hK ρ M a w hr
  obtain ⟨fn, hf1, hf2, hf3⟩ := hf
  rw [guardB_wanted hr.at rfl hb']
  cases g with
  | false =>
    rw [if_neg (by simp)]
    refine hK ρ M _ _ fun ρ' ha => ?_
    have h0 := hr ρ' (fun j hj => ha j (by rw [FS.upd, over_nil]; exact hj))
    exact h0.put (Nat.blt_eq.mp hn) rfl (by rw [over_nil]; exact h0.heap)
  | true =>
    rw [if_pos rfl]
    refine .inl ?_
    unfold Oper.wp
    rw [call_run (rdVs_eval (reads_of hr.at rfl (sideOk_same h1 hs)) ((rdVs_same h1).trans hv)) hf1 hf2 hf3]
    show Calls P f vs.toArray w _
    refine (hc rfl w).mono ?_
    rintro e w' ⟨rfl, hbl⟩
    show K' (a.put (some dst) r) w'
    refine hK ρ M _ _ fun ρ' ha => ?_
    have h0 := hr ρ' (fun j hj => ha j (by rw [FS.upd, over_nil]; exact hj))
    refine h0.put (Nat.blt_eq.mp hn) ?_ (by rw [over_nil]; exact h0.heap.below hbl)
    have := ofR_den r ρ'
    rw [hx] at this
    exact this.symm
end ops

section steps
variable {ops : Array Oper} {o : Oper} {rest : List Oper} {Q : AState → Prop} {sl : List (Nat × AV)} {bl : List (Nat × Ob)} {nx d j : Nat} {a : AV} {b : Ob} {s : Sum}
/-- one operation of a region in its own order: it yields a value -/
theorem OkOps.q (ht : TriL P C ops o s [(d, a)] [] ⟨look sl, look bl⟩) (h : OkOps P C ops rest Q ⟨(d, a) :: sl, bl, nx⟩) : OkOps P C ops (o :: rest) Q ⟨sl, bl, nx⟩ := OkOps.step (st := ⟨sl, bl, nx⟩) (nx' := nx) ht.tri h
/-- it makes an object -/
theorem OkOps.m (nx' : Nat) (ht : TriL P C ops o s [(d, a)] [(j, b)] ⟨look sl, look bl⟩) (h : OkOps P C ops rest Q ⟨(d, a) :: sl, (j, b) :: bl, nx'⟩) : OkOps P C ops (o :: rest) Q ⟨sl, bl, nx⟩ := OkOps.step (st := ⟨sl, bl, nx⟩) (nx' := nx') ht.tri h
/-- it writes -/
theorem OkOps.w (ht : TriL P C ops o s [] [(j, b)] ⟨look sl, look bl⟩) (h : OkOps P C ops rest Q ⟨sl, (j, b) :: bl, nx⟩) : OkOps P C ops (o :: rest) Q ⟨sl, bl, nx⟩ := OkOps.step (st := ⟨sl, bl, nx⟩) (nx' := nx) ht.tri h
end steps
end Go.Ev

/-
  Slices: an element, a part, a literal, append.
-/
import Derived.Test.YtcfegecdlbbeaaaDoorXc
import Derived.Test.YtcfegecdlbbeaaaDoorPu
namespace Go.E2
variable {P : Program} {C : Ctx} {F : FS} {ops : Array Oper} {dst : Nat} {op : Op} {ty : TypeId} {pos : String} {after : Array Edge}

def rdS (F : FS) (x : Operand) : Option (List (List D)) := match rd F x with
  | some y => slOf y
  | none => none
theorem rdS_same {F' : FS} {x : Operand} (h : opnd F' x = opnd F x) : rdS F' x = rdS F x := by unfold rdS; rw [rd_same h]
theorem rdS_rep {ρ : Env} {M : Mem} {a : Act} {xs : List Operand} (h : Reads F a ρ M xs) {x : Operand} (hx : x ∈ xs) {l : List (List D)} (hl : rdS F x = some l) : Rep M (.sl l) (a.eval x) := by
  unfold rdS at hl
  split at hl
  · rename_i y hy; exact slOf_rep hl (h x hx y hy)
  · cases hl
def allR (sz : Nat) {α : Type} (enc : α → List D) : Prop := ∀ x, (enc x).length = sz
theorem rows_map {sz : Nat} {α : Type} {enc : α → List D} (h : allR sz enc) (L : List α) : Rows sz (L.map enc) := fun row hr => by
  obtain ⟨x, _, rfl⟩ := List.mem_map.1 hr; exact h x
theorem Rows.eq {sz sz' : Nat} {l : List (List D)} (h : Rows sz l) (h' : Rows sz' l) (hne : l ≠ []) : sz = sz' := by
  cases l with
  | nil => exact absurd rfl hne
  | cons x r => rw [← h x (by simp), ← h' x (by simp)]

/-! ### an element -/
theorem idx_run {α : Type} {enc : α → List D} {L : List α} {M : Mem} {w : World} {v : Value} (hv : Rep M (.sl (L.map enc)) v) {t e sz : Nat} (ht : slInfo P t = some (e, sz)) (hsz : allR sz enc) {k : IntKind} {i : Int} {x : α} (hi : idxO L i = some x) :
    ∃ u, (Instr.indexAt t v (.int k i)).run P w = .ok u w ∧ PtRep M (enc x) u := by
  obtain ⟨h0, h1, h2⟩ := idxO_spec hi
  have hne : L.map enc ≠ [] := by
    intro e0
    have : L = [] := by simpa using e0
    subst this
    simp at h2
  obtain ⟨b, off, cap, sz', vs, rfl, hc, hrow, hrep, hm⟩ := hv.flat hne
  have e1 : sz' = sz := hrow.eq (rows_map hsz L) hne
  subst e1
  refine ⟨.pointer (some ⟨b, off + i.toNat * sz', none⟩), ?_, b, off + i.toNat * sz', rfl, fun j d hj => ?_⟩
  · have hl : (0 : Int) ≤ i ∧ i < ((L.map enc).length : Int) := ⟨h0, by simpa using h1⟩
    unfold Instr.indexAt
    have hk : (asIntOf (.int k i)).run P w = .ok (k, i) w := rfl
    rw [run_bind_ok hk]
    simp only
    have hu := slInfo_under ht w
    rw [run_bind_ok hu]
    simp only [pure_bind]
    rw [run_bind_ok hu]
    simp only [hl, and_self, if_true]
    rw [run_bind_ok (slInfo_size ht w)]
    rw [add_none]
    rfl
  · have hx : (L.map enc)[i.toNat]? = some (enc x) := by simp [h2]
    have hjl : j < sz' := by rw [← hsz x]; exact (List.getElem?_eq_some_iff.1 hj).1
    have hfl := flatten_get hrow i.toNat j (enc x) hx hjl
    obtain ⟨u, g1, g2⟩ := hrep.get _ d (by rw [hfl]; exact hj)
    exact ⟨u, by rw [Nat.add_assoc]; exact hm _ _ g1, g2⟩
theorem triIdx {α : Type} {enc : α → List D} {L : List α} {t e sz : Nat} {x i : Operand} {k : IntKind} {n : Int} {y : α} {row : List D} (hi : idxO L n = some y) (hrow : enc y = row) (hx : rdS F x = some (L.map enc)) (hn : rdV F i = some (.int k n)) (ht : slInfo P t = some (e, sz)) (hsz : allR sz enc) (hs : sideOk F true [x, i]) (hd : Nat.blt dst C.n = true) :
    TriL P C ops ⟨some dst, .indexAddr t x i, ty, pos, after, none⟩ ⟨slotsOf [x, i], [], [dst], []⟩ [(dst, .s (.c (.pt row)))] [] F := by
  subst hrow
  refine ⟨⟨rfl, rfl⟩, fun F' hS => ?_⟩
  have h1 := opnd_same hS.1
  refine Tri.quiet (x := .c (.pt (enc y))) rfl rfl hd (fun ρ M a w hr => ?_)
  have hR := reads_of hr rfl (sideOk_same h1 hs)
  obtain ⟨u, g1, g2⟩ := idx_run (P := P) (w := w) (rdS_rep hR (by simp) ((rdS_same (h1 x (by simp))).trans hx)) ht hsz (k := k) hi
  refine ⟨u, ?_, g2⟩
  unfold execOp
  simp only
  rw [rdV_eval hR (by simp) ((rdV_same (h1 i (by simp))).trans hn)]
  exact bind_value g1
theorem triIdxG {α : Type} {enc : α → List D} {L : List α} {t e sz : Nat} {x i : Operand} {k : IntKind} {n : Int} {y : α} {row : List D} {gk : Nat} {want g : Bool} (hi : g = true → idxO L n = some y) (hrow : enc y = row) (hb : guardB F ops gk want = some g) (hx : rdS F x = some (L.map enc)) (hn : rdV F i = some (.int k n)) (ht : slInfo P t = some (e, sz)) (hsz : allR sz enc) (hs : sideOk F g [x, i]) (hd : Nat.blt dst C.n = true) :
    TriL P C ops ⟨some dst, .indexAddr t x i, ty, pos, after, some (gk, want)⟩ ⟨gSlot ops gk ++ slotsOf [x, i], [], [dst], []⟩ [(dst, .gd g (.c (.pt row)))] [] F := by
  subst hrow
  refine ⟨⟨rfl, rfl⟩, fun F' hS => ?_⟩
  have h1 := opnd_same (F := F) (F' := F') (xs := [x, i]) (fun t ht => hS.1 t (by simp [ht]))
  refine Tri.quietG (x := .c (.pt (enc y))) rfl ((guardB_same (fun t ht => hS.1 t (by simp [ht]))).trans hb) rfl hd (fun hg ρ M a w hr => ?_)
  have hR := reads_of hr hg (sideOk_same h1 hs)
  obtain ⟨u, g1, g2⟩ := idx_run (P := P) (w := w) (rdS_rep hR (by simp) ((rdS_same (h1 x (by simp))).trans hx)) ht hsz (k := k) (hi hg)
  refine ⟨u, ?_, g2⟩
  unfold execOp
  simp only
  rw [rdV_eval hR (by simp) ((rdV_same (h1 i (by simp))).trans hn)]
  exact bind_value g1

/-! ### a part of a slice -/
theorem sliceBound_run {k : IntKind} {i : Int} {y : Nat} {code : BoundsCode} (h0 : 0 ≤ i) (h1 : i ≤ y) (w : World) : (Instr.sliceBound (.int k i) y code).run P w = .ok i.toNat w := by
  unfold Instr.sliceBound
  have hk : (asIntOf (.int k i)).run P w = .ok (k, i) w := rfl
  rw [run_bind_ok hk]
  simp only [h0, h1, and_self, if_true]
  rfl
/-- a bound that may be left out -/
def Bnd (o : Option Value) (dflt n : Int) : Prop := (o = none ∧ n = dflt) ∨ ∃ k, o = some (.int k n)
theorem slice_run {α : Type} {enc : α → List D} {L R : List α} {M : Mem} {w : World} {v : Value} (hv : Rep M (.sl (L.map enc)) v) {t e sz : Nat} (ht : slInfo P t = some (e, sz)) (hsz : allR sz enc) {lo hi : Int} (hs : slcO L lo hi = some R) {ol oh : Option Value} (hl : Bnd ol 0 lo) (hh : Bnd oh L.length hi) :
    ∃ u, (Instr.sliceAt t v ol oh none).run P w = .ok u w ∧ Rep M (.sl (R.map enc)) u := by
  obtain ⟨h0, h1, h2, rfl⟩ := slcO_spec hs
  obtain ⟨a, cap, rfl⟩ := hv.sl_cases
  have hcap : L.length ≤ cap := by
    cases hL : L with
    | nil => simp
    | cons x r =>
      obtain ⟨_, _, _, _, _, e1, hc, _⟩ := hv.flat (by simp [hL])
      simp only [Value.slice.injEq] at e1
      rw [← hL]
      have := e1.2.2
      simp at hc; omega
  have hb : (Instr.sliceBounds true (L.map enc).length cap ol oh none).run P w = .ok (lo.toNat, hi.toNat, cap) w := by
    unfold Instr.sliceBounds
    simp only [pure_bind]
    have hlen : (L.map enc).length = L.length := List.length_map ..
    rcases hh with ⟨rfl, rfl⟩ | ⟨k, rfl⟩
    · rcases hl with ⟨rfl, rfl⟩ | ⟨k', rfl⟩
      · simp only [hlen, Int.toNat_natCast, Int.toNat_zero]; rfl
      · simp only
        rw [run_bind_ok (sliceBound_run h0 (by rw [hlen]; omega) w)]
        simp only [hlen, Int.toNat_natCast]; rfl
    · simp only
      rw [run_bind_ok (sliceBound_run (by omega) (by omega) w)]
      rcases hl with ⟨rfl, rfl⟩ | ⟨k', rfl⟩
      · rfl
      · simp only
        rw [run_bind_ok (sliceBound_run h0 (by omega) w)]
        rfl
  have hu := slInfo_under ht w
  refine ⟨.slice (if cap = lo.toNat then a else a.map (·.add (lo.toNat * sz))) (hi.toNat - lo.toNat) (cap - lo.toNat), ?_, ?_⟩
  · unfold Instr.sliceAt
    rw [run_bind_ok hu]
    simp only
    unfold Instr.slice
    rw [run_bind_ok hu]
    simp only
    rw [run_bind_ok hb]
    simp only
    rw [run_bind_ok (slInfo_size ht w)]
    rfl
  · have hlen : ((L.take hi.toNat).drop lo.toNat).length = hi.toNat - lo.toNat := by simp; omega
    by_cases hemp : hi.toNat - lo.toNat = 0
    · have : (L.take hi.toNat).drop lo.toNat = [] := by apply List.eq_nil_of_length_eq_zero; omega
      rw [this, hemp]
      exact Rep.nil
    · have hne : L.map enc ≠ [] := by
        intro e0
        have : L = [] := by simpa using e0
        subst this
        simp at h2; omega
      obtain ⟨b, off, cap', sz', vs, e1, hc, hrow, hrep, hm⟩ := hv.flat hne
      have e2 : sz' = sz := hrow.eq (rows_map hsz L) hne
      subst e2
      simp only [Value.slice.injEq] at e1
      obtain ⟨rfl, _, rfl⟩ := e1
      rw [if_neg (by omega)]
      simp only [Option.map_some, add_none]
      have e3 : hi.toNat - lo.toNat = (((L.take hi.toNat).drop lo.toNat).map enc).length := by rw [List.length_map, hlen]
      rw [e3]
      refine Rep.ofFlat (sz := sz') (vs := (vs.take (hi.toNat * sz')).drop (lo.toNat * sz')) (by rw [← e3]; omega) (rows_map hsz _) ?_ (fun k u hk => ?_)
      · rw [List.map_drop, List.map_take, flatten_drop (sz := sz') _ (fun row hr => hrow row (List.mem_of_mem_take hr)), flatten_take (sz := sz') _ hrow]
        exact (hrep.take _).drop _
      · rw [List.getElem?_drop, List.getElem?_take] at hk
        split at hk
        · rw [Nat.add_assoc]; exact hm _ _ hk
        · cases hk
def rdO (F : FS) : Option Operand → Option (Option Value)
  | none => some none
  | some x => match rdV F x with
    | some v => some (some v)
    | none => none
theorem rdO_eval {ρ : Env} {M : Mem} {a : Act} {xs : List Operand} (h : Reads F a ρ M xs) {o : Option Operand} (ho : ∀ x, o = some x → x ∈ xs) {v : Option Value} (hv : rdO F o = some v) : o.map a.eval = v := by
  cases o with
  | none => simp [rdO] at hv; simp [hv]
  | some x =>
    simp only [rdO] at hv
    split at hv
    · rename_i u hu; cases hv; simp [rdV_eval h (ho x rfl) hu]
    · cases hv
theorem rdO_same {F' : FS} {o : Option Operand} (h : ∀ x, o = some x → opnd F' x = opnd F x) : rdO F' o = rdO F o := by
  cases o with
  | none => rfl
  | some x => simp only [rdO, rdV_same (h x rfl)]
theorem triSlc {α : Type} {enc : α → List D} {L R : List α} {t e sz : Nat} {x : Operand} {lo hi : Int} {l h : Option Operand} {vl vh : Option Value} (hr : slcO L lo hi = some R) (hx : rdS F x = some (L.map enc)) (hl : rdO F l = some vl) (hh : rdO F h = some vh) (bl : Bnd vl 0 lo) (bh : Bnd vh L.length hi) (ht : slInfo P t = some (e, sz)) (hsz : allR sz enc)
    (hs : sideOk F true ([x] ++ l.toList ++ h.toList)) (hd : Nat.blt dst C.n = true) :
    TriL P C ops ⟨some dst, .slice t x l h none, ty, pos, after, none⟩ ⟨slotsOf ([x] ++ l.toList ++ h.toList), [], [dst], []⟩ [(dst, .s (.c (.d (.sl (R.map enc)))))] [] F := by
  refine ⟨⟨rfl, rfl⟩, fun F' hS => ?_⟩
  have h1 := opnd_same hS.1
  refine Tri.quiet (x := .c (.d (.sl (R.map enc)))) rfl rfl hd (fun ρ M a w hr' => ?_)
  have hR := reads_of hr' rfl (sideOk_same h1 hs)
  obtain ⟨u, g1, g2⟩ := slice_run (P := P) (w := w) (rdS_rep hR (by simp) ((rdS_same (h1 x (by simp))).trans hx)) ht hsz hr bl bh
  refine ⟨u, ?_, g2⟩
  unfold execOp
  simp only
  rw [rdO_eval hR (fun y hy => by simp [hy]) ((rdO_same (fun y hy => h1 y (by simp [hy]))).trans hl), rdO_eval hR (fun y hy => by simp [hy]) ((rdO_same (fun y hy => h1 y (by simp [hy]))).trans hh)]
  exact bind_value g1
theorem triSlcG {α : Type} {enc : α → List D} {L R : List α} {t e sz : Nat} {x : Operand} {lo hi : Int} {l h : Option Operand} {vl vh : Option Value} {gk : Nat} {want g : Bool} (hr : g = true → slcO L lo hi = some R) (hb : guardB F ops gk want = some g) (hx : rdS F x = some (L.map enc)) (hl : rdO F l = some vl) (hh : rdO F h = some vh) (bl : Bnd vl 0 lo) (bh : Bnd vh L.length hi) (ht : slInfo P t = some (e, sz)) (hsz : allR sz enc)
    (hs : sideOk F g ([x] ++ l.toList ++ h.toList)) (hd : Nat.blt dst C.n = true) :
    TriL P C ops ⟨some dst, .slice t x l h none, ty, pos, after, some (gk, want)⟩ ⟨gSlot ops gk ++ slotsOf ([x] ++ l.toList ++ h.toList), [], [dst], []⟩ [(dst, .gd g (.c (.d (.sl (R.map enc)))))] [] F := by
  refine ⟨⟨rfl, rfl⟩, fun F' hS => ?_⟩
  have h1 := opnd_same (F := F) (F' := F') (xs := [x] ++ l.toList ++ h.toList) (fun t ht => hS.1 t (by simp only [List.mem_append]; exact .inr ht))
  refine Tri.quietG (x := .c (.d (.sl (R.map enc)))) rfl ((guardB_same (fun t ht => hS.1 t (by simp only [List.mem_append]; exact .inl ht))).trans hb) rfl hd (fun hg ρ M a w hr' => ?_)
  have hR := reads_of hr' hg (sideOk_same h1 hs)
  obtain ⟨u, g1, g2⟩ := slice_run (P := P) (w := w) (rdS_rep hR (by simp) ((rdS_same (h1 x (by simp))).trans hx)) ht hsz (hr hg) bl bh
  refine ⟨u, ?_, g2⟩
  unfold execOp
  simp only
  rw [rdO_eval hR (fun y hy => by simp [hy]) ((rdO_same (fun y hy => h1 y (by simp [hy]))).trans hl), rdO_eval hR (fun y hy => by simp [hy]) ((rdO_same (fun y hy => h1 y (by simp [hy]))).trans hh)]
  exact bind_value g1

/-! ### cells as data -/
def cellD : Cell → Option D
  | .d (.v (.slice none 0 0)) => some (.sl [])
  | .d x => some x
  | .tl _ l => some (.sl l)
  | _ => none
def rowD : List Cell → Option (List D)
  | [] => some []
  | x :: r => match cellD x with
    | some d => match rowD r with
      | some l => some (d :: l)
      | none => none
    | none => none
theorem cellD_rep {c : Cell} {d : D} (h : cellD c = some d) {ρ : Env} {M : Mem} {v : Value} (hr : c.rep ρ M v) : Rep M d v := by
  unfold cellD at h
  split at h
  · cases h; rw [Rep.v_inv hr]; exact Rep.nil
  · cases h; exact hr
  · cases h; exact hr.2
  · cases h
theorem rowD_rep {ρ : Env} {M : Mem} : ∀ {cs : List Cell} {ds : List D} {vs : List Value}, rowD cs = some ds → Reps ρ M cs vs → RepsD M ds vs
  | [], ds, [], h, _ => by simp [rowD] at h; subst h; trivial
  | [], _, _ :: _, _, hr => hr.elim
  | _ :: _, _, [], _, hr => hr.elim
  | c :: cs, ds, v :: vs, h, hr => by
    simp only [rowD] at h
    split at h
    · rename_i d hd
      split at h
      · rename_i l hl
        cases h
        exact ⟨cellD_rep hd hr.1, rowD_rep hl hr.2⟩
      · cases h
    · cases h

/-! ### a literal -/
def zlist (z : List Value) (n : Nat) : List Value := (List.range n).map fun i => z.toArray[i % z.toArray.size]!
theorem buildSlice_run {ρ : Env} {M : Mem} {t e sz len : Nat} {is : List Nat} {ps : List A1} {us : List Value} {z : List Value} {cs : List Cell} (ht : slInfo P t = some (e, sz)) (hz : zeroCells P e = some z) (h24 : Nat.ble (len * sz) 16777216 = true)
    (hf : fillA (fun i => some (i * sz, sz)) ((zlist z (len * sz)).map zcell) is ps = some cs) (hp : A1.reps ρ M ps us) (w : World) :
    ∃ vs, (Instr.buildSlice t len (is.zip us).toArray).run P w = .ok (.slice (some ⟨w.heap.size, 0, none⟩) len len) (w.alloc (.cells vs.toArray e)) ∧ Reps ρ M cs vs := by
  obtain ⟨vs, hfill, hr⟩ := fillA_run (ρ := ρ) (M := M) is ps us _ cs (zlist z (len * sz)) hf hp (Reps.zero _)
  refine ⟨vs, ?_, hr⟩
  unfold Instr.buildSlice
  rw [run_bind_ok (slInfo_under ht w)]
  simp only
  rw [run_bind_ok (slInfo_size ht w)]
  have h24' := Nat.le_of_ble_eq_true h24
  rw [if_neg (by simpa using h24')]
  obtain ⟨zv, hzv, hzc⟩ := zeroCells_run hz w
  simp only [pure_bind]
  by_cases hpos : len * sz = 0
  · rw [if_pos hpos]
    have e0 : (Array.range (len * sz)).map (fun x => (#[] : Array Value)[x % (#[] : Array Value).size]!) = (zlist z (len * sz)).toArray := by
      rw [hpos]; simp [zlist]
    simp only [e0, hfill]
    rfl
  rw [if_neg hpos, run_bind_ok hzv, hzc]
  have e1 : (Array.range (len * sz)).map (fun x => z.toArray[x % z.toArray.size]!) = (zlist z (len * sz)).toArray := by
    apply Array.ext'
    simp [zlist, Array.toList_range]
  simp only [e1, hfill]
  rfl
theorem RelW.allocM {bl : Nat → Option Ob} {ρ : Env} {M : Mem} {w : World} {vs : List Value} {t : TypeId} (h : RelW C bl ρ M w) (n : Nat) (_hn : n ≤ vs.length) : RelW C bl ρ (M.put w.heap.size 0 (vs.take n)) (w.alloc (.cells vs.toArray t)) := by
  have hno := h.mem.none (Nat.le_refl w.heap.size)
  have hle : M.le (M.put w.heap.size 0 (vs.take n)) := Mem.put_le (fun o _ => hno.1 o)
  refine h.change 0 (fun _ => False) (fun _ h => h.elim) ⟨rfl, rfl, rfl, by rw [alloc_heap]; simp⟩ (fun b hb _ => alloc_old hb) hle (fun b hb _ => ⟨fun o => Mem.put_far (by omega), rfl⟩) (fun b hb => ?_) (fun k ob hk => ?_)
  · rcases hb with hb | hb
    · exact hb.elim
    · have hb' := h.mem.none hb
      refine ⟨fun o v hv => ?_, fun o ho => (by rw [show (M.put w.heap.size 0 (vs.take n)).obj b = M.obj b from rfl, hb'.2] at ho; cases ho)⟩
      by_cases e : b = w.heap.size
      · subst e
        rcases Mem.put_inv hv with ⟨_, h2⟩ | h2
        · rw [Nat.sub_zero, List.getElem?_take] at h2
          split at h2
          · simp only [World.cell?, alloc_new]; simpa using h2
          · cases h2
        · rw [hb'.1 o] at h2; cases h2
      · rw [Mem.put_far e, hb'.1 o] at hv; cases hv
  · exact .inr (.inl ⟨hk, fun _ _ h => h⟩)

theorem buildS_tri {j : Nat} {α : Type} {enc : α → List D} {X : List α} {t e sz len : Nat} {parts : Array (Nat × Operand)} {ps : List A1} {z : List Value} {cs : List Cell} (hps : rds F (parts.toList.map (·.2)) = some ps) (ht : slInfo P t = some (e, sz)) (hz : zeroCells P e = some z) (h24 : Nat.ble (len * sz) 16777216 = true)
    (hf : fillA (fun i => some (i * sz, sz)) ((zlist z (len * sz)).map zcell) (parts.toList.map (·.1)) ps = some cs) {rows : List (List D)} (hrows : X.map enc = rows) (hD : rowD cs = some rows.flatten) (hX : X.length = len) (hsz : allR sz enc) :
    ∀ ρ M a w, Rel0 C F ρ M a w → Reads F a ρ M (parts.toList.map (·.2)) → ∃ u w' M', (do let y ← Instr.buildSlice t len (parts.map fun (x : Nat × Operand) => (x.fst, a.eval x.snd)); pure (Next.value y) : Sem Next).run P w = .ok (.value u) w' ∧ M.le M' ∧ Rep M' (.sl (X.map enc)) u ∧ ∀ ρ', RelW C F.bl ρ' M w → RelW C F.bl ρ' M' w' ∧ (ρ' j = u → RelW C (over [(j, .tail sz)] F.bl) ρ' M' w') := by
  subst hrows
  intro ρ M a w hr hR
  obtain ⟨vs, h1, h2⟩ := buildSlice_run (P := P) ht hz h24 hf (rds_rep hR hps) w
  have hno := hr.heap.mem.none (Nat.le_refl w.heap.size)
  have hle : M.le (M.put w.heap.size 0 (vs.take vs.length)) := Mem.put_le (fun o _ => hno.1 o)
  refine ⟨.slice (some ⟨w.heap.size, 0, none⟩) len len, w.alloc (.cells vs.toArray e), M.put w.heap.size 0 (vs.take vs.length), ?_, hle, ?_, fun ρ' hr' => ?_⟩
  · rw [zip_parts]; exact bind_value h1
  · have hl : (X.map enc).length = len := by rw [List.length_map, hX]
    rw [← hl]
    refine Rep.ofFlat (sz := sz) (vs := vs) (Nat.le_refl _) (rows_map hsz X) ((rowD_rep hD h2).mono hle) (fun k u hk => ?_)
    rw [Nat.zero_add]
    have := Mem.put_at (M := M) (b := w.heap.size) (off := 0) (k := k) (vs := vs.take vs.length) (u := u) (by rw [List.take_length]; exact hk)
    rwa [Nat.zero_add] at this
  · have hrw := hr'.allocM (t := e) vs.length (Nat.le_refl vs.length)
    refine ⟨hrw, fun hρ => ?_⟩
    refine hrw.change j (fun _ => False) (fun _ h => h.elim) ⟨rfl, rfl, rfl, Nat.le_refl _⟩ (fun _ _ _ => rfl) (Mem.le_refl _) (fun _ _ _ => ⟨fun _ => rfl, rfl⟩) (fun b hb => ?_) (fun k ob hk => ?_)
    · exact ⟨fun o v hv => hrw.mem.cell b o v hv, fun o ho => hrw.mem.obj b o ho⟩
    · rw [over_one] at hk
      split at hk
      · rename_i e1
        subst e1
        cases hk
        refine .inr (.inr ⟨rfl, ⟨_, _, _, hρ, Nat.le_refl _, fun h => absurd h (Nat.lt_irrefl _)⟩, fun b hb => ?_⟩)
        rw [hρ] at hb
        simp [Ob.blkOf] at hb
      · exact .inr (.inl ⟨hk, fun _ _ h => h⟩)
theorem zip_ops (parts : Array (Nat × Operand)) : (parts.toList.map (·.2)) = (Op.buildSlice 0 0 parts).operands.toList := by simp [Op.operands]
/-- a slice literal -/
theorem triBS {α : Type} {enc : α → List D} (X : List α) {t e sz len : Nat} {parts : Array (Nat × Operand)} {ps : List A1} {z : List Value} {cs : List Cell} (hps : rds F (parts.toList.map (·.2)) = some ps) (ht : slInfo P t = some (e, sz)) (hz : zeroCells P e = some z) (h24 : Nat.ble (len * sz) 16777216 = true)
    (hf : fillA (fun i => some (i * sz, sz)) ((zlist z (len * sz)).map zcell) (parts.toList.map (·.1)) ps = some cs) {rows : List (List D)} (hrows : X.map enc = rows) (hD : rowD cs = some rows.flatten) (hX : X.length = len) (hsz : allR sz enc) (hs : sideOk F true (parts.toList.map (·.2))) (hd : Nat.blt dst C.n = true) :
    TriL P C ops ⟨some dst, .buildSlice t len parts, ty, pos, after, none⟩ ⟨slotsOf (parts.toList.map (·.2)), [], [dst], []⟩ [(dst, .s (.c (.d (.sl (X.map enc)))))] [] F := by
  refine ⟨⟨rfl, rfl⟩, fun F' hS => ?_⟩
  have h1 := opnd_same hS.1
  have hps' := (rds_same h1).trans hps
  have hs' := sideOk_same h1 hs
  refine Tri.val [] rfl rfl hd (fun _ h => by cases h) (fun k hk => by rw [over_nil]; exact hk) (fun _ h => by cases h) (fun ρ M a w hr => ?_)
  obtain ⟨u, w', M', g1, g2, g3, g4⟩ := buildS_tri (C := C) (j := 0) hps' ht hz h24 hf hrows hD hX hsz ρ M a w hr (reads_of hr rfl hs')
  exact ⟨u, w', M', fun _ => undef, g1, g2, fun ρ' h0 _ => ⟨g3, by rw [over_nil]; exact (g4 ρ' h0.heap).1⟩⟩
theorem triBSG {α : Type} {enc : α → List D} (X : List α) {t e sz len : Nat} {parts : Array (Nat × Operand)} {ps : List A1} {z : List Value} {cs : List Cell} {gk : Nat} {want g : Bool} (hb : guardB F ops gk want = some g) (hps : rds F (parts.toList.map (·.2)) = some ps) (ht : slInfo P t = some (e, sz)) (hz : zeroCells P e = some z) (h24 : Nat.ble (len * sz) 16777216 = true)
    (hf : fillA (fun i => some (i * sz, sz)) ((zlist z (len * sz)).map zcell) (parts.toList.map (·.1)) ps = some cs) {rows : List (List D)} (hrows : X.map enc = rows) (hD : rowD cs = some rows.flatten) (hX : X.length = len) (hsz : allR sz enc) (hs : sideOk F g (parts.toList.map (·.2))) (hd : Nat.blt dst C.n = true) :
    TriL P C ops ⟨some dst, .buildSlice t len parts, ty, pos, after, some (gk, want)⟩ ⟨gSlot ops gk ++ slotsOf (parts.toList.map (·.2)), [], [dst], []⟩ [(dst, .gd g (.c (.d (.sl (X.map enc)))))] [] F := by
  refine ⟨⟨rfl, rfl⟩, fun F' hS => ?_⟩
  have h1 := opnd_same (F := F) (F' := F') (xs := parts.toList.map (·.2)) (fun t ht => hS.1 t (by simp only [List.mem_append]; exact .inr ht))
  have hps' := (rds_same h1).trans hps
  have hs' := sideOk_same h1 hs
  refine Tri.valG (x := .c (.d (.sl (X.map enc)))) rfl ((guardB_same (fun t ht => hS.1 t (by simp only [List.mem_append]; exact .inl ht))).trans hb) rfl hd (fun hg ρ M a w hr => ?_)
  obtain ⟨u, w', M', g1, g2, g3, g4⟩ := buildS_tri (C := C) (j := 0) hps' ht hz h24 hf hrows hD hX hsz ρ M a w hr (reads_of hr hg hs')
  exact ⟨u, w', M', g1, g2, fun ρ' h0 => ⟨g3, (g4 ρ' h0.heap).1⟩⟩
/-- a slice literal that may grow -/
theorem triBST {α : Type} {enc : α → List D} (X : List α) {j : Nat} {t e sz len : Nat} {parts : Array (Nat × Operand)} {ps : List A1} {z : List Value} {cs : List Cell} (hps : rds F (parts.toList.map (·.2)) = some ps) (ht : slInfo P t = some (e, sz)) (hz : zeroCells P e = some z) (h24 : Nat.ble (len * sz) 16777216 = true)
    (hf : fillA (fun i => some (i * sz, sz)) ((zlist z (len * sz)).map zcell) (parts.toList.map (·.1)) ps = some cs) {rows : List (List D)} (hrows : X.map enc = rows) (hD : rowD cs = some rows.flatten) (hX : X.length = len) (hsz : allR sz enc) (hs : sideOk F true (parts.toList.map (·.2))) (hd : Nat.blt dst C.n = true) (hj : F.bl j = none) :
    TriL P C ops ⟨some dst, .buildSlice t len parts, ty, pos, after, none⟩ ⟨slotsOf (parts.toList.map (·.2)), [j], [dst], [j]⟩ [(dst, .s (.c (.tl j (X.map enc))))] [(j, .tail sz)] F := by
  refine ⟨⟨rfl, rfl⟩, fun F' hS => ?_⟩
  have h1 := opnd_same hS.1
  have hps' := (rds_same h1).trans hps
  have hs' := sideOk_same h1 hs
  refine Tri.val [j] rfl rfl hd (fun k hk => by simp at hk; subst hk; exact (hS.2 k (by simp)).trans hj) (fun k hk => dom_over hk) (fun k hk => by simp at hk; subst hk; rw [over_one, if_pos rfl]; simp) (fun ρ M a w hr => ?_)
  obtain ⟨u, w', M', g1, g2, g3, g4⟩ := buildS_tri (C := C) (j := j) hps' ht hz h24 hf hrows hD hX hsz ρ M a w hr (reads_of hr rfl hs')
  exact ⟨u, w', M', fun _ => u, g1, g2, fun ρ' h0 hnv => ⟨⟨(hnv j (by simp)).symm, g3⟩, (g4 ρ' h0.heap).2 (hnv j (by simp))⟩⟩

/-! ### append -/
theorem growBy_le (n : Nat) : ∀ (r c : Nat), c ≤ n + (n + 768) / 4 → Builtin.growBy n r c ≤ n + (n + 768) / 4
  | 0, c, h => h
  | r + 1, c, h => by
    unfold Builtin.growBy
    split
    · exact h
    · exact growBy_le n r _ (by omega)
theorem nextcap_le {n c : Nat} (h : c < n) : Builtin.nextslicecap n c ≤ 2 * n + 192 := by
  unfold Builtin.nextslicecap
  split
  · omega
  · split
    · omega
    · have := growBy_le n 4 c (by omega); omega
/-- the cells of a slice that stays -/
theorem firstCells_run {M : Mem} {w : World} {l : List (List D)} {v : Value} {sz : Nat} (hv : Rep M (.sl l) v) (hr : Rows sz l) (hm : InW M w) : ∃ vs, (Builtin.firstCells sz l.length v).run P w = .ok vs.toArray w ∧ RepsD M l.flatten vs := by
  by_cases hne : l = []
  · subst hne
    obtain ⟨a, cap, rfl⟩ := hv.sl_cases
    refine ⟨[], ?_, trivial⟩
    cases a with
    | none => rfl
    | some a =>
      show (loadCells a (0 * sz)).run P w = _
      rw [Nat.zero_mul]; rfl
  · obtain ⟨b, off, cap, sz', vs, rfl, hc, hrow, hrep, hm'⟩ := hv.flat hne
    have e := hrow.eq hr hne
    subst e
    refine ⟨vs, ?_, hrep⟩
    show (loadCells ⟨b, off, none⟩ (l.length * sz')).run P w = _
    have hl : vs.length = l.length * sz' := by rw [hrep.len, flatten_len hr]
    rw [← hl]
    exact loadCells_run vs (fun j v hj => hm.cell _ _ _ (hm' j v hj))
def bytesOk (P : Program) (e : TypeId) : Bool := match P.info? e with
  | some i => match i.zero with
    | some v => match Nat.beq v.cells.size i.size with
      | true => Nat.ble i.bytes 65536
      | false => false
    | none => false
  | none => false

theorem setV_get : ∀ (us vs : List Value) (off k : Nat), off + us.length ≤ vs.length → (setV vs off us)[k]? = if off ≤ k ∧ k < off + us.length then us[k - off]? else vs[k]?
  | [], vs, off, k, _ => by
    simp only [setV, List.length_nil, Nat.add_zero]
    rw [if_neg (by omega)]
  | u :: r, vs, off, k, h => by
    simp only [List.length_cons] at h
    simp only [setV]
    rw [setV_get r (vs.set off u) (off + 1) k (by simp; omega)]
    by_cases h1 : off + 1 ≤ k ∧ k < off + 1 + r.length
    · rw [if_pos h1, if_pos (by simp; omega), show k - off = (k - (off + 1)) + 1 by omega]; simp
    · rw [if_neg h1]
      by_cases h2 : off = k
      · subst h2
        rw [if_pos (by simp), List.getElem?_set_self (by omega)]; simp
      · rw [if_neg (by simp; omega), List.getElem?_set_ne h2]
theorem setV_len : ∀ (us vs : List Value) (off : Nat), (setV vs off us).length = vs.length
  | [], _, _ => rfl
  | u :: r, vs, off => by simp [setV, setV_len r]
theorem Rep.notMany {M : Mem} {d : D} {v : Value} (h : Rep M d v) (hd : ∀ x, d = .v x → Go.E2.notMany x = true) : Go.E2.notMany v = true := by
  cases h with
  | v x => exact hd _ rfl
  | _ => rfl
/-- the row's cells are no aggregates -/
def dOne : D → Bool
  | .v x => notMany x
  | _ => true
def rowOne : List D → Bool
  | [] => true
  | d :: r => match dOne d with
    | true => rowOne r
    | false => false
theorem rowOne_rep {M : Mem} : ∀ {ds : List D} {vs : List Value}, rowOne ds = true → RepsD M ds vs → ∀ u ∈ vs, notMany u = true
  | [], [], _, _, u, hu => by cases hu
  | d :: ds, v :: vs, h, hr, u, hu => by
    simp only [rowOne] at h
    split at h
    · rename_i hd
      cases hu with
      | head => exact hr.1.notMany (fun x e => by subst e; exact hd)
      | tail _ hm => exact rowOne_rep h hr.2 u hm
    · cases h
  | [], _ :: _, _, hr, _, _ => hr.elim
  | _ :: _, [], _, hr, _, _ => hr.elim
theorem rowOne_append : ∀ {a b : List D}, rowOne a = true → rowOne b = true → rowOne (a ++ b) = true
  | [], _, _, h => h
  | d :: r, b, h, h' => by
    simp only [rowOne] at h
    simp only [List.cons_append, rowOne]
    split at h
    · exact rowOne_append h h'
    · cases h
theorem rowOne_flat {α : Type} {enc : α → List D} (h : ∀ x, rowOne (enc x) = true) : ∀ L : List α, rowOne (L.map enc).flatten = true
  | [] => rfl
  | x :: r => by simp only [List.map_cons, List.flatten_cons]; exact rowOne_append (h x) (rowOne_flat h r)

/-- append to a slice with room behind it that is ours -/
theorem append_run {α : Type} {enc : α → List D} {L X R : List α} {M : Mem} {w : World} {s x : Value} {ts tx e sz : Nat} {ρ : Env} {bl : Nat → Option Ob} {ob : Ob} {j j' : Nat} (ht : slInfo P ts = some (e, sz)) (hx' : isSl P tx = true) (hby : bytesOk P e = true) (hsz : allR sz enc) (hone : ∀ x, rowOne (enc x) = true) (_hpos : sz ≠ 0)
    (happ : appO L X = some R) (hs : Rep M (.sl (L.map enc)) s) (hx : Rep M (.sl (X.map enc)) x) (hrw : RelW C bl ρ M w) (hj : bl j = some ob ∨ ob = .dead) (hi : Inv1 ρ M w (.tail sz) s) (hown : (Ob.tail sz).blkOf s = none ∨ (bl j = some ob ∧ ob = .tail sz ∧ ρ j = s)) :
    ∃ u w' M', (Builtin.append_ #[ts, tx] ty #[s, x]).run P w = .ok u w' ∧ M.le M' ∧ Rep M' (.sl (R.map enc)) u ∧ ∀ ρ' bl', RelW C bl ρ' M w → ρ' j' = u → (∀ k o, bl' k = some o → o = .dead ∨ (k = j' ∧ o = .tail sz) ∨ (bl k = some o ∧ k ≠ j)) → (bl j = some ob → ρ' j = ρ j) → RelW C bl' ρ' M' w' := by
  obtain ⟨hlen, rfl⟩ := appO_spec happ
  obtain ⟨hu, inf, hinf, hisz⟩ := slInfo_spec ht
  obtain ⟨sa, sn, scap, rfl, hcap, htail⟩ := hi
  obtain ⟨sa2, scap2, e0⟩ := hs.sl_cases
  simp only [Value.slice.injEq, List.length_map] at e0
  obtain ⟨rfl, rfl, rfl⟩ := e0
  obtain ⟨xa, xcap, rfl⟩ := hx.sl_cases
  simp only [List.length_map]
  simp only [List.length_map] at hs hx
  obtain ⟨news, hn1, hn2⟩ := firstCells_run (P := P) (w := w) hx (rows_map hsz X) hrw.mem
  obtain ⟨olds, ho1, ho2⟩ := firstCells_run (P := P) (w := w) hs (rows_map hsz L) hrw.mem
  simp only [List.length_map] at hn1 ho1
  have hnl : news.length = X.length * sz := by rw [hn2.len, flatten_len (rows_map hsz X), List.length_map]
  have hol : olds.length = L.length * sz := by rw [ho2.len, flatten_len (rows_map hsz L), List.length_map]
  obtain ⟨e', htt⟩ : ∃ e', (underlying tx).run P w = .ok (.slice e') w := by
    unfold isSl at hx'
    split at hx'
    · rename_i e' hu'
      exact ⟨e', by simp [underlying, program, Sem.run, hu']⟩
    · cases hx'
  have hLX : ((L ++ X).map enc).length = L.length + X.length := by simp
  have hflat : ((L ++ X).map enc).flatten = (L.map enc).flatten ++ (X.map enc).flatten := by rw [List.map_append, List.flatten_append]
  by_cases hfit : L.length + X.length ≤ scap
  · by_cases hX0 : X.length = 0
    · -- nothing is added
      have hX : X = [] := List.eq_nil_of_length_eq_zero hX0
      subst hX
      have hn0 : news = [] := by apply List.eq_nil_of_length_eq_zero; rw [hnl]; simp
      subst hn0
      refine ⟨.slice sa L.length scap, w, M, ?_, Mem.le_refl _, by simpa using hs, fun ρ' bl' hr' hρ' hbl hρj => ?_⟩
      · unfold Builtin.append_
        simp only [List.getElem?_toArray, List.getElem?_cons_zero, List.getElem?_cons_succ]
        rw [run_bind_ok (slInfo_under ht w)]
        simp only
        rw [run_bind_ok (slInfo_size ht w)]
        simp only [pure_bind]
        rw [run_bind_ok htt]
        simp only [Bool.false_eq_true, if_false, Builtin.lenOf, pure_bind, Bool.not_false, if_true]
        rw [if_pos hfit, run_bind_ok hn1]
        cases sa with
        | none => rfl
        | some a => rfl
      · refine hr'.change j' (fun b => (Ob.tail sz).blkOf (.slice sa L.length scap) = some b) ?_ ⟨rfl, rfl, rfl, Nat.le_refl _⟩ (fun _ _ _ => rfl) (Mem.le_refl _) (fun _ _ _ => ⟨fun _ => rfl, rfl⟩) (fun b _ => ⟨fun o v hv => hr'.mem.cell b o v hv, fun o ho => hr'.mem.obj b o ho⟩) (fun k o hk => ?_)
        · intro b hb _
          rcases hown with h1 | ⟨h1, rfl, h2⟩
          · rw [h1] at hb; cases hb
          · exact hr'.priv j _ b h1 (by rw [hρj h1, h2]; exact hb)
        · rcases hbl k o hk with rfl | ⟨rfl, rfl⟩ | ⟨h1, h2⟩
          · exact .inl rfl
          · refine .inr (.inr ⟨rfl, ?_, fun b hb => .inl (by rw [hρ'] at hb; exact hb)⟩)
            rw [hρ']
            exact ⟨sa, L.length, scap, rfl, hcap, htail⟩
          · refine .inr (.inl ⟨h1, fun b hb hS => ?_⟩)
            rcases hown with h3 | ⟨h3, rfl, h4⟩
            · rw [h3] at hS; cases hS
            · exact h2 (hr'.dist k j _ _ b h1 h3 hb (by rw [hρj h3, h4]; exact hS))
    · -- in place
      have hlt : L.length < scap := by omega
      obtain ⟨b, off, arr, ty', rfl, hb, hroom, hnone⟩ := htail hlt
      have hownb : (Ob.tail sz).blkOf (.slice (some ⟨b, off, none⟩) L.length scap) = some b := by simp [Ob.blkOf, hlt]
      have hbl0 : bl j = some ob ∧ ob = .tail sz ∧ ρ j = .slice (some ⟨b, off, none⟩) L.length scap := by
        rcases hown with h1 | h1
        · rw [hownb] at h1; cases h1
        · exact h1
      obtain ⟨hj1, rfl, hj2⟩ := hbl0
      have hroom' : off + (L.length + X.length) * sz ≤ arr.size := Nat.le_trans (Nat.add_le_add_left (Nat.mul_le_mul_right sz hfit) off) hroom
      have hmul : (L.length + X.length) * sz = L.length * sz + X.length * sz := Nat.add_mul ..
      obtain ⟨w', q1, q2, q3, q4, q5, q6, q7⟩ := storeCells_run (P := P) (b := b) (off := off + L.length * sz) (ty := ty') news 0 w arr hb (rowOne_rep (rowOne_flat hone X) hn2) (by omega)
      rw [Nat.add_zero] at q2
      have hle : M.le (M.put b (off + L.length * sz) news) := Mem.put_le hnone
      refine ⟨.slice (some ⟨b, off, none⟩) (L.length + X.length) scap, w', M.put b (off + L.length * sz) news, ?_, hle, ?_, fun ρ' bl' hr' hρ' hbl hρj => ?_⟩
      · unfold Builtin.append_
        simp only [List.getElem?_toArray, List.getElem?_cons_zero, List.getElem?_cons_succ]
        rw [run_bind_ok (slInfo_under ht w)]
        simp only
        rw [run_bind_ok (slInfo_size ht w)]
        simp only [pure_bind]
        rw [run_bind_ok htt]
        simp only [Bool.false_eq_true, if_false, Builtin.lenOf, pure_bind, Bool.not_false, if_true]
        rw [if_pos hfit, run_bind_ok hn1]
        simp only [add_none]
        rw [run_bind_ok q1]
        rfl
      · rw [← hLX]
        refine Rep.ofFlat (sz := sz) (vs := olds ++ news) (by rw [hLX]; exact hfit) (rows_map hsz _) (by rw [hflat]; exact (ho2.append hn2).mono hle) (fun k u hk => ?_)
        rcases Nat.lt_or_ge k olds.length with h1 | h1
        · rw [List.getElem?_append_left h1] at hk
          by_cases hL0 : L = []
          · rw [hol, hL0] at h1; simp at h1
          · obtain ⟨b2, off2, cap2, sz2, vs2, e2, _, hrow2, hrep2, hm2⟩ := hs.flat (by simpa using hL0)
            simp only [Value.slice.injEq, Option.some.injEq, Addr.mk.injEq] at e2
            obtain ⟨⟨rfl, rfl, _⟩, _, _⟩ := e2
            have hvs : vs2 = olds := by
              have h3 := loadCells_run (P := P) (w := w) (b := b) (off := off) vs2 (fun i v hi => hrw.mem.cell _ _ _ (hm2 i v hi))
              have h4 : (loadCells ⟨b, off, none⟩ (L.length * sz)).run P w = .ok olds.toArray w := ho1
              have h5 : vs2.length = L.length * sz := by
                rw [hrep2.len, flatten_len (rows_map hsz L), List.length_map]
              rw [h5] at h3
              have := h3.symm.trans h4
              simpa using this
            rw [← hvs] at hk
            exact hle.cell _ _ _ (hm2 k u hk)
        · rw [List.getElem?_append_right h1] at hk
          have := Mem.put_at (M := M) (b := b) (off := off + L.length * sz) hk
          rw [hol] at this h1
          rw [show off + k = off + L.length * sz + (k - L.length * sz) by omega]; exact this
      · have hρj' : ρ' j = .slice (some ⟨b, off, none⟩) L.length scap := (hρj hj1).trans hj2
        refine hr'.change j' (fun x => x = b) ?_ ⟨q5, q6, q7, Nat.le_of_eq q4.symm⟩ (fun x _ hx => q3 x hx) hle (fun x _ hx => ⟨fun o => Mem.put_far hx, rfl⟩) ?_ (fun k o hk => ?_)
        · rintro x rfl _
          exact hr'.priv j _ _ hj1 (by rw [hρj']; exact hownb)
        · rintro x (rfl | hx)
          · refine ⟨fun o v hv => ?_, fun o ho => (by rw [show (M.put x (off + L.length * sz) news).obj x = M.obj x from rfl, hr'.mem.noObj hb] at ho; cases ho)⟩
            simp only [World.cell?, q2]
            simp only [Option.isSome_none, Bool.false_eq_true, if_false, List.getElem?_toArray]
            rw [setV_get _ _ _ _ (by have : arr.toList.length = arr.size := Array.length_toList; omega)]
            rcases Mem.put_inv hv with ⟨h1, h2⟩ | h2
            · have h3 := (List.getElem?_eq_some_iff.1 h2).1
              rw [if_pos (by omega)]; exact h2
            · have h3 := hr'.mem.cell _ _ _ h2
              have h4 : ¬ (off + L.length * sz ≤ o) := fun h => by rw [hnone o h] at h2; cases h2
              rw [if_neg (by omega)]
              simp only [World.cell?, hb] at h3
              simpa using h3
          · have := hr'.mem.none hx
            have hxb : x ≠ b := by
              have := (Array.getElem?_eq_some_iff.1 hb).1
              omega
            exact ⟨fun o v hv => (by rw [Mem.put_far hxb, this.1 o] at hv; cases hv), fun o ho => (by rw [show (M.put b (off + L.length * sz) news).obj x = M.obj x from rfl, this.2] at ho; cases ho)⟩
        · rcases hbl k o hk with rfl | ⟨rfl, rfl⟩ | ⟨h1, h2⟩
          · exact .inl rfl
          · refine .inr (.inr ⟨rfl, ?_, fun x hx => .inl ?_⟩)
            · rw [hρ']
              refine ⟨_, _, _, rfl, hfit, fun hlt2 => ⟨b, off, _, ty', rfl, q2, ?_, fun o ho => ?_⟩⟩
              · rw [List.size_toArray, setV_len, Array.length_toList]; exact hroom
              · simp only [Mem.put]
                rw [if_neg (by omega)]
                exact hnone o (by omega)
            · rw [hρ'] at hx
              simp only [Ob.blkOf] at hx
              split at hx
              · cases hx; rfl
              · cases hx
          · refine .inr (.inl ⟨h1, fun x hx hS => ?_⟩)
            subst hS
            exact h2 (hr'.dist k j _ _ _ h1 hj1 hx (by rw [hρj']; exact hownb))
  · -- a new row
    have hby' : ∃ zv, inf.zero = some zv ∧ zv.cells.size = inf.size ∧ inf.bytes ≤ 65536 := by
      unfold bytesOk at hby
      rw [hinf] at hby
      simp only at hby
      split at hby
      · rename_i zv hz
        split at hby
        · rename_i hq; exact ⟨zv, hz, Nat.eq_of_beq_eq_true hq, Nat.le_of_ble_eq_true hby⟩
        · cases hby
      · cases hby
    obtain ⟨zv, hzv, hzsz, hbytes⟩ := hby'
    have hti : ∀ w : World, (typeInfo e).run P w = .ok inf w := fun w => by simp [typeInfo, program, Sem.run, hinf]
    have hzr : ∀ w : World, (zeroValue e).run P w = .ok zv w := fun w => by simp [zeroValue, typeInfo, program, Sem.run, hinf, hzv]
    have hnc := nextcap_le (n := L.length + X.length) (c := scap) (by omega)
    have hnb : Builtin.nextslicecap (L.length + X.length) scap * inf.bytes ≤ 2 ^ 48 := by
      have h1 : Builtin.nextslicecap (L.length + X.length) scap ≤ 2147483840 := by omega
      exact Nat.le_trans (Nat.mul_le_mul h1 hbytes) (by decide)
    obtain ⟨newCap, hnc2, w1, hw1, hch⟩ : ∃ newCap, L.length + X.length ≤ newCap ∧ ∃ w1 : World, w1 = { w with drawn := w.drawn + 1 } ∧ ∀ (K : Nat → Sem Value), (choose (.appendCap (L.length + X.length) scap e) >>= K).run P w = (K newCap).run P w1 :=
      ⟨(Question.appendCap (L.length + X.length) scap e).cut (w.tape w.drawn (.appendCap (L.length + X.length) scap e)), by simp [Question.cut], _, rfl, fun K => by simp [choose, Sem.run, Question.forced, bind, Sem.bind]⟩
    have hin1 : InW M w1 := by subst hw1; exact ⟨hrw.mem.cell, hrw.mem.obj⟩
    obtain ⟨olds1, ho3, ho4⟩ := firstCells_run (P := P) (w := w1) hs (rows_map hsz L) hin1
    obtain ⟨news1, hn3, hn4⟩ := firstCells_run (P := P) (w := w1) hx (rows_map hsz X) hin1
    simp only [List.length_map] at ho3 hn3
    have hol1 : olds1.length = L.length * sz := by rw [ho4.len, flatten_len (rows_map hsz L), List.length_map]
    have hnl1 : news1.length = X.length * sz := by rw [hn4.len, flatten_len (rows_map hsz X), List.length_map]
    have hroomr : ∀ n, ∀ w : World, (askRoom n).run P w = .ok () w := fun n w => by
      unfold askRoom; split <;> rfl
    let rest := Builtin.zeroCells zv.cells (newCap - (L.length + X.length))
    have hw1h : w1.heap = w.heap := by rw [hw1]
    have hrw1 : ∀ ρ' bl0, RelW C bl0 ρ' M w → RelW C bl0 ρ' M w1 := fun ρ' bl0 h => by
      subst hw1
      exact ⟨fun k o hk => (h.inv k o hk).keep (Mem.le_refl _) (fun _ _ => ⟨rfl, fun _ => rfl, rfl⟩), h.dist, h.priv, ⟨h.mem.cell, h.mem.obj⟩, h.base, h.fresh, ⟨h.kept.os, h.kept.tape, h.kept.output, h.kept.size, h.kept.block⟩, h.names⟩
    have hmul : (L.length + X.length) * sz = L.length * sz + X.length * sz := Nat.add_mul ..
    refine ⟨.slice (some ⟨w.heap.size, 0, none⟩) (L.length + X.length) newCap, w1.alloc (.cells (olds1 ++ news1 ++ rest.toList).toArray e), M.put w1.heap.size 0 ((olds1 ++ news1 ++ rest.toList).take ((L.length + X.length) * sz)), ?_, ?_, ?_, fun ρ' bl' hr' hρ' hbl hρj => ?_⟩
    · unfold Builtin.append_
      simp only [List.getElem?_toArray, List.getElem?_cons_zero, List.getElem?_cons_succ]
      rw [run_bind_ok (slInfo_under ht w)]
      simp only
      rw [run_bind_ok (slInfo_size ht w)]
      simp only [pure_bind]
      rw [run_bind_ok htt]
      simp only [Bool.false_eq_true, if_false, Builtin.lenOf, pure_bind, Bool.not_false, if_true]
      rw [if_neg hfit, run_bind_ok (hti w)]
      rw [if_neg (by
        intro h
        have h1 := h.1
        have h2 : IntKind.i64.max = 9223372036854775807 := by decide
        rw [h2] at h1
        omega)]
      rw [run_bind_ok (hti w)]
      rw [if_neg (by omega), hch]
      rw [run_bind_ok (hti w1), run_bind_ok (hroomr _ w1), run_bind_ok ho3, run_bind_ok hn3, run_bind_ok (hzr w1)]
      have e1 : olds1.toArray ++ news1.toArray ++ rest = (olds1 ++ news1 ++ rest.toList).toArray := by apply Array.ext'; simp
      show (do let y ← newRow e (olds1.toArray ++ news1.toArray ++ rest); pure (Value.slice (some y) (L.length + X.length) newCap) : Sem Value).run P w1 = _
      rw [e1, ← hw1h]
      rfl
    · exact Mem.put_le (fun o _ => (hin1.none (Nat.le_refl _)).1 o)
    · rw [← hw1h]
      have htk : (olds1 ++ news1 ++ rest.toList).take ((L.length + X.length) * sz) = olds1 ++ news1 := by
        rw [List.take_append_of_le_length (by simp; omega), List.take_of_length_le (by simp; omega)]
      rw [htk, ← hLX]
      have hle : M.le (M.put w1.heap.size 0 (olds1 ++ news1)) := Mem.put_le (fun o _ => (hin1.none (Nat.le_refl _)).1 o)
      refine Rep.ofFlat (sz := sz) (vs := olds1 ++ news1) (by rw [hLX]; exact hnc2) (rows_map hsz _) (by rw [hflat]; exact (ho4.append hn4).mono hle) (fun k u hk => ?_)
      have := Mem.put_at (M := M) (b := w1.heap.size) (off := 0) hk
      exact this
    · have h2 := (hrw1 ρ' bl hr').allocM (vs := olds1 ++ news1 ++ rest.toList) (t := e) ((L.length + X.length) * sz) (by simp; omega)
      refine h2.change j' (fun b => b = w1.heap.size) (fun b hb _ => .inl (by rw [hb, hw1h]; exact hr'.kept.size)) ⟨rfl, rfl, rfl, Nat.le_refl _⟩ (fun _ _ _ => rfl) (Mem.le_refl _) (fun _ _ _ => ⟨fun _ => rfl, rfl⟩) (fun b _ => ⟨fun o v hv => h2.mem.cell b o v hv, fun o ho => h2.mem.obj b o ho⟩) (fun k o hk => ?_)
      rcases hbl k o hk with rfl | ⟨rfl, rfl⟩ | ⟨h3, h4⟩
      · exact .inl rfl
      · refine .inr (.inr ⟨rfl, ?_, fun x hx => .inl ?_⟩)
        · rw [hρ', ← hw1h]
          refine ⟨_, _, _, rfl, hnc2, fun _ => ⟨w1.heap.size, 0, _, e, rfl, alloc_new _ _, ?_, fun o ho => ?_⟩⟩
          · have hrs : rest.size = (newCap - (L.length + X.length)) * sz := by simp [rest, Builtin.zeroCells, hzsz, hisz]
            have h5 : newCap * sz = (L.length + X.length) * sz + (newCap - (L.length + X.length)) * sz := by rw [← Nat.add_mul]; congr 1; omega
            simp only [List.size_toArray, List.length_append, Array.length_toList]
            omega
          · simp only [Mem.put]
            rw [if_neg (by
              intro h
              have := h.2.2
              rw [List.length_take] at this
              omega)]
            exact (hin1.none (Nat.le_refl _)).1 o
        · rw [hρ'] at hx
          simp only [Ob.blkOf] at hx
          split at hx
          · cases hx; exact hw1h ▸ rfl
          · cases hx
      · refine .inr (.inl ⟨h3, fun x hx hS => ?_⟩)
        have := hr'.lt k o x h3 hx
        rw [hS, hw1h] at this
        exact absurd this (Nat.lt_irrefl _)
/-- the exact empty slice has no room behind it -/
def nilV : Value := .slice none 0 0
theorem triApp {α : Type} {enc : α → List D} {L X R : List α} {ts tx e sz : Nat} {s x : Operand} {j j' : Nat} (happ : appO L X = some R) (hs : opnd F s = some (.s (.c (.tl j (L.map enc))))) (hj : F.bl j = some (.tail sz)) (hx : rdS F x = some (X.map enc)) (ht : slInfo P ts = some (e, sz)) (htx : isSl P tx = true) (hby : bytesOk P e = true) (hsz : allR sz enc) (hone : ∀ x, rowOne (enc x) = true) (hpos : sz ≠ 0)
    (hsd : sideOk F true [s, x]) (hd : Nat.blt dst C.n = true) (hj' : F.bl j' = none) :
    TriL P C ops ⟨some dst, .call ⟨.builtin .append, #[s, x], #[ts, tx]⟩, ty, pos, after, none⟩ ⟨slotsOf [s, x], [j, j'], [dst], [j', j]⟩ [(dst, .s (.c (.tl j' (R.map enc))))] [(j', .tail sz), (j, .dead)] F := by
  refine ⟨⟨rfl, rfl⟩, fun F' hS => ?_⟩
  have h1 := opnd_same hS.1
  have hs' := (h1 s (by simp)).trans hs
  have hj1 : F'.bl j = some (.tail sz) := (hS.2 j (by simp)).trans hj
  have hj2 : F'.bl j' = none := (hS.2 j' (by simp)).trans hj'
  refine Tri.val [j'] rfl rfl hd (fun k hk => by simp at hk; subst hk; exact hj2) (fun k hk => dom_over hk) (fun k hk => by simp at hk; subst hk; simp [over, look]) (fun ρ M a w hr => ?_)
  have hR := reads_of hr rfl (sideOk_same h1 hsd)
  obtain ⟨es, hrs⟩ : a.eval s = ρ j ∧ Rep M (.sl (L.map enc)) (a.eval s) := opnd_rep hr hs'
  have hrx := rdS_rep hR (by simp) ((rdS_same (h1 x (by simp))).trans hx)
  have hinv : Inv1 ρ M w (.tail sz) (a.eval s) := by rw [es]; exact hr.heap.inv j _ hj1
  obtain ⟨u, w', M', g1, g2, g3, g4⟩ := append_run (P := P) (ty := ty) (j := j) (j' := j') (ob := .tail sz) ht htx hby hsz hone hpos happ hrs hrx hr.heap (.inl hj1) hinv (.inr ⟨hj1, rfl, es.symm⟩)
  refine ⟨u, w', M', fun _ => u, ?_, g2, fun ρ' h0 hnv => ⟨⟨(hnv j' (by simp)).symm, g3⟩, ?_⟩⟩
  · unfold execOp
    simp only [resolve, List.map_toArray, List.map_cons, List.map_nil, pure_bind, invoke]
    exact bind_value g1
  · obtain ⟨es', _⟩ : a.eval s = ρ' j ∧ Rep M (.sl (L.map enc)) (a.eval s) := opnd_rep h0 hs'
    refine g4 ρ' _ h0.heap (hnv j' (by simp)) (fun k o hk => ?_) (fun _ => es'.symm.trans es)
    have hk' : over [(j', Ob.tail sz), (j, Ob.dead)] F'.bl k = some o := hk
    unfold over at hk'
    rw [look_cons, look_cons] at hk'
    by_cases e1 : j' = k
    · subst e1; rw [if_pos rfl] at hk'; cases hk'; exact .inr (.inl ⟨rfl, rfl⟩)
    · rw [if_neg e1] at hk'
      by_cases e2 : j = k
      · subst e2; rw [if_pos rfl] at hk'; cases hk'; exact .inl rfl
      · rw [if_neg e2] at hk'
        exact .inr (.inr ⟨hk', fun e => e2 e.symm⟩)
/-- append to the exact empty slice -/
theorem triApp0 {α : Type} {enc : α → List D} {X R : List α} {ts tx e sz : Nat} {s x : Operand} {j' : Nat} (happ : appO [] X = some R) (hs : rdV F s = some (.slice none 0 0)) (hx : rdS F x = some (X.map enc)) (ht : slInfo P ts = some (e, sz)) (htx : isSl P tx = true) (hby : bytesOk P e = true) (hsz : allR sz enc) (hone : ∀ x, rowOne (enc x) = true) (hpos : sz ≠ 0)
    (hsd : sideOk F true [s, x]) (hd : Nat.blt dst C.n = true) (hj' : F.bl j' = none) :
    TriL P C ops ⟨some dst, .call ⟨.builtin .append, #[s, x], #[ts, tx]⟩, ty, pos, after, none⟩ ⟨slotsOf [s, x], [j'], [dst], [j']⟩ [(dst, .s (.c (.tl j' (R.map enc))))] [(j', .tail sz)] F := by
  refine ⟨⟨rfl, rfl⟩, fun F' hS => ?_⟩
  have h1 := opnd_same hS.1
  have hj2 : F'.bl j' = none := (hS.2 j' (by simp)).trans hj'
  refine Tri.val [j'] rfl rfl hd (fun k hk => by simp at hk; subst hk; exact hj2) (fun k hk => dom_over hk) (fun k hk => by simp at hk; subst hk; simp [over, look]) (fun ρ M a w hr => ?_)
  have hR := reads_of hr rfl (sideOk_same h1 hsd)
  have es : a.eval s = .slice none 0 0 := rdV_eval hR (by simp) ((rdV_same (h1 s (by simp))).trans hs)
  have hrx := rdS_rep hR (by simp) ((rdS_same (h1 x (by simp))).trans hx)
  have hrs : Rep M (.sl (([] : List α).map enc)) (.slice none 0 0) := Rep.nil
  obtain ⟨u, w', M', g1, g2, g3, g4⟩ := append_run (P := P) (ty := ty) (j := j') (j' := j') (ob := .dead) ht htx hby hsz hone hpos happ hrs hrx hr.heap (.inr rfl) ⟨none, 0, 0, rfl, Nat.le_refl _, fun h => absurd h (Nat.lt_irrefl _)⟩ (.inl rfl)
  refine ⟨u, w', M', fun _ => u, ?_, g2, fun ρ' h0 hnv => ⟨⟨(hnv j' (by simp)).symm, g3⟩, ?_⟩⟩
  · unfold execOp
    simp only [resolve, List.map_toArray, List.map_cons, List.map_nil, pure_bind, invoke, es]
    exact bind_value g1
  · refine g4 ρ' _ h0.heap (hnv j' (by simp)) (fun k o hk => ?_) (fun h => by rw [hj2] at h; cases h)
    have hk' : over [(j', Ob.tail sz)] F'.bl k = some o := hk
    rw [over_one] at hk'
    by_cases e1 : j' = k
    · subst e1; rw [if_pos rfl] at hk'; cases hk'; exact .inr (.inl ⟨rfl, rfl⟩)
    · rw [if_neg e1] at hk'
      exact .inr (.inr ⟨hk', fun e => e1 e.symm⟩)
end Go.E2

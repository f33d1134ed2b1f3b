/-
  Slices that are written: made, read, stored into, grown, given up to stay as they are.
-/
import Derived.Test.YtcfegecdlbbeaaaDoorXh
namespace Go.E2
variable {P : Program} {C : Ctx} {F : FS} {ops : Array Oper} {dst : Nat} {op : Op} {ty : TypeId} {pos : String} {after : Array Edge}

/-- a vector's cells, laid flat -/
theorem vec_flat {ρ : Env} {M : Mem} {w : World} {α : Type} {enc : α → List D} {L : List α} {sz : Nat} {v : Value} (h : Inv1 ρ M w (.vec sz (L.map enc)) v) : ∃ a cap, v = .slice a L.length cap ∧ L.length ≤ cap ∧ (0 < cap → ∃ (b off : Nat) (arr : Array Value) (ty : TypeId) (vs : List Value), a = some ⟨b, off, none⟩ ∧ w.heap[b]? = some (.cells arr ty (0, 0)) ∧ off + cap * sz ≤ arr.size ∧ (∀ o, M.cell b o = none) ∧ RepsD M (L.map enc).flatten vs ∧ (∀ (k : Nat) u, vs[k]? = some u → arr[off + k]? = some u)) := by
  obtain ⟨a, cap, rfl, hc, hrow, hx⟩ := h
  rw [List.length_map] at hc ⊢
  refine ⟨a, cap, rfl, hc, fun hp => ?_⟩
  obtain ⟨b, off, arr, ty', f, rfl, h1, h2, h3, h4⟩ := hx hp
  have hrows : Rows sz (L.map enc) := fun row hr => by
    obtain ⟨i, hi, e⟩ := List.getElem_of_mem hr
    exact hrow i row (by rw [List.getElem?_eq_getElem hi, e])
  -- as in memory that stays: we lay the cells into a memory of their own
  let M2 : Mem := ⟨fun b' o => if b' = b then arr[o]? else M.cell b' o, M.obj⟩
  have hle : M.le M2 := ⟨fun b' o v hv => by
    show (if b' = b then arr[o]? else M.cell b' o) = some v
    rw [if_neg (fun e => by rw [e, h3 o] at hv; cases hv)]; exact hv, fun _ _ h => h⟩
  have key : ∀ (l' : List (List D)) (k : Nat), (∀ (i : Nat) row, l'[i]? = some row → (L.map enc)[k + i]? = some row) → ∃ vs, RepsD M l'.flatten vs ∧ ∀ (q : Nat) u, vs[q]? = some u → arr[off + k * sz + q]? = some u := by
    intro l'
    induction l' with
    | nil => intro k _; exact ⟨[], trivial, fun q u hq => by simp at hq⟩
    | cons x r ih =>
      intro k hl'
      have hx : (L.map enc)[k]? = some x := by simpa using hl' 0 x rfl
      obtain ⟨us, u1, u2⟩ := ih (k + 1) (fun i row hi => by
        have := hl' (i + 1) row (by simpa using hi)
        rw [show k + 1 + i = k + (i + 1) by omega]; exact this)
      have row : ∀ (y : List D) (m : Nat), (∀ (j : Nat) d, y[j]? = some d → x[m + j]? = some d) → ∃ vs, RepsD M y vs ∧ ∀ (q : Nat) u, vs[q]? = some u → arr[off + k * sz + (m + q)]? = some u := by
        intro y
        induction y with
        | nil => intro m _; exact ⟨[], trivial, fun q u hq => by simp at hq⟩
        | cons d ds ihy =>
          intro m hy
          have hd : x[m]? = some d := by simpa using hy 0 d rfl
          obtain ⟨vs, v1, v2⟩ := ihy (m + 1) (fun j d' hj => by
            have := hy (j + 1) d' (by simpa using hj)
            rw [show m + 1 + j = m + (j + 1) by omega]; exact this)
          obtain ⟨g1, g2⟩ := h4 k x m d hx hd
          refine ⟨f k m :: vs, ⟨g2, v1⟩, fun q u hq => ?_⟩
          cases q with
          | zero => simp at hq; subst hq; rw [Nat.add_zero]; exact g1
          | succ q =>
            have := v2 q u (by simpa using hq)
            rw [show m + (q + 1) = m + 1 + q by omega]; exact this
      obtain ⟨vs, v1, v2⟩ := row x 0 (fun j d hj => by simpa using hj)
      refine ⟨vs ++ us, by rw [List.flatten_cons]; exact v1.append u1, fun q u hq => ?_⟩
      have hvl : vs.length = sz := by rw [v1.len]; exact hrow k x hx
      rcases Nat.lt_or_ge q vs.length with hlt | hge
      · rw [List.getElem?_append_left hlt] at hq
        have := v2 q u hq
        simpa using this
      · rw [List.getElem?_append_right hge] at hq
        have := u2 _ u hq
        rw [hvl] at this hge
        rw [Nat.succ_mul] at this
        rw [show off + k * sz + q = off + (k * sz + sz) + (q - sz) by omega]; exact this
  obtain ⟨vs, v1, v2⟩ := key (L.map enc) 0 (fun i row hi => by simpa using hi)
  exact ⟨b, off, arr, ty', vs, rfl, h1, h2, h3, v1, fun k u hk => by simpa using v2 k u hk⟩
theorem vec_of {ρ : Env} {M : Mem} {w : World} {α : Type} {enc : α → List D} {L : List α} {sz cap b off : Nat} {arr : Array Value} {ty : TypeId} {vs : List Value} (hsz : allR sz enc) (hc : L.length ≤ cap) (h1 : w.heap[b]? = some (.cells arr ty (0, 0))) (h2 : off + cap * sz ≤ arr.size) (h3 : ∀ o, M.cell b o = none) (h4 : RepsD M (L.map enc).flatten vs) (h5 : ∀ (k : Nat) u, vs[k]? = some u → arr[off + k]? = some u) :
    Inv1 ρ M w (.vec sz (L.map enc)) (.slice (some ⟨b, off, none⟩) L.length cap) := by
  refine ⟨_, cap, by rw [List.length_map], by rw [List.length_map]; exact hc, fun i row hi => rows_map hsz L row (List.mem_of_getElem? hi), fun _ => ?_⟩
  refine ⟨b, off, arr, ty, fun i j => (vs[i * sz + j]?).getD undef, rfl, h1, h2, h3, fun i row j d hi hj => ?_⟩
  have hrow : row.length = sz := rows_map hsz L row (List.mem_of_getElem? hi)
  have hjl : j < row.length := (List.getElem?_eq_some_iff.1 hj).1
  have hfl := flatten_get (rows_map hsz L) i j row hi (by omega)
  obtain ⟨u, g1, g2⟩ := h4.get _ d (by rw [hfl]; exact hj)
  simp only [g1]
  exact ⟨by rw [Nat.add_assoc]; exact h5 _ _ g1, g2⟩

/-! ### making -/
theorem zlist_len (z : List Value) (n : Nat) : (zlist z n).length = n := by simp [zlist]
theorem zlist_rep {M : Mem} {z : List Value} {row : List D} (h : RepsD M row z) (hz : z ≠ []) : ∀ n, RepsD M (List.replicate n row).flatten (zlist z (n * z.length))
  | 0 => by simp [zlist]; trivial
  | n + 1 => by
    have ih := zlist_rep h hz n
    have hpos : 0 < z.length := by cases z with
      | nil => exact absurd rfl hz
      | cons _ _ => simp
    have e : zlist z ((n + 1) * z.length) = zlist z (n * z.length) ++ z := by
      apply List.ext_getElem?
      intro k
      rcases Nat.lt_or_ge k (n * z.length) with h1 | h1
      · rw [List.getElem?_append_left (by rw [zlist_len]; exact h1)]
        have h2 : k < (n + 1) * z.length := by rw [Nat.succ_mul]; omega
        simp [zlist, h1, h2]
      · rw [List.getElem?_append_right (by rw [zlist_len]; exact h1), zlist_len]
        rcases Nat.lt_or_ge k ((n + 1) * z.length) with h2 | h2
        · have h3 : k - n * z.length < z.length := by rw [Nat.succ_mul] at h2; omega
          have h4 : k % z.length = k - n * z.length := by
            conv => lhs; rw [show k = (k - n * z.length) + z.length * n by have := Nat.mul_comm z.length n; omega]
            rw [Nat.add_mul_mod_self_left, Nat.mod_eq_of_lt h3]
          simp only [zlist, List.getElem?_map, List.getElem?_range h2, Option.map_some, List.size_toArray, h4]
          rw [List.getElem?_eq_getElem h3]
          simp [h3]
        · have h3 : z.length ≤ k - n * z.length := by rw [Nat.succ_mul] at h2; omega
          rw [List.getElem?_eq_none (by rw [zlist_len]; exact h2), List.getElem?_eq_none h3]
    rw [e, List.replicate_succ', List.flatten_append]
    simp only [List.flatten_cons, List.flatten_nil, List.append_nil]
    exact ih.append h
theorem makeSlice_run {t e sz : Nat} {z : List Value} {k1 k2 : IntKind} {l c : Int} (ht : slInfo P t = some (e, sz)) (hz : zeroCells P e = some z) (hby : bytesOk P e = true) (h0 : 0 ≤ l) (h1 : l ≤ c) (h2 : c ≤ 1073741824) (w : World) :
    (Instr.makeSlice t (.int k1 l) (.int k2 c)).run P w = .ok (.slice (some ⟨w.heap.size, 0, none⟩) l.toNat c.toNat) (w.alloc (.cells (zlist z (c.toNat * sz)).toArray e)) := by
  obtain ⟨hu, inf, hinf, hisz⟩ := slInfo_spec ht
  have hbytes : inf.bytes ≤ 65536 := by
    unfold bytesOk at hby
    rw [hinf] at hby
    simp only at hby
    split at hby
    · split at hby
      · exact Nat.le_of_ble_eq_true hby
      · cases hby
    · cases hby
  have hti : (typeInfo e).run P w = .ok inf w := by simp [typeInfo, program, Sem.run, hinf]
  obtain ⟨zv, hzv, hzc⟩ := zeroCells_run hz w
  have hwr : ∀ x : Int, 0 ≤ x → x ≤ 1073741824 → IntKind.i64.wrap x = x := fun x h0 h1 => by rw [IntKind.wrap_i64]; omega
  have hlarge : ∀ x : Int, 0 ≤ x → x ≤ 1073741824 → ((decide (x < 0)) || decide ((inf.bytes : Int) * x > 2 ^ 48)) = false := fun x h0 h1 => by
    have h3 : (inf.bytes : Int) * x ≤ 65536 * 1073741824 := Int.mul_le_mul (by omega) h1 h0 (by decide)
    simp only [Bool.or_eq_false_iff, decide_eq_false_iff_not]
    constructor
    · omega
    · have : (65536 * 1073741824 : Int) ≤ 2 ^ 48 := by decide
      omega
  have hroomr : ∀ n, ∀ w : World, (askRoom n).run P w = .ok () w := fun n w => by
    unfold askRoom; split <;> rfl
  unfold Instr.makeSlice
  rw [run_bind_ok (slInfo_under ht w)]
  simp only
  have a1 : (asInt (.int k1 l)).run P w = .ok l w := rfl
  have a2 : (asInt (.int k2 c)).run P w = .ok c w := rfl
  rw [run_bind_ok a1, run_bind_ok a2, run_bind_ok hti]
  simp only [hwr l h0 (by omega), hwr c (by omega) h2, hlarge c (by omega) h2]
  rw [if_neg (by simp; omega)]
  rw [run_bind_ok (hroomr _ w), run_bind_ok (slInfo_size ht w)]
  by_cases hpos : c.toNat * sz = 0
  · rw [if_pos hpos]
    simp only [pure_bind]
    have e0 : (Array.range (c.toNat * sz)).map (fun x => (#[] : Array Value)[x % (#[] : Array Value).size]!) = (zlist z (c.toNat * sz)).toArray := by
      rw [hpos]; simp [zlist]
    rw [e0]
    rfl
  · rw [if_neg hpos]
    simp only [pure_bind]
    rw [run_bind_ok hzv, hzc]
    have e1 : (Array.range (c.toNat * sz)).map (fun x => z.toArray[x % z.toArray.size]!) = (zlist z (c.toNat * sz)).toArray := by
      apply Array.ext'
      simp [zlist, Array.toList_range]
    rw [e1]
    rfl
theorem RelW.allocO {bl : Nat → Option Ob} {ρ : Env} {M : Mem} {w : World} {o : Obj} {ob : Ob} {j : Nat} (h : RelW C bl ρ M w) (hi : Inv1 ρ M (w.alloc o) ob (ρ j)) (hb : ∀ b, ob.blkOf (ρ j) = some b → w.heap.size ≤ b) : RelW C (over [(j, ob)] bl) ρ M (w.alloc o) := by
  refine h.change j (fun _ => False) (fun _ h => h.elim) ⟨rfl, rfl, rfl, by rw [alloc_heap]; simp⟩ (fun b hb _ => alloc_old hb) (Mem.le_refl _) (fun _ _ _ => ⟨fun _ => rfl, rfl⟩) (fun b hb => ?_) (fun k ob' hk => ?_)
  · rcases hb with hb | hb
    · exact hb.elim
    · have := h.mem.none hb
      exact ⟨fun o v hv => (by rw [this.1 o] at hv; cases hv), fun o ho => (by rw [this.2] at ho; cases ho)⟩
  · rw [over_one] at hk
    split at hk
    · rename_i e
      subst e
      cases hk
      exact .inr (.inr ⟨rfl, hi, fun b hb' => .inr (hb b hb')⟩)
    · exact .inr (.inl ⟨hk, fun _ _ h => h⟩)
theorem triMkV {α : Type} {enc : α → List D} {zr : α} {L : List α} {t e sz j : Nat} {x : Operand} {z : List Value} {k : IntKind} {n : Int} (hn0 : mkO n zr = some L) (hx : rdV F x = some (.int k n)) (ht : slInfo P t = some (e, sz)) (hz : zeroCells P e = some z) (hD : rowD (z.map zcell) = some (enc zr)) (hby : bytesOk P e = true) (hsz : allR sz enc) (hpos : sz ≠ 0) (hs : sideOk F true [x, x]) (hd : Nat.blt dst C.n = true) (hj : F.bl j = none) :
    TriL P C ops ⟨some dst, .makeSlice t x x, ty, pos, after, none⟩ ⟨slotsOf [x, x], [j], [dst], [j]⟩ [(dst, .s (.c (.own j)))] [(j, .vec sz (L.map enc))] F := by
  obtain ⟨h0, h1, rfl⟩ := mkO_spec hn0
  refine ⟨⟨rfl, rfl⟩, fun F' hS => ?_⟩
  have h2 := opnd_same hS.1
  refine Tri.val [j] rfl rfl hd (fun k hk => by simp at hk; subst hk; exact (hS.2 k (by simp)).trans hj) (fun k hk => dom_over hk) (fun k hk => by simp at hk; subst hk; rw [over_one, if_pos rfl]; simp) (fun ρ M a w hr => ?_)
  have hR := reads_of hr rfl (sideOk_same h2 hs)
  have hrun := makeSlice_run (P := P) (k1 := k) (k2 := k) ht hz hby h0 (Int.le_refl n) h1 w
  have hzl : z.length = sz := by
    have := (rowD_rep (ρ := fun _ => undef) (M := M) hD (Reps.zero z)).len
    rw [this]; exact hsz zr
  refine ⟨.slice (some ⟨w.heap.size, 0, none⟩) n.toNat n.toNat, w.alloc (.cells (zlist z (n.toNat * sz)).toArray e), M, fun _ => .slice (some ⟨w.heap.size, 0, none⟩) n.toNat n.toNat, ?_, Mem.le_refl _, fun ρ' h0' hnv => ?_⟩
  · unfold execOp
    simp only
    rw [rdV_eval hR (by simp) ((rdV_same (h2 x (by simp))).trans hx)]
    exact bind_value hrun
  · have hnj := hnv j (by simp)
    refine ⟨hnj.symm, h0'.heap.allocO ?_ (fun b hb => ?_)⟩
    · rw [hnj]
      have hne : z ≠ [] := by intro e0; rw [e0] at hzl; simp at hzl; exact hpos hzl.symm
      have hl : (List.replicate n.toNat zr).length = n.toNat := by simp
      rw [show (Value.slice (some ⟨w.heap.size, 0, none⟩) n.toNat n.toNat) = .slice (some ⟨w.heap.size, 0, none⟩) (List.replicate n.toNat zr).length n.toNat by rw [hl]]
      refine vec_of (vs := zlist z (n.toNat * z.length)) hsz (by rw [hl]; exact Nat.le_refl _) (alloc_new _ _) (by simp [zlist_len]) (fun o => (h0'.heap.mem.none (Nat.le_refl _)).1 o) ?_ (fun k u hk => ?_)
      · rw [List.map_replicate]
        exact zlist_rep (rowD_rep (ρ := fun _ => undef) hD (Reps.zero z)) hne _
      · rw [Nat.zero_add, ← hzl]; simpa using hk
    · rw [hnj] at hb
      simp only [Ob.blkOf] at hb
      split at hb
      · cases hb; exact Nat.le_refl _
      · cases hb
/-- an empty slice with room -/
theorem triMkT {t e sz j : Nat} {x : Operand} {z : List Value} {k k0 : IntKind} {n m : Int} (hn0 : okO (decide (0 ≤ n) && decide (n ≤ 1073741824)) n = some m) (hx : rdV F x = some (.int k n)) (ht : slInfo P t = some (e, sz)) (hz : zeroCells P e = some z) (hby : bytesOk P e = true) (hs : sideOk F true [.const (.int k0 0), x]) (hd : Nat.blt dst C.n = true) (hj : F.bl j = none) :
    TriL P C ops ⟨some dst, .makeSlice t (.const (.int k0 0)) x, ty, pos, after, none⟩ ⟨slotsOf [.const (.int k0 0), x], [j], [dst], [j]⟩ [(dst, .s (.c (.tl j [])))] [(j, .tail sz)] F := by
  obtain ⟨h01, rfl⟩ := okO_spec hn0
  simp only [Bool.and_eq_true, decide_eq_true_eq] at h01
  obtain ⟨h0, h1⟩ := h01
  refine ⟨⟨rfl, rfl⟩, fun F' hS => ?_⟩
  have h2 := opnd_same hS.1
  refine Tri.val [j] rfl rfl hd (fun k hk => by simp at hk; subst hk; exact (hS.2 k (by simp)).trans hj) (fun k hk => dom_over hk) (fun k hk => by simp at hk; subst hk; rw [over_one, if_pos rfl]; simp) (fun ρ M a w hr => ?_)
  have hR := reads_of hr rfl (sideOk_same h2 hs)
  have hrun := makeSlice_run (P := P) (k1 := k0) (k2 := k) ht hz hby (Int.le_refl 0) h0 h1 w
  refine ⟨.slice (some ⟨w.heap.size, 0, none⟩) 0 m.toNat, w.alloc (.cells (zlist z (m.toNat * sz)).toArray e), M, fun _ => .slice (some ⟨w.heap.size, 0, none⟩) 0 m.toNat, ?_, Mem.le_refl _, fun ρ' h0' hnv => ?_⟩
  · unfold execOp
    simp only
    rw [rdV_eval hR (by simp) ((rdV_same (h2 x (by simp))).trans hx)]
    exact bind_value hrun
  · have hnj := hnv j (by simp)
    refine ⟨⟨hnj.symm, Rep.nil⟩, h0'.heap.allocO ?_ (fun b hb => ?_)⟩
    · rw [hnj]
      exact ⟨_, _, _, rfl, Nat.zero_le _, fun _ => ⟨w.heap.size, 0, _, e, rfl, alloc_new _ _, by simp [zlist_len], fun o _ => (h0'.heap.mem.none (Nat.le_refl _)).1 o⟩⟩
    · rw [hnj] at hb
      simp only [Ob.blkOf] at hb
      split at hb
      · cases hb; exact Nat.le_refl _
      · cases hb

/-! ### reading -/
theorem triLenV {α : Type} {enc : α → List D} (L : List α) {t : TypeId} {x : Operand} {j sz : Nat} (hx : opnd F x = some (.s (.c (.own j)))) (hj : F.bl j = some (.vec sz (L.map enc))) (ht : isSl P t = true) (hd : Nat.blt dst C.n = true) :
    TriL P C ops ⟨some dst, .call ⟨.builtin .len, #[x], #[t]⟩, ty, pos, after, none⟩ ⟨slotsOf [x], [j], [dst], []⟩ [(dst, .s (.c (.d (.v (.int .i64 L.length)))))] [] F := by
  refine ⟨⟨rfl, rfl⟩, fun F' hS => ?_⟩
  have h1 := opnd_same hS.1
  refine Tri.quiet (x := .c (.d (.v (.int .i64 L.length)))) rfl rfl hd (fun ρ M a w hr => ?_)
  have e : a.eval x = ρ j := opnd_rep hr ((h1 x (by simp)).trans hx)
  obtain ⟨b, cap, hv, _⟩ := vec_flat (hr.heap.inv j _ ((hS.2 j (by simp)).trans hj))
  refine ⟨_, ?_, Rep.v _⟩
  unfold isSl at ht
  split at ht
  · rename_i et hu
    have hun : (underlying t).run P w = .ok (.slice et) w := by simp [underlying, program, Sem.run, hu]
    unfold execOp
    simp only [resolve, List.map_toArray, List.map_cons, List.map_nil, pure_bind, invoke, e, hv]
    refine bind_value ?_
    unfold Builtin.len_
    simp only [List.getElem?_toArray, List.getElem?_cons_zero]
    rw [run_bind_ok hun]
    rfl
  · cases ht
theorem idxV_run {α : Type} {enc : α → List D} {L : List α} {ρ : Env} {M : Mem} {w : World} {j sz t e : Nat} (hv : Inv1 ρ M w (.vec sz (L.map enc)) (ρ j)) (ht : slInfo P t = some (e, sz)) {ik : IntKind} {i : Int} {k : Nat} (hi : ixO L.length i = some k) :
    ∃ u, (Instr.indexAt t (ρ j) (.int ik i)).run P w = .ok u w ∧ (Cell.vl j (k * sz)).rep ρ M u := by
  obtain ⟨rfl, hk⟩ := ixO_spec hi
  obtain ⟨a, cap, e1, hc, hx⟩ := vec_flat hv
  obtain ⟨b, off, arr, ty', vs, rfl, _⟩ := hx (by omega)
  refine ⟨.pointer (some ⟨b, off + k * sz, none⟩), ?_, ?_⟩
  · rw [e1]
    have hl : (0 : Int) ≤ (k : Int) ∧ (k : Int) < (L.length : Int) := ⟨Int.natCast_nonneg k, Int.ofNat_lt.mpr hk⟩
    unfold Instr.indexAt
    have hkk : (asIntOf (.int ik (k : Int))).run P w = .ok (ik, (k : Int)) w := rfl
    rw [run_bind_ok hkk]
    simp only
    have hu := slInfo_under ht w
    rw [run_bind_ok hu]
    simp only [pure_bind]
    rw [run_bind_ok hu]
    simp only [hl, and_self, if_true]
    rw [run_bind_ok (slInfo_size ht w)]
    rw [add_none]
    rfl
  · show _ = vptr ρ j (k * sz)
    unfold vptr
    rw [e1]
theorem triIdxV {α : Type} {enc : α → List D} {L : List α} {t e sz j : Nat} {x i : Operand} {ik : IntKind} {n : Int} {k : Nat} (hi : ixO L.length n = some k) (hx : opnd F x = some (.s (.c (.own j)))) (hj : F.bl j = some (.vec sz (L.map enc))) (hn : rdV F i = some (.int ik n)) (ht : slInfo P t = some (e, sz)) (hs : sideOk F true [x, i]) (hd : Nat.blt dst C.n = true) :
    TriL P C ops ⟨some dst, .indexAddr t x i, ty, pos, after, none⟩ ⟨slotsOf [x, i], [j], [dst], []⟩ [(dst, .s (.c (.vl j (k * sz))))] [] F := by
  refine ⟨⟨rfl, rfl⟩, fun F' hS => ?_⟩
  have h1 := opnd_same hS.1
  refine Tri.quiet (x := .c (.vl j (k * sz))) rfl rfl hd (fun ρ M a w hr => ?_)
  have hR := reads_of hr rfl (sideOk_same h1 hs)
  have e0 : a.eval x = ρ j := opnd_rep hr ((h1 x (by simp)).trans hx)
  obtain ⟨u, g1, g2⟩ := idxV_run (P := P) (ik := ik) (hr.heap.inv j _ ((hS.2 j (by simp)).trans hj)) ht hi
  refine ⟨u, ?_, g2⟩
  unfold execOp
  simp only
  rw [e0, rdV_eval hR (by simp) ((rdV_same (h1 i (by simp))).trans hn)]
  exact bind_value g1
theorem triIdxVG {α : Type} {enc : α → List D} {L : List α} {t e sz j : Nat} {x i : Operand} {ik : IntKind} {n : Int} {k : Nat} {gk : Nat} {want g : Bool} (hi : g = true → ixO L.length n = some k) (hb : guardB F ops gk want = some g) (hx : rd F x = some (.c (.own j))) (hj : F.bl j = some (.vec sz (L.map enc))) (hn : rdV F i = some (.int ik n)) (ht : slInfo P t = some (e, sz)) (hs : sideOk F g [x, i]) (hd : Nat.blt dst C.n = true) :
    TriL P C ops ⟨some dst, .indexAddr t x i, ty, pos, after, some (gk, want)⟩ ⟨gSlot ops gk ++ slotsOf [x, i], [j], [dst], []⟩ [(dst, .gd g (.c (.vl j (k * sz))))] [] F := by
  refine ⟨⟨rfl, rfl⟩, fun F' hS => ?_⟩
  have h1 := opnd_same (F := F) (F' := F') (xs := [x, i]) (fun t ht => hS.1 t (by simp [ht]))
  refine Tri.quietG (x := .c (.vl j (k * sz))) rfl ((guardB_same (fun t ht => hS.1 t (by simp [ht]))).trans hb) rfl hd (fun hg ρ M a w hr => ?_)
  have hR := reads_of hr hg (sideOk_same h1 hs)
  have e0 : a.eval x = ρ j := hR x (by simp) _ ((rd_same (h1 x (by simp))).trans hx)
  obtain ⟨u, g1, g2⟩ := idxV_run (P := P) (ik := ik) (hr.heap.inv j _ ((hS.2 j (by simp)).trans hj)) ht (hi hg)
  refine ⟨u, ?_, g2⟩
  unfold execOp
  simp only
  rw [e0, rdV_eval hR (by simp) ((rdV_same (h1 i (by simp))).trans hn)]
  exact bind_value g1
theorem loadV_run {α : Type} {enc : α → List D} {L : List α} {ρ : Env} {M : Mem} {w : World} {j sz t k : Nat} {y : α} {x : A1} (hv : Inv1 ρ M w (.vec sz (L.map enc)) (ρ j)) (hsz : allR sz enc) (hy : L[k]? = some y) (ht : takeA P t (dcells (enc y)) 0 = some x) :
    ∃ u, (Instr.loadAt t (vptr ρ j (k * sz))).run P w = .ok u w ∧ x.rep ρ M u := by
  have hk : k < L.length := (List.getElem?_eq_some_iff.1 hy).1
  obtain ⟨a, cap, e1, hc, hx⟩ := vec_flat hv
  obtain ⟨b, off, arr, ty', vs, rfl, h1, h2, h3, h4, h5⟩ := hx (by omega)
  have hrow : (L.map enc)[k]? = some (enc y) := by simp [hy]
  have hkey : ∀ (row : List D) (m : Nat), (∀ (i : Nat) d, row[i]? = some d → (enc y)[m + i]? = some d) → ∃ us, Reps ρ M (dcells row) us ∧ ∀ (i : Nat) v, us[i]? = some v → w.cell? ⟨b, off + k * sz + m + i, none⟩ = some v := by
    intro row
    induction row with
    | nil => intro m _; exact ⟨[], trivial, fun i v hv => by simp at hv⟩
    | cons d r ih =>
      intro m hm
      have hd : (enc y)[m]? = some d := by simpa using hm 0 d rfl
      obtain ⟨us, r1, r2⟩ := ih (m + 1) (fun i d' hi => by
        have := hm (i + 1) d' (by simpa using hi)
        rw [show m + 1 + i = m + (i + 1) by omega]; exact this)
      have hml : m < sz := by rw [← hsz y]; exact (List.getElem?_eq_some_iff.1 hd).1
      obtain ⟨u, g1, g2⟩ := h4.get (k * sz + m) d (by rw [flatten_get (rows_map hsz L) k m (enc y) hrow hml]; exact hd)
      refine ⟨u :: us, ⟨g2, r1⟩, fun i v hv => ?_⟩
      cases i with
      | zero =>
        simp at hv; subst hv
        have := h5 _ _ g1
        simp only [World.cell?, h1]
        rw [Nat.add_zero, Nat.add_assoc]; simpa using this
      | succ i =>
        have := r2 i v (by simpa using hv)
        rw [show off + k * sz + m + (i + 1) = off + k * sz + (m + 1) + i by omega]; exact this
  obtain ⟨us, r1, r2⟩ := hkey (enc y) 0 (fun i d hi => by simpa using hi)
  obtain ⟨u, q1, q2⟩ := takeA_run (P := P) (w := w) (b := b) (o0 := off + k * sz) (off := 0) (fun i v hv => by have := r2 i v hv; simpa using this) r1 ht
  refine ⟨u, ?_, q2⟩
  have e2 : vptr ρ j (k * sz) = .pointer (some ⟨b, off + k * sz, none⟩) := by unfold vptr; rw [e1]
  rw [e2]
  exact q1
theorem triLoadV {α : Type} {enc : α → List D} {L : List α} {t sz j k : Nat} {x : Operand} {y : α} {row : List D} {r : A1} (hy : L[k]? = some y) (hrow : enc y = row) (hx : opnd F x = some (.s (.c (.vl j (k * sz))))) (hj : F.bl j = some (.vec sz (L.map enc))) (hsz : allR sz enc) (ht : takeA P t (dcells row) 0 = some r) (hd : Nat.blt dst C.n = true) :
    TriL P C ops ⟨some dst, .load t x, ty, pos, after, none⟩ ⟨slotsOf [x], [j], [dst], []⟩ [(dst, .s r)] [] F := by
  subst hrow
  refine ⟨⟨rfl, rfl⟩, fun F' hS => ?_⟩
  have h1 := opnd_same hS.1
  refine Tri.quiet (x := r) rfl rfl hd (fun ρ M a w hr => ?_)
  have e0 : a.eval x = vptr ρ j (k * sz) := opnd_rep hr ((h1 x (by simp)).trans hx)
  obtain ⟨u, g1, g2⟩ := loadV_run (P := P) (hr.heap.inv j _ ((hS.2 j (by simp)).trans hj)) hsz hy ht
  refine ⟨u, ?_, g2⟩
  unfold execOp
  simp only
  rw [e0]
  exact bind_value g1
theorem triLoadVG {α : Type} {enc : α → List D} {L : List α} {t sz j k : Nat} {x : Operand} {y : α} {row : List D} {r : A1} {gk : Nat} {want g : Bool} (hy : g = true → L[k]? = some y) (hrow : enc y = row) (hb : guardB F ops gk want = some g) (hx : rd F x = some (.c (.vl j (k * sz)))) (hj : F.bl j = some (.vec sz (L.map enc))) (hsz : allR sz enc) (ht : takeA P t (dcells row) 0 = some r) (hs : sideOk F g [x]) (hd : Nat.blt dst C.n = true) :
    TriL P C ops ⟨some dst, .load t x, ty, pos, after, some (gk, want)⟩ ⟨gSlot ops gk ++ slotsOf [x], [j], [dst], []⟩ [(dst, .gd g r)] [] F := by
  subst hrow
  refine ⟨⟨rfl, rfl⟩, fun F' hS => ?_⟩
  have h1 := opnd_same (F := F) (F' := F') (xs := [x]) (fun t ht => hS.1 t (by simp [ht]))
  refine Tri.quietG (x := r) rfl ((guardB_same (fun t ht => hS.1 t (by simp [ht]))).trans hb) rfl hd (fun hg ρ M a w hr => ?_)
  have hR := reads_of hr hg (sideOk_same h1 hs)
  have e0 : a.eval x = vptr ρ j (k * sz) := hR x (by simp) _ ((rd_same (h1 x (by simp))).trans hx)
  obtain ⟨u, g1, g2⟩ := loadV_run (P := P) (hr.heap.inv j _ ((hS.2 j (by simp)).trans hj)) hsz (hy hg) ht
  refine ⟨u, ?_, g2⟩
  unfold execOp
  simp only
  rw [e0]
  exact bind_value g1

/-! ### a store -/
theorem flatten_set {sz : Nat} : ∀ {l : List (List D)} {row : List D} (k : Nat), Rows sz l → row.length = sz → k < l.length → ∀ (q : Nat), (l.set k row).flatten[q]? = if k * sz ≤ q ∧ q < k * sz + sz then row[q - k * sz]? else l.flatten[q]?
  | [], row, k, _, _, hk, q => by simp at hk
  | x :: r, row, 0, hr, hl, hk, q => by
    have hx := hr x (by simp)
    simp only [List.set_cons_zero, List.flatten_cons, Nat.zero_mul, Nat.zero_add, Nat.zero_le, true_and, Nat.sub_zero]
    split
    · rw [List.getElem?_append_left (by omega)]
    · rw [List.getElem?_append_right (by omega), List.getElem?_append_right (by omega), hl, hx]
  | x :: r, row, k + 1, hr, hl, hk, q => by
    have hx := hr x (by simp)
    simp only [List.set_cons_succ, List.flatten_cons]
    rcases Nat.lt_or_ge q x.length with h1 | h1
    · rw [List.getElem?_append_left h1, List.getElem?_append_left h1, if_neg (by rw [Nat.succ_mul]; omega)]
    · rw [List.getElem?_append_right h1, List.getElem?_append_right h1, flatten_set k (fun y hy => hr y (by simp [hy])) hl (by simpa using hk) (q - x.length)]
      have e1 : (k * sz ≤ q - x.length ∧ q - x.length < k * sz + sz) ↔ ((k + 1) * sz ≤ q ∧ q < (k + 1) * sz + sz) := by rw [Nat.succ_mul]; omega
      by_cases h2 : k * sz ≤ q - x.length ∧ q - x.length < k * sz + sz
      · rw [if_pos h2, if_pos (e1.1 h2)]; congr 1; rw [Nat.succ_mul]; omega
      · rw [if_neg h2, if_neg (fun h => h2 (e1.2 h))]
theorem RepsD.ofGet {M : Mem} : ∀ {ds : List D} {vs : List Value}, vs.length = ds.length → (∀ (i : Nat) d v, ds[i]? = some d → vs[i]? = some v → Rep M d v) → RepsD M ds vs
  | [], [], _, _ => trivial
  | [], _ :: _, h, _ => by simp at h
  | _ :: _, [], h, _ => by simp at h
  | d :: ds, v :: vs, h, hg => ⟨hg 0 d v rfl rfl, RepsD.ofGet (by simpa using h) (fun i d' v' hd hv => hg (i + 1) d' v' (by simpa using hd) (by simpa using hv))⟩
theorem triStoreV {α : Type} {enc : α → List D} {L : List α} {t sz j k : Nat} {b0 : Bool} {x y : Operand} {v : A1} (z : α) (hk : Nat.blt k L.length = true ∨ k < L.length) (hx : opnd F x = some (.s (.c (.vl j (k * sz))))) (hj : F.bl j = some (.vec sz (L.map enc))) (hy : opnd F y = some (.s v)) (hp : plain1 v = true) (hD : rowD v.cells = some (enc z)) (hone : rowOne (enc z) = true) (hsz : allR sz enc) (ht : tinfo P t = some (sz, b0)) :
    TriL P C ops ⟨none, .store t x y, ty, pos, after, none⟩ ⟨slotsOf [x, y], [j], [], [j]⟩ [] [(j, .vec sz ((L.set k z).map enc))] F := by
  have hk : k < L.length := by rcases hk with h | h; exact Nat.blt_eq.mp h; exact h
  refine ⟨⟨rfl, rfl⟩, fun F' hS => ?_⟩
  have h1 := opnd_same hS.1
  have hj' : F'.bl j = some (.vec sz (L.map enc)) := (hS.2 j (by simp)).trans hj
  have hx' := (h1 x (by simp)).trans hx
  have hy' := (h1 y (by simp)).trans hy
  refine Tri.eff rfl rfl (fun k hk => dom_over hk) (fun ρ M a w hr => ?_)
  have ex : a.eval x = vptr ρ j (k * sz) := opnd_rep hr hx'
  have ey : v.rep ρ M (a.eval y) := opnd_rep hr hy'
  obtain ⟨ad, cap, e1, hc, hx2⟩ := vec_flat (hr.heap.inv j _ hj')
  obtain ⟨b, off, arr, ty', vs, rfl, g1, g2, g3, g4, g5⟩ := hx2 (by omega)
  have ex2 : a.eval x = .pointer (some ⟨b, off + k * sz, none⟩) := by rw [ex]; unfold vptr; rw [e1]
  have hcr := rowD_rep hD (A1.cells_rep hp ey)
  have hlen : (a.eval y).cells.toList.length = sz := by rw [hcr.len]; exact hsz z
  have hvl : vs.length = L.length * sz := by rw [g4.len, flatten_len (rows_map hsz L), List.length_map]
  have hkk : (k + 1) * sz ≤ cap * sz := Nat.mul_le_mul_right sz (by omega)
  have hsm : (k + 1) * sz = k * sz + sz := Nat.succ_mul k sz
  have hkL : (k + 1) * sz ≤ L.length * sz := Nat.mul_le_mul_right sz (by omega)
  obtain ⟨w', q1, q2, q3, q4, q5, q6, q7⟩ := storeCells_run (P := P) (b := b) (off := off + k * sz) (ty := ty') (a.eval y).cells.toList 0 w arr g1 (rowOne_rep hone hcr) (by omega)
  rw [Nat.add_zero] at q2
  refine ⟨w', M, ?_, Mem.le_refl _, fun ρ' h0 => ?_⟩
  · unfold execOp
    simp only [ex2]
    have hsv : (storeVar t ⟨b, off + k * sz, none⟩ (a.eval y)).run P w = .ok () w' := by
      unfold storeVar
      rw [run_bind_ok (tinfo_size ht w)]
      rw [if_neg (by have : (a.eval y).cells.size = sz := by simpa using hlen
                     simp [this])]
      exact q1
    show (do storeVar t ⟨b, off + k * sz, none⟩ (a.eval y); pure Next.skip : Sem Next).run P w = _
    rw [run_bind_ok hsv]
    rfl
  · have ex' : a.eval x = vptr ρ' j (k * sz) := opnd_rep h0 hx'
    obtain ⟨ad', cap', e1', hc', hx2'⟩ := vec_flat (h0.heap.inv j _ hj')
    obtain ⟨b', off', arr', ty2, vs', rfl, g1', g2', g3', g4', g5'⟩ := hx2' (by omega)
    have ex2' : a.eval x = .pointer (some ⟨b', off' + k * sz, none⟩) := by rw [ex']; unfold vptr; rw [e1']
    have eb : b' = b ∧ off' = off := by
      have := ex2'.symm.trans ex2
      simp only [Value.pointer.injEq, Option.some.injEq, Addr.mk.injEq] at this
      omega
    obtain ⟨rfl, rfl⟩ := eb
    have ea : arr' = arr ∧ ty2 = ty' := by have := g1'.symm.trans g1; simpa using this
    obtain ⟨rfl, rfl⟩ := ea
    have hcr' := rowD_rep hD (A1.cells_rep hp (opnd_rep h0 hy' : v.rep ρ' M (a.eval y)))
    have hpos : 0 < cap' := by omega
    have hown : (Ob.vec sz (L.map enc)).blkOf (ρ' j) = some b' := by rw [e1']; simp [Ob.blkOf, hpos]
    refine h0.heap.change j (fun x => x = b') ?_ ⟨q5, q6, q7, Nat.le_of_eq q4.symm⟩ (fun x _ hx => q3 x hx) (Mem.le_refl _) (fun _ _ _ => ⟨fun _ => rfl, rfl⟩) ?_ ?_
    · rintro x rfl _
      exact h0.heap.priv j _ _ hj' hown
    · rintro x (rfl | hx)
      · exact ⟨fun o v hv => (by rw [g3' o] at hv; cases hv), fun o ho => (by rw [h0.heap.mem.noObj g1'] at ho; cases ho)⟩
      · have := h0.heap.mem.none hx
        exact ⟨fun o v hv => (by rw [this.1 o] at hv; cases hv), fun o ho => (by rw [this.2] at ho; cases ho)⟩
    · intro k' ob hk'
      rw [over_one] at hk'
      split at hk'
      · rename_i e
        subst e
        cases hk'
        refine .inr (.inr ⟨rfl, ?_, fun x hx => .inl (by rw [show (Ob.vec sz ((L.set k z).map enc)).blkOf (ρ' j) = (Ob.vec sz (L.map enc)).blkOf (ρ' j) by rw [e1']; rfl, hown] at hx; cases hx; rfl)⟩)
        rw [e1']
        have hsl : (L.set k z).length = L.length := by simp
        have hvl' : vs'.length = L.length * sz := by rw [g4'.len, flatten_len (rows_map hsz L), List.length_map]
        rw [show (Value.slice (some ⟨b', off', none⟩) L.length cap') = .slice (some ⟨b', off', none⟩) (L.set k z).length cap' by rw [hsl]]
        refine vec_of (vs := setV vs' (k * sz) (a.eval y).cells.toList) hsz (by rw [hsl]; exact hc') q2 (by simp [setV_len]; exact g2') g3' ?_ (fun q u hq => ?_)
        · rw [List.map_set]
          refine RepsD.ofGet ?_ (fun i d u hd hu => ?_)
          · rw [setV_len, hvl', flatten_len (sz := sz), List.length_set, List.length_map]
            intro row hrow
            rcases List.mem_or_eq_of_mem_set hrow with h | h
            · exact rows_map hsz L row h
            · rw [h]; exact hsz z
          · rw [flatten_set k (rows_map hsz L) (hsz z) (by simpa using hk)] at hd
            rw [setV_get _ _ _ _ (by omega), hlen] at hu
            split at hd
            · rename_i hc2
              rw [if_pos hc2] at hu
              obtain ⟨u2, u3, u4⟩ := hcr'.get _ d hd
              rw [hu] at u3; cases u3; exact u4
            · rename_i hc2
              rw [if_neg hc2] at hu
              obtain ⟨u2, u3, u4⟩ := g4'.get _ d hd
              rw [hu] at u3; cases u3; exact u4
        · rw [setV_get _ _ _ _ (by omega), hlen] at hq
          rw [List.getElem?_toArray, setV_get _ _ _ _ (by rw [hlen, Array.length_toList]; omega), hlen]
          split at hq
          · rename_i hc2
            rw [if_pos (by omega), show off' + q - (off' + k * sz) = q - k * sz by omega]; exact hq
          · rename_i hc2
            rw [if_neg (by omega)]
            simpa using g5' q u hq
      · rename_i e
        refine .inr (.inl ⟨hk', fun x hx hS' => ?_⟩)
        subst hS'
        exact e ((h0.heap.dist k' j _ _ _ hk' hj' hx hown).symm)

/-! ### giving up: the slice stays as it is -/
def allOwn (sl : List (Nat × AV)) (j : Nat) : List Nat → Prop
  | [] => True
  | s :: r => look sl s = some (.s (.c (.own j))) ∧ allOwn sl j r
theorem allOwn_spec {sl : List (Nat × AV)} {j : Nat} : ∀ {ss : List Nat}, allOwn sl j ss → ∀ s ∈ ss, look sl s = some (.s (.c (.own j)))
  | [], _, s, h => by cases h
  | x :: r, hl, s, h => by
    cases h with
    | head => exact hl.1
    | tail _ hm => exact allOwn_spec hl.2 s hm
def frz (ss : List Nat) (v : AV) (sl : List (Nat × AV)) : List (Nat × AV) := match ss with
  | [] => sl
  | s :: r => (s, v) :: frz r v sl
theorem frz_look {v : AV} {sl : List (Nat × AV)} : ∀ {ss : List Nat} {t : Nat} {u : AV}, look (frz ss v sl) t = some u → (t ∈ ss ∧ u = v) ∨ look sl t = some u
  | [], t, u, h => .inr h
  | s :: r, t, u, h => by
    unfold frz at h
    rw [look_cons] at h
    split at h
    · rename_i e; subst e; cases h; exact .inl ⟨by simp, rfl⟩
    · rcases frz_look h with ⟨h1, h2⟩ | h1
      · exact .inl ⟨by simp [h1], h2⟩
      · exact .inr h1
theorem Conv.freeze {α : Type} {enc : α → List D} {L : List α} {sl : List (Nat × AV)} {bl : List (Nat × Ob)} {nx : Nat} (ss : List Nat) (j j' sz nx' : Nat) (hv : allOwn sl j ss) (hj : look bl j = some (.vec sz (L.map enc))) (hsz : allR sz enc) (hj' : look bl j' = none) :
    Conv C ⟨sl, bl, nx⟩ ⟨frz ss (.s (.c (.tl j' (L.map enc)))) sl, (j', .tail sz) :: (j, .dead) :: bl, nx'⟩ := by
  intro ρ M a w hr
  have hr0 := hr.at
  obtain ⟨ad, cap, e1, hc, hx⟩ := vec_flat (hr0.heap.inv j _ hj)
  have hne : j ≠ j' := fun e => by subst e; rw [hj] at hj'; cases hj'
  -- the memory that stays, with the vector's cells
  have key : ∃ M', M.le M' ∧ Rep M' (.sl (L.map enc)) (ρ j) ∧ ∀ ρ', (∀ i, look bl i ≠ none → ρ' i = ρ i) → ρ' j' = ρ j → RelW C (look bl) ρ' M w → RelW C (look ((j', Ob.tail sz) :: (j, Ob.dead) :: bl)) ρ' M' w := by
    by_cases hcap : 0 < cap
    · obtain ⟨b, off, arr, ty', vs, rfl, g1, g2, g3, g4, g5⟩ := hx hcap
      have hle : M.le (M.put b off vs) := Mem.put_le (fun o _ => g3 o)
      have hvl : vs.length = L.length * sz := by rw [g4.len, flatten_len (rows_map hsz L), List.length_map]
      have hcs : L.length * sz ≤ cap * sz := Nat.mul_le_mul_right sz hc
      refine ⟨M.put b off vs, hle, ?_, fun ρ' hag hj1 h0 => ?_⟩
      · rw [e1]
        have := Rep.ofFlat (M := M.put b off vs) (l := L.map enc) (b := b) (off := off) (cap := cap) (sz := sz) (vs := vs) (by rw [List.length_map]; exact hc) (rows_map hsz L) (g4.mono hle) (fun k u hk => Mem.put_at hk)
        rwa [List.length_map] at this
      · have hρj : ρ' j = .slice (some ⟨b, off, none⟩) L.length cap := by rw [hag j (by rw [hj]; simp), e1]
        have hown : (Ob.vec sz (L.map enc)).blkOf (ρ' j) = some b := by rw [hρj]; simp [Ob.blkOf, hcap]
        refine h0.change j' (fun x => x = b) ?_ ⟨rfl, rfl, rfl, Nat.le_refl _⟩ (fun _ _ _ => rfl) hle (fun x _ hx => ⟨fun o => Mem.put_far hx, rfl⟩) ?_ ?_
        · rintro x rfl _
          exact h0.priv j _ _ hj hown
        · rintro x hx
          refine ⟨fun o v hv => ?_, fun o ho => h0.mem.obj x o ho⟩
          by_cases hxb : x = b
          · subst hxb
            rcases Mem.put_inv hv with ⟨h2, h3⟩ | h3
            · have := g5 _ _ h3
              simp only [World.cell?, g1]
              rw [show off + (o - off) = o by omega] at this
              simpa using this
            · rw [g3 o] at h3; cases h3
          · rw [Mem.put_far hxb] at hv; exact h0.mem.cell x o v hv
        · intro k ob hk
          rw [look_cons, look_cons] at hk
          split at hk
          · rename_i e
            subst e
            cases hk
            refine .inr (.inr ⟨rfl, ?_, fun x hx => .inl ?_⟩)
            · rw [hj1, e1]
              refine ⟨_, _, _, rfl, hc, fun hlt => ⟨b, off, arr, ty', rfl, g1, g2, fun o ho => ?_⟩⟩
              simp only [Mem.put]
              rw [if_neg (by omega)]
              exact g3 o
            · rw [hj1, e1] at hx
              simp only [Ob.blkOf] at hx
              split at hx
              · cases hx; rfl
              · cases hx
          · split at hk
            · cases hk; exact .inl rfl
            · rename_i e2
              refine .inr (.inl ⟨hk, fun x hxb hS' => ?_⟩)
              subst hS'
              exact e2 ((h0.dist k j _ _ _ hk hj hxb hown).symm)
    · have hL : L = [] := List.eq_nil_of_length_eq_zero (by omega)
      subst hL
      refine ⟨M, Mem.le_refl _, by rw [e1]; exact Rep.nil, fun ρ' hag hj1 h0 => ?_⟩
      have hcap0 : cap = 0 := by omega
      subst hcap0
      refine h0.change j' (fun _ => False) (fun _ h => h.elim) ⟨rfl, rfl, rfl, Nat.le_refl _⟩ (fun _ _ _ => rfl) (Mem.le_refl _) (fun _ _ _ => ⟨fun _ => rfl, rfl⟩) (fun b _ => ⟨fun o v hv => h0.mem.cell b o v hv, fun o ho => h0.mem.obj b o ho⟩) (fun k ob hk => ?_)
      rw [look_cons, look_cons] at hk
      split at hk
      · rename_i e
        subst e
        cases hk
        refine .inr (.inr ⟨rfl, ?_, fun x hx => ?_⟩)
        · rw [hj1, e1]; exact ⟨_, _, _, rfl, Nat.le_refl _, fun h => absurd h (by simp)⟩
        · rw [hj1, e1] at hx
          cases ad with
          | none => cases hx
          | some ad => simp [Ob.blkOf] at hx
      · split at hk
        · cases hk; exact .inl rfl
        · exact .inr (.inl ⟨hk, fun _ _ h => h⟩)
  obtain ⟨M', hle, hrep, hrel⟩ := key
  refine ⟨fun i => if i = j' then ρ j else ρ i, M', fun ρ' ha => ?_⟩
  have hag : ∀ i, look bl i ≠ none → ρ' i = ρ i := fun i hi => by
    have hni : i ≠ j' := fun e => hi (e ▸ hj')
    have := ha i (by
      show look ((j', Ob.tail sz) :: (j, Ob.dead) :: bl) i ≠ none
      rw [look_cons, if_neg (Ne.symm hni), look_cons]
      split
      · simp
      · exact hi)
    rw [this]; exact if_neg hni
  have hj1 : ρ' j' = ρ j := by
    have := ha j' (by show look ((j', Ob.tail sz) :: (j, Ob.dead) :: bl) j' ≠ none; rw [look_cons, if_pos rfl]; simp)
    rw [this]; exact if_pos rfl
  have h0 := hr ρ' (fun i hi => hag i hi)
  refine ⟨h0.defers, h0.size, fun t u hu => ?_, hrel ρ' hag hj1 h0.heap⟩
  rcases frz_look (show look (frz ss (AV.s (.c (.tl j' (L.map enc)))) sl) t = some u from hu) with ⟨hm, rfl⟩ | hu'
  · have h2 : a.tmps.getD t undef = ρ' j := h0.slots t _ (allOwn_spec hv t hm)
    rw [hag j (by rw [hj]; simp)] at h2
    exact ⟨by rw [h2, hj1], by rw [h2]; exact hrep⟩
  · exact (h0.slots t u hu').mono hle
/-- the exact empty slice becomes one that is written -/
theorem Conv.nilV {α : Type} {enc : α → List D} {sl : List (Nat × AV)} {bl : List (Nat × Ob)} {nx : Nat} (s j sz : Nat) (nx' : Nat) (hv : look sl s = some (.s (.c (.d (.v (.slice none 0 0)))))) (hj : look bl j = none) : Conv C ⟨sl, bl, nx⟩ ⟨(s, .s (.c (.own j))) :: sl, (j, .vec sz (([] : List α).map enc)) :: bl, nx'⟩ := by
  intro ρ M a w hr
  refine ⟨fun i => if i = j then .slice none 0 0 else ρ i, M, fun ρ' ha => ?_⟩
  have hag : Agree (look bl) ρ ρ' := fun i hi => by
    have hne : i ≠ j := fun e => hi (e ▸ hj)
    have := ha i (by show look ((j, _) :: bl) i ≠ none; rw [look_cons, if_neg (Ne.symm hne)]; exact hi)
    rw [this]; exact if_neg hne
  have hnj : ρ' j = .slice none 0 0 := by
    have := ha j (by show look ((j, _) :: bl) j ≠ none; rw [look_cons, if_pos rfl]; simp)
    rw [this]; exact if_pos rfl
  have h0 := hr ρ' hag
  refine ⟨h0.defers, h0.size, fun t u hu => ?_, ?_⟩
  · have hu' : look ((s, AV.s (.c (.own j))) :: sl) t = some u := hu
    rw [look_cons] at hu'
    split at hu'
    · rename_i e
      subst e
      cases hu'
      have := Rep.v_inv (h0.slots s _ hv)
      show _ = ρ' j
      rw [this, hnj]
    · exact h0.slots t u hu'
  · refine h0.heap.change j (fun _ => False) (fun _ h => h.elim) ⟨rfl, rfl, rfl, Nat.le_refl _⟩ (fun _ _ _ => rfl) (Mem.le_refl _) (fun _ _ _ => ⟨fun _ => rfl, rfl⟩) (fun b _ => ⟨fun o v hv => h0.heap.mem.cell b o v hv, fun o ho => h0.heap.mem.obj b o ho⟩) (fun k ob hk => ?_)
    have hk' : look ((j, Ob.vec sz (([] : List α).map enc)) :: bl) k = some ob := hk
    rw [look_cons] at hk'
    split at hk'
    · rename_i e
      subst e
      cases hk'
      refine .inr (.inr ⟨rfl, ?_, fun b hb => ?_⟩)
      · rw [hnj]; exact ⟨none, 0, rfl, Nat.le_refl _, fun i row hi => by simp at hi, fun h => absurd h (Nat.lt_irrefl _)⟩
      · rw [hnj] at hb; cases hb
    · exact .inr (.inl ⟨hk', fun _ _ h => h⟩)

/-! ### a call that reads a written slice -/
/-- the arguments as the callee sees them: slices that are written are seen as data -/
def seen (F : FS) : List A1 → List A1 → Prop
  | [], [] => True
  | y :: ys, x :: xs => ((y = x ∨ y.norm = x) ∨ ∃ j sz l, y = .c (.own j) ∧ F.bl j = some (.vec sz l) ∧ x = .c (.d (.sl l))) ∧ seen F ys xs
  | _, _ => False
/-- the objects that the arguments speak of -/
def ownsOf : List A1 → List Nat
  | [] => []
  | .c (.own j) :: r => j :: ownsOf r
  | _ :: r => ownsOf r
/-- a value without memory -/
def flat1 : A1 → Bool
  | .c (.d (.v _)) => true
  | .agg cs => match cellVals cs with | some _ => true | none => false
  | _ => false
def flatAV : AV → Bool
  | .s x => flat1 x
  | .tup xs => xs.all flat1
  | .gd _ _ => false
theorem flat1_rep {x : A1} (h : flat1 x = true) {ρ ρ' : Env} {M M' : Mem} {v : Value} (hr : x.rep ρ M v) : x.rep ρ' M' v := by
  unfold flat1 at h
  split at h
  · rw [Rep.v_inv hr]; exact Rep.v _
  · rename_i cs
    split at h
    · rename_i l hl
      obtain ⟨arr, rfl, h2⟩ := hr
      refine ⟨arr, rfl, ?_⟩
      have e := cellVals_rep hl h2
      have key : ∀ (cs : List Cell) (l : List Value), cellVals cs = some l → Reps ρ' M' cs l := by
        intro cs
        induction cs with
        | nil => intro l h; simp [cellVals] at h; subst h; trivial
        | cons c r ih =>
          intro l h
          unfold cellVals at h
          split at h
          · split at h
            · rename_i l' hl'; cases h; exact ⟨Rep.v _, ih _ hl'⟩
            · cases h
          · cases h
      rw [e]; exact key cs l hl
    · cases h
  · cases h
theorem flatAV_rep {x : AV} (h : flatAV x = true) {ρ ρ' : Env} {M M' : Mem} {v : Value} (hr : x.rep ρ M v) : x.rep ρ' M' v := by
  cases x with
  | s y => exact flat1_rep h hr
  | gd g y => cases h
  | tup xs =>
    obtain ⟨arr, rfl, h2⟩ := hr
    refine ⟨arr, rfl, ?_⟩
    have key : ∀ (xs : List A1) (vs : List Value), xs.all flat1 = true → A1.reps ρ M xs vs → A1.reps ρ' M' xs vs := by
      intro xs
      induction xs with
      | nil => intro vs _ h; cases vs with
        | nil => trivial
        | cons _ _ => exact h.elim
      | cons y ys ih =>
        intro vs ha h
        cases vs with
        | nil => exact h.elim
        | cons u us =>
          simp only [List.all_cons, Bool.and_eq_true] at ha
          exact ⟨flat1_rep ha.1 h.1, ih us ha.2 h.2⟩
    exact key xs arr.toList h h2
/-- all that an object holds, as memory that stays for a while -/
def memW (M : Mem) (w : World) : Mem := ⟨fun b o => match w.heap[b]? with
  | some (.cells c _ _) => c[o]?
  | _ => none, M.obj⟩
theorem memW_le {M : Mem} {w : World} (h : InW M w) : M.le (memW M w) := by
  refine ⟨fun b o v hv => ?_, fun _ _ h => h⟩
  have := h.cell b o v hv
  simp only [World.cell?] at this
  simp only [memW]
  split at this
  · rename_i c t f hc; rw [hc]; simpa using this
  · cases this
theorem memW_in {M : Mem} {w : World} (h : InW M w) : InW (memW M w) w := by
  refine ⟨fun b o v hv => ?_, h.obj⟩
  simp only [memW] at hv
  simp only [World.cell?]
  split at hv
  · rename_i c t f hc; rw [hc]; simpa using hv
  · cases hv
theorem vec_seen {ρ : Env} {M : Mem} {w : World} {sz : Nat} {l : List (List D)} {v : Value} (hm : InW M w) (h : Inv1 ρ M w (.vec sz l) v) : Rep (memW M w) (.sl l) v := by
  obtain ⟨a, cap, rfl, hc, hrow, hx⟩ := h
  by_cases hp : 0 < cap
  · obtain ⟨b, off, arr, ty', f, rfl, h1, h2, h3, h4⟩ := hx hp
    exact .sl (f := f) hc hrow (fun i row j d hi hj => by simp only [memW, h1]; exact (h4 i row j d hi hj).1) (fun i row j d hi hj => (h4 i row j d hi hj).2.mono (memW_le hm))
  · have : l = [] := List.eq_nil_of_length_eq_zero (by omega)
    subst this
    exact .nil
theorem seen_reps {ρ : Env} {M : Mem} {w : World} (h : RelW C F.bl ρ M w) : ∀ {ys xs : List A1} {vs : List Value}, seen F ys xs → A1.reps ρ M ys vs → A1.reps ρ (memW M w) xs vs
  | [], [], [], _, _ => trivial
  | [], [], _ :: _, _, hr => hr.elim
  | [], _ :: _, _, hs, _ => hs.elim
  | _ :: _, [], _, hs, _ => hs.elim
  | _ :: _, _ :: _, [], _, hr => hr.elim
  | y :: ys, x :: xs, v :: vs, hs, hr => by
    refine ⟨?_, seen_reps h hs.2 hr.2⟩
    rcases hs.1 with (rfl | rfl) | ⟨j, sz, l, rfl, hj, rfl⟩
    · exact A1.rep.mono (memW_le h.mem) hr.1
    · exact A1.rep.mono (memW_le h.mem) (A1.norm_rep hr.1)
    · have e : v = ρ j := hr.1
      rw [e]
      exact vec_seen h.mem (h.inv j _ hj)
theorem seen_same {F' : FS} : ∀ {ys xs : List A1}, (∀ j ∈ ownsOf ys, F'.bl j = F.bl j) → seen F ys xs → seen F' ys xs
  | [], [], _, h => h
  | [], _ :: _, _, h => h.elim
  | _ :: _, [], _, h => h.elim
  | y :: ys, x :: xs, hb, h => by
    refine ⟨?_, seen_same (fun j hj => hb j (by
      cases y with
      | c z => cases z <;> simp [ownsOf, hj]
      | agg cs => simp [ownsOf, hj])) h.2⟩
    rcases h.1 with h1 | ⟨j, sz, l, rfl, hj, rfl⟩
    · exact .inl h1
    · exact .inr ⟨j, sz, l, rfl, (hb j (by simp [ownsOf])).trans hj, rfl⟩
/-- a call whose result needs no memory, over data and slices that are written -/
theorem triLoan [hT : HasTab P C] {f : FuncId} {args : Array Operand} {argTypes : Array TypeId} {ys as : List A1} {res : AV} (hc : Con P f as [] res []) (hy : rds F args.toList = some ys) (hfit : seen F ys as) (hs : sideOk F true args.toList) (hf : Entry P f) (hsa : a1sIn [] as = true) (hfl : flatAV res = true) (hn : Nat.blt dst C.n = true) :
    TriL P C ops ⟨some dst, .call ⟨.value (.func f), args, argTypes⟩, ty, pos, after, none⟩ ⟨slotsOf args.toList, ownsOf ys, [dst], []⟩ [(dst, res)] [] F := by
  refine ⟨⟨rfl, rfl⟩, fun F' hS => ?_⟩
  have h1 := opnd_same hS.1
  obtain ⟨fn, hf1, hf2, hf3⟩ := hf
  intro Q' K' hK ρ M a w hr
  rw [if_pos (wanted_none rfl)]
  refine .inl ?_
  unfold Oper.wp
  rw [call_run rfl hf1 hf2 hf3]
  show Calls P f _ w _
  have hrep := seen_reps hr.at.heap (seen_same hS.2 hfit) (rds_rep (reads_of hr.at rfl (sideOk_same h1 hs)) ((rds_same h1).trans hy))
  have hin := memW_in hr.at.heap.mem
  refine (hc ρ (memW M w) w (fun _ => False) _ (hT.tab.mono (hr.at.heap.base.trans (memW_le hr.at.heap.mem))) (fun ρc ha => ⟨⟨fun j ob hj => (by cases hj), fun i j x y b hi => (by cases hi), fun j ob b hj => (by cases hj), hin, Mem.le_refl _, fun _ _ _ => ⟨fun _ => rfl, rfl⟩, Kept.refl _ _, fun j hj => absurd rfl hj⟩, a1sIn_rep (bl := []) (fun j hj => absurd rfl hj) hsa hrep⟩)).mono ?_
  rintro e w' ⟨u, ρ1, M', rfl, hfin⟩
  show K' (a.put (some dst) u) w'
  refine hK ρ M _ _ fun ρ' ha => ?_
  have h0 := hr ρ' (fun j hj => ha j (by rw [FS.upd, over_nil]; exact hj))
  obtain ⟨g1, g2⟩ := hfin ρ' (fun j hj => absurd rfl hj)
  refine h0.put (Nat.blt_eq.mp hn) (flatAV_rep hfl g1) (Mem.le_refl _) ?_
  rw [over_nil]
  -- the world has grown, nothing else
  have hk := g2.kept
  refine ⟨fun j ob hj => (h0.heap.inv j ob hj).keep (Mem.le_refl _) (fun b hb => ⟨hk.block b (h0.heap.lt j ob b hj hb) (fun h => h), fun _ => rfl, rfl⟩), h0.heap.dist, h0.heap.priv, ⟨fun b o v hv => ?_, fun b o ho => ?_⟩, h0.heap.base, h0.heap.fresh, ?_, h0.heap.names⟩
  · have hl := h0.heap.mem.lt hv
    have := h0.heap.mem.cell b o v hv
    unfold World.cell? at this ⊢
    simp only at this ⊢
    rw [show w'.heap[b]? = w.heap[b]? from hk.block b hl (fun h => h)]; exact this
  · have hl := h0.heap.mem.ltO ho
    rw [show w'.heap[b]? = w.heap[b]? from hk.block b hl (fun h => h)]; exact h0.heap.mem.obj b o ho
  · exact h0.heap.kept.trans ⟨hk.os, hk.tape, hk.output, hk.size, fun k hkk _ => hk.block k hkk (fun h => h)⟩
end Go.E2

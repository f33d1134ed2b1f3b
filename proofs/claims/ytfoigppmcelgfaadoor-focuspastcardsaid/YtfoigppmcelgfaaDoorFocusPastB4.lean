/-
  Part 4 of the texts under the law FocusPast: the calculus, the plain functions, their walks, plain facts.
-/
import Derived.Test.YtfoigppmcelgfaaDoorFocusPastB3
import Derived.Below
import Derived.Test.YtfoigppmcelgfaaDoorProg
import Derived.KernelRfl
section
namespace Go.E2
variable {P : Program} {C : Ctx} {F : FS} {ops : Array Oper} {dst : Nat} {op : Op} {ty : TypeId} {pos : String} {after : Array Edge}
theorem sliceAt_run {t e sz : Nat} {a : Option Addr} {len cap lo hi : Nat} {ol oh : Option Value} (ht : slInfo P t = some (e, sz)) (hl : Bnd ol 0 lo) (hh : Bnd oh len hi) (h1 : lo ≤ hi) (h2 : hi ≤ len) (hc : len ≤ cap) (w : World) :
    (Instr.sliceAt t (.slice a len cap) ol oh none).run P w = .ok (.slice (if cap = lo then a else a.map (·.add (lo * sz))) (hi - lo) (cap - lo)) w := by
  have hb : (Instr.sliceBounds true len cap ol oh none).run P w = .ok (lo, hi, cap) w := by
    unfold Instr.sliceBounds
    simp only [pure_bind]
    rcases hh with ⟨rfl, e0⟩ | ⟨k, rfl⟩
    · have e1 : hi = len := by omega
      subst e1
      rcases hl with ⟨rfl, e2⟩ | ⟨k', rfl⟩
      · have : lo = 0 := by omega
        subst this; rfl
      · simp only
        rw [run_bind_ok (sliceBound_run (by omega) (by omega) w)]
        rfl
    · simp only
      rw [run_bind_ok (sliceBound_run (by omega) (by omega) w)]
      rcases hl with ⟨rfl, e2⟩ | ⟨k', rfl⟩
      · have : lo = 0 := by omega
        subst this; rfl
      · simp only
        rw [run_bind_ok (sliceBound_run (by omega) (by omega) w)]
        rfl
  have hu := slInfo_under ht w
  unfold Instr.sliceAt
  rw [run_bind_ok hu]
  simp only
  unfold Instr.slice
  rw [run_bind_ok hu]
  simp only
  rw [run_bind_ok hb]
  simp only
  rw [run_bind_ok (slInfo_size ht w)]
  rfl
theorem triSlcV {α : Type} {enc : α → List D} {L : List α} {t e sz j j' : Nat} {x hi : Operand} {k : IntKind} {i : Int} {n : Nat} (hi0 : ixO (L.length + 1) i = some n) (hx : opnd F x = some (.s (.c (.own j)))) (hj : F.bl j = some (.vec sz (L.map enc))) (hh : rdV F hi = some (.int k i)) (ht : slInfo P t = some (e, sz)) (hsz : allR sz enc) (hs : sideOk F true [x, hi]) (hd : Nat.blt dst C.n = true) (hj' : F.bl j' = none) :
    TriL P C ops ⟨some dst, .slice t x none (some hi) none, ty, pos, after, none⟩ ⟨slotsOf [x, hi], [j, j'], [dst], [j', j]⟩ [(dst, .s (.c (.tl j' ((L.take n).map enc))))] [(j', .tail sz), (j, .dead)] F := by
  obtain ⟨rfl, hn⟩ := ixO_spec hi0
  refine ⟨⟨rfl, rfl⟩, fun F' hS => ?_⟩
  have h1 := opnd_same hS.1
  have hx' := (h1 x (by simp)).trans hx
  have hj1 : F'.bl j = some (.vec sz (L.map enc)) := (hS.2 j (by simp)).trans hj
  have hj2 : F'.bl j' = none := (hS.2 j' (by simp)).trans hj'
  have hne : j' ≠ j := fun e => by subst e; rw [hj1] at hj2; cases hj2
  refine Tri.val [j'] rfl rfl hd (fun k hk => by simp at hk; subst hk; exact hj2) (fun k hk => dom_over hk) (fun k hk => by simp at hk; subst hk; simp [over, look]) (fun ρ M a w hr => ?_)
  have hR := reads_of hr rfl (sideOk_same h1 hs)
  have ex : a.eval x = ρ j := opnd_rep hr hx'
  have eh : a.eval hi = .int k n := rdV_eval hR (by simp) ((rdV_same (h1 hi (by simp))).trans hh)
  obtain ⟨ad, cap, e1, hc, hx2⟩ := vec_flat (hr.heap.inv j _ hj1)
  have hrun : ∀ u, u = Value.slice ad n cap → (execOp a.eval ⟨some dst, .slice t x none (some hi) none, ty, pos, after, none⟩).run P w = .ok (.value u) w := fun u hu => by
    subst hu
    unfold execOp
    simp only
    refine bind_value ?_
    have := sliceAt_run (P := P) (a := ad) (len := L.length) (cap := cap) (lo := 0) (hi := n) (ol := none) (oh := some (.int k n)) ht (.inl ⟨rfl, rfl⟩) (.inr ⟨k, rfl⟩) (Nat.zero_le _) (by omega) hc w
    rw [ex, e1]
    simp only [Option.map_none, Option.map_some, eh]
    rw [this]
    congr 2
    by_cases h0 : cap = 0
    · simp [h0]
    · rw [if_neg h0]
      cases ad with
      | none => rfl
      | some ad => obtain ⟨b, o, s⟩ := ad; simp [Addr.add]
  have hov : ∀ k' ob, over [(j', Ob.tail sz), (j, Ob.dead)] F'.bl k' = some ob → (k' = j' ∧ ob = .tail sz) ∨ ob = .dead ∨ (k' ≠ j ∧ F'.bl k' = some ob) := fun k' ob hk' => by
    unfold over at hk'
    rw [look_cons, look_cons] at hk'
    by_cases q1 : j' = k'
    · subst q1; rw [if_pos rfl] at hk'; cases hk'; exact .inl ⟨rfl, rfl⟩
    · rw [if_neg q1] at hk'
      by_cases q2 : j = k'
      · subst q2; rw [if_pos rfl] at hk'; cases hk'; exact .inr (.inl rfl)
      · rw [if_neg q2] at hk'
        exact .inr (.inr ⟨fun e => q2 e.symm, hk'⟩)
  by_cases hcap : 0 < cap
  · obtain ⟨b, off, arr, ty', vs, rfl, g1, g2, g3, g4, g5⟩ := hx2 hcap
    have hvl : vs.length = L.length * sz := by rw [g4.len, flatten_len (rows_map hsz L), List.length_map]
    have hns : n * sz ≤ L.length * sz := Nat.mul_le_mul_right sz (by omega)
    have hns2 : L.length * sz ≤ cap * sz := Nat.mul_le_mul_right sz hc
    have hle : M.le (M.put b off (vs.take (n * sz))) := Mem.put_le (fun o _ => g3 o)
    have hnl : (L.take n).length = n := by simp; omega
    have hrep : Rep (M.put b off (vs.take (n * sz))) (.sl ((L.take n).map enc)) (.slice (some ⟨b, off, none⟩) n cap) := by
      have := Rep.ofFlat (M := M.put b off (vs.take (n * sz))) (l := (L.take n).map enc) (b := b) (off := off) (cap := cap) (sz := sz) (vs := vs.take (n * sz)) (by rw [List.length_map, hnl]; omega) (rows_map hsz _) (by
        rw [List.map_take, flatten_take (sz := sz) _ (rows_map hsz L)]
        exact (g4.mono hle).take _) (fun k u hk => Mem.put_at hk)
      rwa [List.length_map, hnl] at this
    refine ⟨_, w, M.put b off (vs.take (n * sz)), fun _ => .slice (some ⟨b, off, none⟩) n cap, hrun _ rfl, hle, fun ρ' h0 hnv => ⟨⟨(hnv j' (by simp)).symm, hrep⟩, ?_⟩⟩
    have hj3 : ρ' j' = .slice (some ⟨b, off, none⟩) n cap := hnv j' (by simp)
    have ex' : a.eval x = ρ' j := opnd_rep h0 hx'
    have hρj : ρ' j = .slice (some ⟨b, off, none⟩) L.length cap := by rw [← ex', ex, e1]
    have hown : (Ob.vec sz (L.map enc)).blkOf (ρ' j) = some b := by rw [hρj]; simp [Ob.blkOf, hcap]
    refine h0.heap.change j' (fun x => x = b) ?_ ⟨rfl, rfl, rfl, Nat.le_refl _⟩ (fun _ _ _ => rfl) hle (fun x _ hx => ⟨fun o => Mem.put_far hx, rfl⟩) ?_ ?_ (fun x hx => by rw [hx]; exact h0.heap.noJunk hj1 hown)
    · rintro x rfl _
      exact h0.heap.priv j _ _ hj1 hown
    · rintro x hx
      refine ⟨fun o v hv => ?_, fun o ho => h0.heap.mem.obj x o ho⟩
      by_cases hxb : x = b
      · subst hxb
        rcases Mem.put_inv hv with ⟨h2, h3⟩ | h3
        · rw [List.getElem?_take] at h3
          split at h3
          · have := g5 _ _ h3
            simp only [World.cell?, g1]
            rw [show off + (o - off) = o by omega] at this
            simpa using this
          · cases h3
        · rw [g3 o] at h3; cases h3
      · rw [Mem.put_far hxb] at hv; exact h0.heap.mem.cell x o v hv
    · intro k' ob hk'
      rcases hov k' ob hk' with ⟨rfl, rfl⟩ | rfl | ⟨hkj, hk2⟩
      · refine .inr (.inr ⟨rfl, ?_, fun x hx => .inl ?_⟩)
        · rw [hj3]
          refine ⟨_, _, _, rfl, by omega, fun hlt => ⟨b, off, arr, ty', rfl, g1, g2, fun o ho => ?_⟩⟩
          simp only [Mem.put]
          rw [if_neg (by rw [List.length_take]; omega)]
          exact g3 o
        · rw [hj3] at hx
          simp only [Ob.blkOf] at hx
          split at hx
          · cases hx; rfl
          · cases hx
      · exact .inl rfl
      · refine .inr (.inl ⟨hk2, fun x hxb hS' => ?_⟩)
        subst hS'
        exact hkj (h0.heap.dist k' j _ _ _ hk2 hj1 hxb hown)
  · have hL : L = [] := List.eq_nil_of_length_eq_zero (by omega)
    subst hL
    have hn0 : n = 0 := by simpa using hn
    subst hn0
    have hcap0 : cap = 0 := by omega
    subst hcap0
    refine ⟨_, w, M, fun _ => .slice ad 0 0, hrun _ rfl, Mem.le_refl _, fun ρ' h0 hnv => ⟨⟨(hnv j' (by simp)).symm, Rep.nil⟩, ?_⟩⟩
    have hj3 : ρ' j' = .slice ad 0 0 := hnv j' (by simp)
    refine h0.heap.change j' (fun _ => False) (fun _ h => h.elim) ⟨rfl, rfl, rfl, Nat.le_refl _⟩ (fun _ _ _ => rfl) (Mem.le_refl _) (fun _ _ _ => ⟨fun _ => rfl, rfl⟩) (fun b _ => ⟨fun o v hv => h0.heap.mem.cell b o v hv, fun o ho => h0.heap.mem.obj b o ho⟩) (fun k' ob hk' => ?_)
    rcases hov k' ob hk' with ⟨rfl, rfl⟩ | rfl | ⟨hkj, hk2⟩
    · refine .inr (.inr ⟨rfl, ?_, fun x hx => ?_⟩)
      · rw [hj3]; exact ⟨_, _, _, rfl, Nat.le_refl _, fun h => absurd h (by simp)⟩
      · rw [hj3] at hx
        cases ad with
        | none => cases hx
        | some ad => simp [Ob.blkOf] at hx
    · exact .inl rfl
    · exact .inr (.inl ⟨hk2, fun _ _ h => h⟩)
theorem Rel.putNone {sl : List (Nat × AV)} {bl : Nat → Option Ob} {ρ : Env} {M : Mem} {a : Act} {w : World} {d : Nat} {u : Value} (hr : Rel C ⟨look sl, bl⟩ ρ M a w) (hd : look sl d = none) : Rel C ⟨look sl, bl⟩ ρ M (a.put (some d) u) w := by
  intro ρ' ha
  have h0 := hr ρ' ha
  refine ⟨h0.defers, by simpa [Act.put] using h0.size, fun s v hv => ?_, h0.heap⟩
  have hne : d ≠ s := fun e => by subst e; rw [show (FS.mk (look sl) bl).sl d = look sl d from rfl, hd] at hv; cases hv
  rw [eval_put_ne hne]; exact h0.slots s v hv
theorem clear_run {t e m cap b off : Nat} {ty : TypeId} {w w' : World} {zv : Value} (hut : (underlying t).run P w = .ok (.slice e) w) (hzv : (zeroValue e).run P w = .ok zv w) (hst : (storeCells ⟨b, off, none⟩ (Builtin.zeroCells zv.cells (m + 1)).toList).run P w = .ok () w') :
    (Builtin.clear_ #[t] ty #[.slice (some ⟨b, off, none⟩) (m + 1) cap]).run P w = .ok (.tuple #[]) w' := by
  refine (run_bind_ok hut).trans ?_
  refine (run_bind_ok hzv).trans ?_
  refine (run_bind_ok hst).trans ?_
  rfl
theorem OkOps.clrV {α : Type} {enc : α → List D} {L : List α} {t e sz j d : Nat} {x lo : Operand} {k : IntKind} {i : Int} {n : Nat} {z : List Value} {sl : List (Nat × AV)} {bl : List (Nat × Ob)} {nx : Nat} {rest : List Oper} {Q : AState → Prop} {ty2 : TypeId} {pos2 : String} {after2 : Array Edge} (zr : α)
    (hi0 : ixO (L.length + 1) i = some n) (hx : opnd ⟨look sl, look bl⟩ x = some (.s (.c (.own j)))) (hj : look bl j = some (.vec sz (L.map enc))) (hlo : rdV ⟨look sl, look bl⟩ lo = some (.int k i)) (ht : slInfo P t = some (e, sz)) (hz : zeroCells P e = some z) (hzr : enc zr = z.map D.v) (hzm : (z.all notMany && !z.isEmpty) = true) (hsz : allR sz enc) (hs : sideOk ⟨look sl, look bl⟩ true [x, lo]) (hd : look sl d = none) (hdn : Nat.blt d C.n = true)
    (h : OkOps P C ops rest Q ⟨sl, (j, .vec sz ((L.take n ++ List.replicate (L.length - n) zr).map enc)) :: bl, nx⟩) :
    OkOps P C ops (⟨some d, .slice t x (some lo) none none, ty, pos, after, none⟩ :: ⟨none, .call ⟨.builtin .clear, #[.tmp d], #[t]⟩, ty2, pos2, after2, none⟩ :: rest) Q ⟨sl, bl, nx⟩ := by
  obtain ⟨rfl, hn⟩ := ixO_spec hi0
  intro Q' hQ ρ M a w hr
  have hr0 := hr.at
  have hR := reads_of hr0 rfl hs
  have ex : a.eval x = ρ j := opnd_rep hr0 hx
  have eh : a.eval lo = .int k n := rdV_eval hR (by simp) hlo
  obtain ⟨ad, cap, e1, hc, hx2⟩ := vec_flat (hr0.heap.inv j _ hj)
  have hze : ∃ zv, (zeroValue e).run P w = .ok zv w ∧ zv.cells = z.toArray := zeroCells_run hz w
  obtain ⟨zv, hzv, hzc⟩ := hze
  have hzl : z.length = sz := by have := hsz zr; rw [hzr, List.length_map] at this; exact this
  have hz0 : z ≠ [] := by
    intro e0; subst e0; simp at hzm
  -- the part
  have r1 : (execOp a.eval ⟨some d, .slice t x (some lo) none none, ty, pos, after, none⟩).run P w = .ok (.value (.slice (if cap = n then ad else ad.map (·.add (n * sz))) (L.length - n) (cap - n))) w := by
    unfold execOp
    simp only
    refine bind_value ?_
    have := sliceAt_run (P := P) (a := ad) (len := L.length) (cap := cap) (lo := n) (hi := L.length) (ol := some (.int k n)) (oh := none) ht (.inr ⟨k, rfl⟩) (.inl ⟨rfl, rfl⟩) (by omega) (Nat.le_refl _) hc w
    rw [ex, e1]
    simp only [Option.map_none, Option.map_some, eh]
    exact this
  unfold wpListIn
  rw [if_pos (wanted_none rfl)]
  refine opIn_value r1 ?_
  have hr2 := hr.putNone (u := .slice (if cap = n then ad else ad.map (·.add (n * sz))) (L.length - n) (cap - n)) hd
  generalize ha1 : a.put (some d) (.slice (if cap = n then ad else ad.map (·.add (n * sz))) (L.length - n) (cap - n)) = a1 at hr2
  have ed : a1.eval (.tmp d) = .slice (if cap = n then ad else ad.map (·.add (n * sz))) (L.length - n) (cap - n) := by
    rw [← ha1]
    exact eval_put_eq (by rw [hr0.size]; exact Nat.blt_eq.mp hdn)
  unfold wpListIn
  rw [if_pos (wanted_none rfl)]
  have hut : ∀ w : World, (underlying t).run P w = .ok (.slice e) w := fun w => slInfo_under ht w
  by_cases hlt : n < L.length
  · obtain ⟨b, off, arr, ty', vs, rfl, g1, g2, g3, g4, g5⟩ := hx2 (by omega)
    have hvl : vs.length = L.length * sz := by rw [g4.len, flatten_len (rows_map hsz L), List.length_map]
    have hcs : L.length * sz ≤ cap * sz := Nat.mul_le_mul_right sz hc
    have hsplit : n * sz + (L.length - n) * sz = L.length * sz := by rw [← Nat.add_mul]; congr 1; omega
    obtain ⟨us, hus⟩ : ∃ us, us = zlist z ((L.length - n) * z.length) := ⟨_, rfl⟩
    have husl : us.length = (L.length - n) * sz := by rw [hus, zlist_len, hzl]
    have husm : ∀ u ∈ us, notMany u = true := by
      intro u hu
      rw [hus] at hu
      simp only [zlist, List.mem_map, List.mem_range] at hu
      obtain ⟨q, _, rfl⟩ := hu
      have hzp : 0 < z.length := by cases z with | nil => exact absurd rfl hz0 | cons _ _ => simp
      have h3 : q % z.toArray.size < z.length := by simpa using Nat.mod_lt q hzp
      rw [getElem!_pos z.toArray (q % z.toArray.size) (by simpa using h3)]
      have hall := (Bool.and_eq_true_iff.1 hzm).1
      exact List.all_eq_true.1 hall _ (by simp)
    obtain ⟨w', q1, q2, q3, q4, q5, q6, q7⟩ := storeCells_run (P := P) (b := b) (off := off + n * sz) (ty := ty') us 0 w arr g1 husm (by omega)
    rw [Nat.add_zero] at q2
    have r2 : (execOp a1.eval ⟨none, .call ⟨.builtin .clear, #[.tmp d], #[t]⟩, ty2, pos2, after2, none⟩).run P w = .ok (.value (.tuple #[])) w' := by
      unfold execOp
      simp only [resolve, List.map_toArray, List.map_cons, List.map_nil, pure_bind, invoke, ed]
      refine bind_value ?_
      rw [if_neg (by omega)]
      obtain ⟨m, hm⟩ : ∃ m, L.length - n = m + 1 := ⟨L.length - n - 1, by omega⟩
      rw [hm, show Option.map (fun x => Addr.add x (n * sz)) (some (⟨b, off, none⟩ : Addr)) = some ⟨b, off + n * sz, none⟩ by rw [Option.map_some, add_none]]
      refine clear_run (hut w) hzv ?_
      rw [hzc, show (Builtin.zeroCells z.toArray (m + 1)).toList = us by rw [hus, hm]; simp [Builtin.zeroCells, zlist, Array.toList_range]]
      exact q1
    refine opIn_value r2 ?_
    refine h Q' hQ ρ M _ w' fun ρ' ha => ?_
    have h0 := hr2 ρ' (fun i hi => ha i (by
      show look ((j, _) :: bl) i ≠ none
      rw [look_cons]; split
      · simp
      · exact hi))
    refine ⟨h0.defers, h0.size, fun s v hv => h0.slots s v hv, ?_⟩
    have hag : ρ' j = ρ j := ha j (by show look ((j, _) :: bl) j ≠ none; rw [look_cons, if_pos rfl]; simp)
    have hown : (Ob.vec sz (L.map enc)).blkOf (ρ' j) = some b := by rw [hag, e1]; simp [Ob.blkOf]; omega
    have hchg := h0.heap.change (bl' := over [(j, .vec sz ((L.take n ++ List.replicate (L.length - n) zr).map enc))] (look bl)) (M' := M) (w' := w') j (fun x => x = b) (by rintro x rfl _; exact h0.heap.priv j _ _ hj hown) ⟨q5, q6, q7, Nat.le_of_eq q4.symm⟩ (fun x _ hx => q3 x hx) (Mem.le_refl _) (fun _ _ _ => ⟨fun _ => rfl, rfl⟩) (by
      rintro x (rfl | hx)
      · exact ⟨fun o v hv => (by rw [g3 o] at hv; cases hv), fun o ho => (by rw [h0.heap.mem.noObj g1] at ho; cases ho)⟩
      · have := h0.heap.mem.none hx
        exact ⟨fun o v hv => (by rw [this.1 o] at hv; cases hv), fun o ho => (by rw [this.2] at ho; cases ho)⟩) (by
      intro k' ob hk'
      rw [over_one] at hk'
      split at hk'
      · rename_i ek
        subst ek
        cases hk'
        refine .inr (.inr ⟨rfl, ?_, fun x hx => .inl (by rw [show (Ob.vec sz ((L.take n ++ List.replicate (L.length - n) zr).map enc)).blkOf (ρ' j) = (Ob.vec sz (L.map enc)).blkOf (ρ' j) by rw [hag, e1]; rfl, hown] at hx; cases hx; rfl)⟩)
        rw [hag, e1]
        have hLl : (L.take n ++ List.replicate (L.length - n) zr).length = L.length := by simp; omega
        rw [show (Value.slice (some ⟨b, off, none⟩) L.length cap) = .slice (some ⟨b, off, none⟩) (L.take n ++ List.replicate (L.length - n) zr).length cap by rw [hLl]]
        refine vec_of (vs := vs.take (n * sz) ++ us) hsz (by rw [hLl]; exact hc) q2 (by simp [setV_len]; exact g2) g3 ?_ (fun q u hq => ?_)
        · rw [List.map_append, List.map_take, List.flatten_append, flatten_take (sz := sz) _ (rows_map hsz L), List.map_replicate, hus]
          refine (g4.take _).append (zlist_rep ?_ hz0 _)
          rw [hzr]
          clear hus husl husm hzc hzl hz0 hzm hzr hz
          induction z with
          | nil => trivial
          | cons u r ih => exact ⟨Rep.v u, ih⟩
        · rw [List.getElem?_toArray, setV_get us arr.toList (off + n * sz) (off + q) (by have : arr.toList.length = arr.size := Array.length_toList; omega)]
          have htl : (vs.take (n * sz)).length = n * sz := by rw [List.length_take]; omega
          rcases Nat.lt_or_ge q (n * sz) with h2 | h2
          · rw [List.getElem?_append_left (by omega), List.getElem?_take, if_pos h2] at hq
            rw [if_neg (by omega)]
            simpa using g5 q u hq
          · rw [List.getElem?_append_right (by omega), htl] at hq
            have hql := (List.getElem?_eq_some_iff.1 hq).1
            rw [if_pos (by omega), show off + q - (off + n * sz) = q - n * sz by omega]; exact hq
      · rename_i ek
        refine .inr (.inl ⟨hk', fun x hx hS' => ?_⟩)
        subst hS'
        exact ek ((h0.heap.dist k' j _ _ _ hk' hj hx hown).symm)) (fun x hx => by rw [hx]; exact h0.heap.noJunk hj hown)
    have eo : over [(j, Ob.vec sz ((L.take n ++ List.replicate (L.length - n) zr).map enc))] (look bl) = look ((j, Ob.vec sz ((L.take n ++ List.replicate (L.length - n) zr).map enc)) :: bl) := by
      rw [over_look]; rfl
    rw [eo] at hchg
    exact hchg
  · have hnL : n = L.length := by omega
    have r2 : (execOp a1.eval ⟨none, .call ⟨.builtin .clear, #[.tmp d], #[t]⟩, ty2, pos2, after2, none⟩).run P w = .ok (.value (.tuple #[])) w := by
      unfold execOp
      simp only [resolve, List.map_toArray, List.map_cons, List.map_nil, pure_bind, invoke, ed]
      refine bind_value ?_
      show (Builtin.clear_ _ _ _).run P w = _
      unfold Builtin.clear_
      rw [show L.length - n = 0 by omega]
      refine (run_bind_ok (hut w)).trans ?_
      cases (if cap = n then ad else ad.map (·.add (n * sz))) <;> rfl
    refine opIn_value r2 ?_
    refine h Q' hQ ρ M _ w fun ρ' ha => ?_
    have h0 := hr2 ρ' (fun i hi => ha i (by
      show look ((j, _) :: bl) i ≠ none
      rw [look_cons]; split
      · simp
      · exact hi))
    refine ⟨h0.defers, h0.size, fun s v hv => h0.slots s v hv, ?_⟩
    have eL : L.take n ++ List.replicate (L.length - n) zr = L := by rw [hnL]; simp
    rw [eL]
    have eo : look ((j, Ob.vec sz (L.map enc)) :: bl) = look bl := by
      funext q; rw [look_cons]; split
      · rename_i e; subst e; exact hj.symm
      · rfl
    show RelW C (look ((j, Ob.vec sz (L.map enc)) :: bl)) ρ' M w
    rw [eo]; exact h0.heap
def keptOk (F : FS) : List (Nat × Ob) → Prop
  | [] => True
  | (k, o) :: r => F.bl k = some o ∧ keptOk F r
theorem keptOk_over {F F' : FS} : ∀ {Wb : List (Nat × Ob)}, keptOk F Wb → (∀ k ∈ Wb.map (·.1), F'.bl k = F.bl k) → over Wb F'.bl = F'.bl
  | [], _, _ => over_nil _
  | (k, o) :: r, h, hs => by
    have ih := keptOk_over h.2 (fun j hj => hs j (by simp [hj]))
    funext n
    unfold over at ih ⊢
    rw [look_cons]
    by_cases e : k = n
    · subst e; rw [if_pos rfl]; simp only; rw [hs k (by simp), h.1]
    · rw [if_neg e]; exact congrFun ih n
theorem TriL.keep {o : Oper} {rs rb ws wb : List Nat} {Ws : List (Nat × AV)} {Wb : List (Nat × Ob)} (h : TriL P C ops o ⟨rs, rb, ws, wb⟩ Ws Wb F) (hk : keptOk F Wb) : TriL P C ops o ⟨rs, rb ++ Wb.map (·.1), ws, []⟩ Ws [] F := by
  refine ⟨⟨h.1.1, rfl⟩, fun F' hS => ?_⟩
  have h2 := h.2 F' ⟨hS.1, fun j hj => hS.2 j (List.mem_append_left _ hj)⟩
  have e : F'.upd Ws Wb = F'.upd Ws [] := by
    unfold FS.upd
    rw [keptOk_over hk (fun k hk' => hS.2 k (List.mem_append_right _ hk')), over_nil]
  rw [← e]; exact h2
theorem TriL.guard {op : Op} {gk d : Nat} {want g : Bool} {rs rb : List Nat} {x : A1} (hb : guardB F ops gk want = some g) (hn : Nat.blt d C.n = true) (h : g = true → TriL P C ops ⟨some d, op, ty, pos, after, none⟩ ⟨rs, rb, [d], []⟩ [(d, .s x)] [] F) :
    TriL P C ops ⟨some d, op, ty, pos, after, some (gk, want)⟩ ⟨gSlot ops gk ++ rs, rb, [d], []⟩ [(d, .gd g x)] [] F := by
  refine ⟨⟨rfl, rfl⟩, fun F' hS => ?_⟩
  have hb' := (guardB_same (want := want) (fun t ht => hS.1 t (by simp [ht]))).trans hb
  intro Q' K' hK ρ M a w hr
  cases g with
  | false =>
    rw [guardB_wanted hr.at rfl hb', if_neg (by simp)]
    refine hK ρ M _ _ fun ρ' ha => ?_
    have h0 := hr ρ' (fun j hj => ha j (by rw [FS.upd, over_nil]; exact hj))
    exact h0.put (v := .gd false x) (Nat.blt_eq.mp hn) rfl (Mem.le_refl _) (by rw [over_nil]; exact h0.heap)
  | true =>
    rw [guardB_wanted hr.at rfl hb', if_pos rfl]
    have h3 := (h rfl).2 F' ⟨fun t ht => hS.1 t (List.mem_append_right _ ht), hS.2⟩ Q' K' (fun ρ1 M1 a1 w1 hr1 => hK ρ1 M1 a1 w1 (fun ρ' ha => ?_)) ρ M a w hr
    · rw [if_pos (wanted_none rfl)] at h3
      exact h3
    · have h0 := hr1 ρ' ha
      refine ⟨h0.defers, h0.size, fun s v hv => ?_, h0.heap⟩
      simp only [FS.upd, over_one] at hv
      split at hv
      · cases hv
        exact h0.slots s (.s x) (by simp only [FS.upd, over_one]; rename_i e; rw [if_pos e])
      · rename_i e
        exact h0.slots s v (by simp only [FS.upd, over_one]; rw [if_neg e]; exact hv)
end Go.E2
end
section
namespace Go.E2
open Go.RowKit (Below)
variable {P : Program}
theorem InW.below {M : Mem} {w w' : World} (h : InW M w) (hb : Below w.heap.size w w') : InW M w' := by
  refine ⟨fun b o v hc => ?_, fun b o ho => ?_, fun b s hs => ?_⟩
  · have h1 := h.cell b o v hc
    have hl := h.lt hc
    unfold World.cell? at h1 ⊢
    simp only at h1 ⊢
    rw [hb.block b hl]; exact h1
  · obtain ⟨h1, h2⟩ := h.obj b o ho
    exact ⟨(hb.block b (h.ltO ho)).trans h1, h2⟩
  · obtain ⟨⟨arr, ty, h1, h2⟩, h3⟩ := h.junk b s hs
    exact ⟨⟨arr, ty, (hb.block b (h.ltJ hs)).trans h1, h2⟩, h3⟩
end Go.E2
end
section
set_option maxRecDepth 100000
namespace Go.Proofs.YtfoigppmcelgfaaDoor
open Go Go.E2
theorem widgetry_style_exists_c (prop : Int) {r : Bool} (hr : widgetry_style_exists prop = some r) : Con Tryd.prog 79 [aI prop] [] (.s (aB r)) [] := by
  unfold widgetry_style_exists at hr
  refine Con.of_ok 9 0 [.tmp 2] [(0, .s (aI prop))] Tryd.func79 rfl rfl rfl rfl rfl rfl rfl rfl fun w g M ρ _ => (Ok.seq (Ok.region (OkOps.y (aB false) (OkOps.nil (Ok.seq (Ok.region (OkOps.y (aI prop) (OkOps.y (aB (decide (prop ≥ 0))) (OkOps.y (aB (decide (prop ≥ 0))) (OkOps.q (triQG (x := aI prop) rfl rfl trivial rfl) (OkOps.q (triQG (x := aB (decide (prop < 22))) rfl rfl ⟨fun h => h, trivial⟩ rfl) (OkOps.q (triAnd rfl rfl (fun h => h) rfl) (OkOps.y (aB ((decide (prop ≥ 0)) && (decide (prop < 22)))) (OkOps.nil (Ok.ret ?_)))))))))))))))
  obtain rfl := Option.some.inj hr
  exact ⟨_, rfl, .inl rfl, trivial⟩
theorem widgetry_style_InRange_c (prop : Int) (p_n : Int) {r : Bool} (hr : widgetry_style_InRange prop p_n = some r) : Con Tryd.prog 52 [aI prop, aI p_n] [] (.s (aB r)) [] := by
  unfold widgetry_style_InRange at hr
  refine Con.of_ok 23 0 [.tmp 4] [(0, .s (aI prop)), (1, .s (aI p_n))] Tryd.func52 rfl rfl rfl rfl rfl rfl rfl rfl fun w g M ρ _ => (Ok.seq (Ok.region (OkOps.y (aB false) (OkOps.nil (Ok.seq (Ok.region (OkOps.y (aI prop) ?_)))))))
  obtain ⟨x1, hx1, hr⟩ := bind_some hr
  refine OkOps.q (triCl (tau []) (.s (aB x1)) [] (widgetry_style_exists_c _ hx1) rfl ⟨.inl rfl, trivial⟩ trivial entry79 trivial) (OkOps.y (aB x1) (OkOps.q (triQG (x := aI p_n) rfl rfl trivial rfl) (OkOps.q (triQG (x := aI prop) rfl rfl trivial rfl) ?_)))
  obtain ⟨x2, hx2, hr⟩ := bind_some hr
  refine OkOps.q (triStyG (y := x2) (fun hg => gO_t hx2 hg) (by kernel_rfl) rfl rfl rfl ⟨fun h => h, trivial⟩ rfl) (OkOps.q (triQG (x := .c (.pt [dI x2.2.1, dI x2.2.2.1, dI x2.2.2.2])) rfl rfl ⟨fun h => h, trivial⟩ rfl) (OkOps.q (triQG (x := aI x2.2.1) rfl rfl ⟨fun h => h, trivial⟩ rfl) (OkOps.q (triQG (x := aB (decide (p_n ≥ x2.2.1))) rfl rfl ⟨fun h => h, ⟨fun h => h, trivial⟩⟩ rfl) (OkOps.q (triAnd rfl rfl (fun h => h) rfl) (OkOps.y (aB (x1 && (decide (p_n ≥ x2.2.1)))) (OkOps.q (triQG (x := aI p_n) rfl rfl trivial rfl) (OkOps.q (triQG (x := aI prop) rfl rfl trivial rfl) ?_)))))))
  obtain ⟨x3, hx3, hr⟩ := bind_some hr
  refine OkOps.q (triStyG (y := x3) (fun hg => gO_t hx3 hg) (by kernel_rfl) rfl rfl rfl ⟨fun h => h, trivial⟩ rfl) (OkOps.q (triQG (x := .c (.pt [dI x3.2.2.1, dI x3.2.2.2])) rfl rfl ⟨fun h => h, trivial⟩ rfl) (OkOps.q (triQG (x := aI x3.2.2.1) rfl rfl ⟨fun h => h, trivial⟩ rfl) (OkOps.q (triQG (x := aB (decide (p_n ≤ x3.2.2.1))) rfl rfl ⟨fun h => h, ⟨fun h => h, trivial⟩⟩ rfl) (OkOps.q (triAnd rfl rfl (fun h => h) rfl) (OkOps.y (aB ((x1 && (decide (p_n ≥ x2.2.1))) && (decide (p_n ≤ x3.2.2.1)))) (OkOps.nil (Ok.ret ?_)))))))
  obtain rfl := Option.some.inj hr
  exact ⟨_, rfl, .inl rfl, trivial⟩
theorem r17_Initial_c  {r : (Nat → Int)} (hr : r17_Initial  = some r) : Con Tryd.prog 9 [] [] (.s (.agg [cI (r 0), cI (r 1), cI (r 2), cI (r 3), cI (r 4), cI (r 5), cI (r 6), cI (r 7), cI (r 8), cI (r 9), cI (r 10), cI (r 11), cI (r 12), cI (r 13), cI (r 14), cI (r 15), cI (r 16), cI (r 17), cI (r 18), cI (r 19), cI (r 20), cI (r 21)])) [] := by
  unfold r17_Initial at hr
  refine Con.of_ok 11 0 [.cell 0 38] [] Tryd.func9 rfl rfl rfl rfl rfl rfl rfl rfl fun w g M ρ _ => (Ok.seq (Ok.region (OkOps.m 0 (triAlloc (j := 0) (cs := ([] ++ (arrC 22 (dInt .i64) (fun _ => 0) ++ []))) rfl rfl rfl rfl) (OkOps.nil (Ok.seq (Ok.region (OkOps.m 0 (triAlloc (j := 1) (cs := ([] ++ (arrC 22 (dInt .i64) (fun _ => 0) ++ []))) rfl rfl rfl rfl) (OkOps.nil (Ok.seq (Ok.region (OkOps.y (.c (.loc 1 1)) (OkOps.w (triStore (cs' := ([] ++ (arrC 22 (dInt .i64) (upd (fun _ => 0) 1 (-1)) ++ []))) rfl rfl rfl rfl rfl rfl rfl rfl rfl) (OkOps.nil (Ok.seq (Ok.region ?_)))))))))))))))
  refine OkOps.y (.c (.loc 1 2)) (OkOps.w (triStore (cs' := ([] ++ (arrC 22 (dInt .i64) (upd (upd (fun _ => 0) 1 (-1)) 2 16) ++ []))) rfl rfl rfl rfl rfl rfl rfl rfl rfl) (OkOps.nil (Ok.seq (Ok.region (OkOps.y (.c (.loc 1 5)) (OkOps.w (triStore (cs' := ([] ++ (arrC 22 (dInt .i64) (upd (upd (upd (fun _ => 0) 1 (-1)) 2 16) 5 1) ++ []))) rfl rfl rfl rfl rfl rfl rfl rfl rfl) (OkOps.nil (Ok.seq (Ok.region (OkOps.y (.c (.loc 1 6)) (OkOps.w (triStore (cs' := ([] ++ (arrC 22 (dInt .i64) (upd (upd (upd (upd (fun _ => 0) 1 (-1)) 2 16) 5 1) 6 3) ++ []))) rfl rfl rfl rfl rfl rfl rfl rfl rfl) (OkOps.nil (Ok.seq (Ok.region (OkOps.y (.c (.loc 1 11)) ?_)))))))))))))))
  refine OkOps.w (triStore (cs' := ([] ++ (arrC 22 (dInt .i64) (upd (upd (upd (upd (upd (fun _ => 0) 1 (-1)) 2 16) 5 1) 6 3) 11 1) ++ []))) rfl rfl rfl rfl rfl rfl rfl rfl rfl) (OkOps.nil (Ok.seq (Ok.region (OkOps.y (.c (.loc 1 12)) (OkOps.w (triStore (cs' := ([] ++ (arrC 22 (dInt .i64) (upd (upd (upd (upd (upd (upd (fun _ => 0) 1 (-1)) 2 16) 5 1) 6 3) 11 1) 12 (-1)) ++ []))) rfl rfl rfl rfl rfl rfl rfl rfl rfl) (OkOps.nil (Ok.seq (Ok.region (OkOps.y (.c (.loc 1 14)) (OkOps.w (triStore (cs' := ([] ++ (arrC 22 (dInt .i64) (upd (upd (upd (upd (upd (upd (upd (fun _ => 0) 1 (-1)) 2 16) 5 1) 6 3) 11 1) 12 (-1)) 14 1048576) ++ []))) rfl rfl rfl rfl rfl rfl rfl rfl rfl) (OkOps.nil (Ok.seq (Ok.region (OkOps.y (.c (.loc 1 16)) (OkOps.w (triStore (cs' := ([] ++ (arrC 22 (dInt .i64) (upd (upd (upd (upd (upd (upd (upd (upd (fun _ => 0) 1 (-1)) 2 16) 5 1) 6 3) 11 1) 12 (-1)) 14 1048576) 16 1048576) ++ []))) rfl rfl rfl rfl rfl rfl rfl rfl rfl) ?_)))))))))))))))
  refine OkOps.nil (Ok.seq (Ok.region (OkOps.y (.agg [cI ((upd (upd (upd (upd (upd (upd (upd (upd (fun _ => 0) 1 (-1)) 2 16) 5 1) 6 3) 11 1) 12 (-1)) 14 1048576) 16 1048576) 0), cI ((upd (upd (upd (upd (upd (upd (upd (upd (fun _ => 0) 1 (-1)) 2 16) 5 1) 6 3) 11 1) 12 (-1)) 14 1048576) 16 1048576) 1), cI ((upd (upd (upd (upd (upd (upd (upd (upd (fun _ => 0) 1 (-1)) 2 16) 5 1) 6 3) 11 1) 12 (-1)) 14 1048576) 16 1048576) 2), cI ((upd (upd (upd (upd (upd (upd (upd (upd (fun _ => 0) 1 (-1)) 2 16) 5 1) 6 3) 11 1) 12 (-1)) 14 1048576) 16 1048576) 3), cI ((upd (upd (upd (upd (upd (upd (upd (upd (fun _ => 0) 1 (-1)) 2 16) 5 1) 6 3) 11 1) 12 (-1)) 14 1048576) 16 1048576) 4), cI ((upd (upd (upd (upd (upd (upd (upd (upd (fun _ => 0) 1 (-1)) 2 16) 5 1) 6 3) 11 1) 12 (-1)) 14 1048576) 16 1048576) 5), cI ((upd (upd (upd (upd (upd (upd (upd (upd (fun _ => 0) 1 (-1)) 2 16) 5 1) 6 3) 11 1) 12 (-1)) 14 1048576) 16 1048576) 6), cI ((upd (upd (upd (upd (upd (upd (upd (upd (fun _ => 0) 1 (-1)) 2 16) 5 1) 6 3) 11 1) 12 (-1)) 14 1048576) 16 1048576) 7), cI ((upd (upd (upd (upd (upd (upd (upd (upd (fun _ => 0) 1 (-1)) 2 16) 5 1) 6 3) 11 1) 12 (-1)) 14 1048576) 16 1048576) 8), cI ((upd (upd (upd (upd (upd (upd (upd (upd (fun _ => 0) 1 (-1)) 2 16) 5 1) 6 3) 11 1) 12 (-1)) 14 1048576) 16 1048576) 9), cI ((upd (upd (upd (upd (upd (upd (upd (upd (fun _ => 0) 1 (-1)) 2 16) 5 1) 6 3) 11 1) 12 (-1)) 14 1048576) 16 1048576) 10), cI ((upd (upd (upd (upd (upd (upd (upd (upd (fun _ => 0) 1 (-1)) 2 16) 5 1) 6 3) 11 1) 12 (-1)) 14 1048576) 16 1048576) 11), cI ((upd (upd (upd (upd (upd (upd (upd (upd (fun _ => 0) 1 (-1)) 2 16) 5 1) 6 3) 11 1) 12 (-1)) 14 1048576) 16 1048576) 12), cI ((upd (upd (upd (upd (upd (upd (upd (upd (fun _ => 0) 1 (-1)) 2 16) 5 1) 6 3) 11 1) 12 (-1)) 14 1048576) 16 1048576) 13), cI ((upd (upd (upd (upd (upd (upd (upd (upd (fun _ => 0) 1 (-1)) 2 16) 5 1) 6 3) 11 1) 12 (-1)) 14 1048576) 16 1048576) 14), cI ((upd (upd (upd (upd (upd (upd (upd (upd (fun _ => 0) 1 (-1)) 2 16) 5 1) 6 3) 11 1) 12 (-1)) 14 1048576) 16 1048576) 15), cI ((upd (upd (upd (upd (upd (upd (upd (upd (fun _ => 0) 1 (-1)) 2 16) 5 1) 6 3) 11 1) 12 (-1)) 14 1048576) 16 1048576) 16), cI ((upd (upd (upd (upd (upd (upd (upd (upd (fun _ => 0) 1 (-1)) 2 16) 5 1) 6 3) 11 1) 12 (-1)) 14 1048576) 16 1048576) 17), cI ((upd (upd (upd (upd (upd (upd (upd (upd (fun _ => 0) 1 (-1)) 2 16) 5 1) 6 3) 11 1) 12 (-1)) 14 1048576) 16 1048576) 18), cI ((upd (upd (upd (upd (upd (upd (upd (upd (fun _ => 0) 1 (-1)) 2 16) 5 1) 6 3) 11 1) 12 (-1)) 14 1048576) 16 1048576) 19), cI ((upd (upd (upd (upd (upd (upd (upd (upd (fun _ => 0) 1 (-1)) 2 16) 5 1) 6 3) 11 1) 12 (-1)) 14 1048576) 16 1048576) 20), cI ((upd (upd (upd (upd (upd (upd (upd (upd (fun _ => 0) 1 (-1)) 2 16) 5 1) 6 3) 11 1) 12 (-1)) 14 1048576) 16 1048576) 21)]) (OkOps.w (triStore (cs' := ([] ++ (arrC 22 (dInt .i64) (upd (upd (upd (upd (upd (upd (upd (upd (fun _ => 0) 1 (-1)) 2 16) 5 1) 6 3) 11 1) 12 (-1)) 14 1048576) 16 1048576) ++ []))) rfl rfl rfl rfl rfl rfl rfl rfl (by kernel_rfl)) (OkOps.nil (Ok.ret ?_))))))
  obtain rfl := Option.some.inj hr
  exact ⟨_, rfl, .inl rfl, trivial⟩
end Go.Proofs.YtfoigppmcelgfaaDoor
end
section
set_option maxRecDepth 100000
namespace Go.Proofs.YtfoigppmcelgfaaDoor
open Go Go.E2
theorem vw_Attr_c (l : (List Attr)) (name : Str) {r : AValue × Bool} (hr : vw_Attr l name = some r) : Con Tryd.prog 66 [.c (.d (.sl (List.map Attr.cs l))), aS name] [] (.tup [.agg [cI r.1.Kind, cI r.1.N, cS r.1.S, .d (.sl (List.map AValue.cs r.1.L))], aB r.2]) [] := by
  unfold vw_Attr at hr
  refine Con.of_ok 23 0 [.cell 4 62, .tmp 5] [(0, .s (.c (.d (.sl (List.map Attr.cs l))))), (1, .s (aS name))] Tryd.func66 rfl rfl rfl rfl rfl rfl rfl rfl fun w g M ρ _ => (Ok.seq (Ok.region (OkOps.m 0 (triAlloc (j := 0) (cs := [cI 0, cI 0, cS ByteArray.empty, .d (.v (.slice none 0 0))]) rfl rfl rfl rfl) (OkOps.y (aB false) (OkOps.nil ?_)))))
  obtain ⟨k2, hk2, hr⟩ := jn_some hr
  refine Ok.join (fun (s1 : Unit) => ⟨[(4, .s (.c (.loc 0 0)))], [(0, .blk [cI 0, cI 0, cS ByteArray.empty, .d (.v (.slice none 0 0))] 62)], 0⟩) k2 r (fun s1 hr => ?_) ?_
  rw [hk2] at hr
  refine Ok.seq (Ok.region (OkOps.y (.agg [cI 0, cI 0, cS ByteArray.empty, .d (.v (.slice none 0 0))]) (OkOps.w (triStore (cs' := [cI 0, cI 0, cS ByteArray.empty, .d (.v (.slice none 0 0))]) rfl rfl rfl rfl rfl rfl rfl rfl rfl) (OkOps.y (aB false) (OkOps.nil (Ok.ret ?_))))))
  obtain rfl := Option.some.inj hr
  exact ⟨_, rfl, .inr rfl, trivial⟩
  clear hk2
  refine Ok.seq (Ok.region (OkOps.y (.c (.d (.sl (List.map Attr.cs l)))) (OkOps.q (triLen (enc := Attr.cs) l rfl rfl trivial rfl) (OkOps.y (aI 0) (OkOps.nil (Ok.block (Ok.loopK (fun (s3 : Int) => ⟨[(1, .s (aS name)), (4, .s (.c (.loc 0 0))), (8, .s (.c (.d (.sl (List.map Attr.cs l))))), (9, .s (aI (l.length : Int))), (10, .s (aI s3))], [(0, .blk [cI 0, cI 0, cS ByteArray.empty, .d (.v (.slice none 0 0))] 62)], 0⟩) hr (Conv.mk (tau []) ⟨⟨_, rfl, .inl rfl⟩, ⟨_, rfl, .inl rfl⟩, ⟨_, rfl, .inl rfl⟩, ⟨_, rfl, .inl rfl⟩, ⟨_, rfl, .inl rfl⟩, trivial⟩ ⟨rfl, trivial⟩ rfl rfl rfl rfl) ?_)))))))
  clear hr
  intro again4 s3 hr
  unfold vw_Attr_L1 at hr
  refine Ok.seq (Ok.region (OkOps.y (aB (decide (s3 < (l.length : Int)))) (OkOps.nil (Ok.seq ?_))))
  refine Ok.cond (b := decide (s3 < (l.length : Int))) rfl (fun h5 => ?_) (fun h5 => ?_)
  have hr := selT h5 hr
  refine Ok.skip (Ok.seq (Ok.block (Ok.seq (Ok.region ?_))))
  obtain ⟨x6, hx6, hr⟩ := bind_some hr
  refine OkOps.q (triIdx (enc := Attr.cs) (L := l) (row := [dS x6.Name, dI x6.Value.Kind, dI x6.Value.N, dS x6.Value.S, .sl (List.map AValue.cs x6.Value.L)]) hx6 rfl rfl rfl rfl (fun _ => rfl) trivial rfl) (OkOps.y (.agg [cS x6.Name, cI x6.Value.Kind, cI x6.Value.N, cS x6.Value.S, .d (.sl (List.map AValue.cs x6.Value.L))]) (OkOps.m 0 (triAlloc (j := 1) (cs := [cS ByteArray.empty, cI 0, cI 0, cS ByteArray.empty, .d (.v (.slice none 0 0))]) rfl rfl rfl rfl) (OkOps.w (triStore (cs' := [cS x6.Name, cI x6.Value.Kind, cI x6.Value.N, cS x6.Value.S, .d (.sl (List.map AValue.cs x6.Value.L))]) rfl rfl rfl rfl rfl rfl rfl rfl rfl) (OkOps.nil (Ok.seq (Ok.region (OkOps.y (.c (.loc 1 0)) (OkOps.y (aS x6.Name) (OkOps.y (aS name) (OkOps.y (aB (x6.Name.toList == name.toList)) (OkOps.nil ?_)))))))))))
  refine Ok.cond (b := x6.Name.toList == name.toList) rfl (fun h7 => ?_) (fun h7 => ?_)
  have hr := selT h7 hr
  refine Ok.seq (Ok.region (OkOps.y (.c (.loc 1 1)) (OkOps.y (.agg [cI x6.Value.Kind, cI x6.Value.N, cS x6.Value.S, .d (.sl (List.map AValue.cs x6.Value.L))]) ?_)))
  obtain ⟨x8, hx8, hr⟩ := bind_some hr
  refine OkOps.q (triCl (tau []) (.s (.agg [cI x8.Kind, cI x8.N, cS x8.S, .d (.sl (List.map AValue.cs x8.L))])) [] (vw_value_c _ _ hx8) rfl ⟨.inl rfl, trivial⟩ trivial entry88 trivial) (OkOps.w (triStore (cs' := [cI x8.Kind, cI x8.N, cS x8.S, .d (.sl (List.map AValue.cs x8.L))]) rfl rfl rfl rfl rfl rfl rfl rfl rfl) (OkOps.y (aB true) (OkOps.nil (Ok.ret ?_))))
  obtain rfl := Option.some.inj hr
  exact ⟨_, rfl, .inl rfl, trivial⟩
  have hr := selF h7 hr
  refine Ok.skip (Ok.region (OkOps.y (aI (IntKind.i64.wrap (s3 + 1))) (OkOps.y (aI (IntKind.i64.wrap (s3 + 1))) (OkOps.nil ?_))))
  exact ⟨IntKind.i64.wrap (s3 + 1), hr, (Conv.mk (tau []) ⟨⟨_, rfl, .inl rfl⟩, ⟨_, rfl, .inl rfl⟩, ⟨_, rfl, .inl rfl⟩, ⟨_, rfl, .inl rfl⟩, ⟨_, rfl, .inl rfl⟩, trivial⟩ ⟨rfl, trivial⟩ rfl rfl rfl rfl)⟩
  have hr := selF h5 hr
  refine Ok.exit ?_
  exact ⟨(), hr, (Conv.mk (tau []) ⟨⟨_, rfl, .inl rfl⟩, trivial⟩ ⟨rfl, trivial⟩ rfl rfl rfl rfl)⟩
theorem vw_Number_c (l : (List Attr)) (name : Str) (other : Int) {r : Int} (hr : vw_Number l name other = some r) : Con Tryd.prog 34 [.c (.d (.sl (List.map Attr.cs l))), aS name, aI other] [] (.s (aI r)) [] := by
  unfold vw_Number at hr
  refine Con.of_ok 21 0 [.tmp 6] [(0, .s (.c (.d (.sl (List.map Attr.cs l))))), (1, .s (aS name)), (2, .s (aI other))] Tryd.func34 rfl rfl rfl rfl rfl rfl rfl rfl fun w g M ρ _ => (Ok.seq (Ok.region (OkOps.y (aI 0) (OkOps.nil (Ok.seq (Ok.seq (Ok.region (OkOps.y (.c (.d (.sl (List.map Attr.cs l)))) (OkOps.y (aS name) ?_)))))))))
  obtain ⟨x1, hx1, hr⟩ := bind_some hr
  refine OkOps.q (triCl (tau []) (.tup [.agg [cI x1.1.Kind, cI x1.1.N, cS x1.1.S, .d (.sl (List.map AValue.cs x1.1.L))], aB x1.2]) [] (vw_Attr_c _ _ hx1) rfl ⟨.inl rfl, .inl rfl, trivial⟩ trivial entry66 trivial) (OkOps.q (triMv (v := .tup [.agg [cI x1.1.Kind, cI x1.1.N, cS x1.1.S, .d (.sl (List.map AValue.cs x1.1.L))], aB x1.2]) rfl rfl) (OkOps.y (.agg [cI x1.1.Kind, cI x1.1.N, cS x1.1.S, .d (.sl (List.map AValue.cs x1.1.L))]) (OkOps.y (aB x1.2) (OkOps.m 0 (triAlloc (j := 0) (cs := [cI 0, cI 0, cS ByteArray.empty, .d (.v (.slice none 0 0))]) rfl rfl rfl rfl) (OkOps.w (triStore (cs' := [cI x1.1.Kind, cI x1.1.N, cS x1.1.S, .d (.sl (List.map AValue.cs x1.1.L))]) rfl rfl rfl rfl rfl rfl rfl rfl rfl) (OkOps.y (aB x1.2) (OkOps.nil (Ok.seq (Ok.region (OkOps.y (.c (.loc 0 0)) (OkOps.y (aI x1.1.Kind) (OkOps.y (aB (x1.1.Kind == 1)) (OkOps.nil ?_)))))))))))))
  refine Ok.cond (b := x1.1.Kind == 1) rfl (fun h2 => ?_) (fun h2 => ?_)
  have hr := selT h2 hr
  refine Ok.seq (Ok.region (OkOps.y (.c (.loc 0 1)) (OkOps.y (aI x1.1.N) (OkOps.y (aI x1.1.N) (OkOps.nil (Ok.ret ?_))))))
  obtain rfl := Option.some.inj hr
  exact ⟨_, rfl, .inl rfl, trivial⟩
  have hr := selF h2 hr
  refine Ok.skip (Ok.seq (Ok.region (OkOps.y (aI other) (OkOps.y (aI other) (OkOps.nil (Ok.ret ?_))))))
  obtain rfl := Option.some.inj hr
  exact ⟨_, rfl, .inl rfl, trivial⟩
theorem vw_Flag_c (l : (List Attr)) (name : Str) {r : Bool} (hr : vw_Flag l name = some r) : Con Tryd.prog 62 [.c (.d (.sl (List.map Attr.cs l))), aS name] [] (.s (aB r)) [] := by
  unfold vw_Flag at hr
  refine Con.of_ok 21 0 [.tmp 4] [(0, .s (.c (.d (.sl (List.map Attr.cs l))))), (1, .s (aS name))] Tryd.func62 rfl rfl rfl rfl rfl rfl rfl rfl fun w g M ρ _ => (Ok.seq (Ok.region (OkOps.y (aB false) (OkOps.nil (Ok.seq (Ok.region (OkOps.y (.c (.d (.sl (List.map Attr.cs l)))) (OkOps.y (aS name) ?_))))))))
  obtain ⟨x1, hx1, hr⟩ := bind_some hr
  refine OkOps.q (triCl (tau []) (.tup [.agg [cI x1.1.Kind, cI x1.1.N, cS x1.1.S, .d (.sl (List.map AValue.cs x1.1.L))], aB x1.2]) [] (vw_Attr_c _ _ hx1) rfl ⟨.inl rfl, .inl rfl, trivial⟩ trivial entry66 trivial) (OkOps.q (triMv (v := .tup [.agg [cI x1.1.Kind, cI x1.1.N, cS x1.1.S, .d (.sl (List.map AValue.cs x1.1.L))], aB x1.2]) rfl rfl) (OkOps.y (.agg [cI x1.1.Kind, cI x1.1.N, cS x1.1.S, .d (.sl (List.map AValue.cs x1.1.L))]) (OkOps.y (aB x1.2) (OkOps.m 0 (triAlloc (j := 0) (cs := [cI 0, cI 0, cS ByteArray.empty, .d (.v (.slice none 0 0))]) rfl rfl rfl rfl) (OkOps.w (triStore (cs' := [cI x1.1.Kind, cI x1.1.N, cS x1.1.S, .d (.sl (List.map AValue.cs x1.1.L))]) rfl rfl rfl rfl rfl rfl rfl rfl rfl) (OkOps.y (aB x1.2) (OkOps.nil (Ok.seq (Ok.region (OkOps.y (.c (.loc 0 0)) (OkOps.y (aI x1.1.Kind) (OkOps.y (aB (x1.1.Kind == 2)) (OkOps.y (aB (x1.1.Kind == 2)) (OkOps.q (triQG (x := .c (.loc 0 1)) rfl rfl trivial rfl) (OkOps.q (triQG (x := aI x1.1.N) rfl rfl ⟨fun h => h, trivial⟩ rfl) ?_)))))))))))))))
  refine OkOps.q (triQG (x := aB (x1.1.N == 1)) rfl rfl ⟨fun h => h, trivial⟩ rfl) (OkOps.q (triAnd rfl rfl (fun h => h) rfl) (OkOps.y (aB ((x1.1.Kind == 2) && (x1.1.N == 1))) (OkOps.nil (Ok.ret ?_))))
  obtain rfl := Option.some.inj hr
  exact ⟨_, rfl, .inl rfl, trivial⟩
end Go.Proofs.YtfoigppmcelgfaaDoor
end
section
set_option maxRecDepth 100000
namespace Go.Proofs.YtfoigppmcelgfaaDoor
open Go Go.E2
theorem widgetry_layout_isText_c (kind : Int) {r : Bool} (hr : widgetry_layout_isText kind = some r) : Con Tryd.prog 118 [aI kind] [] (.s (aB r)) [] := by
  unfold widgetry_layout_isText at hr
  refine Con.of_ok 17 0 [.tmp 2] [(0, .s (aI kind))] Tryd.func118 rfl rfl rfl rfl rfl rfl rfl rfl fun w g M ρ _ => (Ok.seq (Ok.region (OkOps.y (aB false) (OkOps.nil (Ok.seq (Ok.region (OkOps.y (aI kind) (OkOps.y (aB (kind == 2)) (OkOps.y (aB (kind == 2)) (OkOps.q (triQG (x := aI kind) rfl rfl trivial rfl) (OkOps.q (triQG (x := aB (kind == 4)) rfl rfl ⟨fun h => h, trivial⟩ rfl) ?_)))))))))))
  refine OkOps.q (triOr rfl rfl (fun h => by rw [h]; rfl) rfl) ?_
  refine OkOps.y (aB ((kind == 2) || (kind == 4))) (OkOps.q (triQG (x := aI kind) rfl rfl trivial rfl) (OkOps.q (triQG (x := aB (kind == 7)) rfl rfl ⟨fun h => h, trivial⟩ rfl) ?_))
  refine OkOps.q (triOr rfl rfl (fun h => by rw [h]; rfl) rfl) ?_
  refine OkOps.y (aB (((kind == 2) || (kind == 4)) || (kind == 7))) (OkOps.q (triQG (x := aI kind) rfl rfl trivial rfl) (OkOps.q (triQG (x := aB (kind == 9)) rfl rfl ⟨fun h => h, trivial⟩ rfl) ?_))
  refine OkOps.q (triOr rfl rfl (fun h => by rw [h]; rfl) rfl) ?_
  refine OkOps.y (aB ((((kind == 2) || (kind == 4)) || (kind == 7)) || (kind == 9))) (OkOps.nil (Ok.ret ?_))
  obtain rfl := Option.some.inj hr
  exact ⟨_, rfl, .inl rfl, trivial⟩
theorem widgetry_layout_isFigure_c (kind : Int) {r : Bool} (hr : widgetry_layout_isFigure kind = some r) : Con Tryd.prog 119 [aI kind] [] (.s (aB r)) [] := by
  unfold widgetry_layout_isFigure at hr
  refine Con.of_ok 9 0 [.tmp 2] [(0, .s (aI kind))] Tryd.func119 rfl rfl rfl rfl rfl rfl rfl rfl fun w g M ρ _ => (Ok.seq (Ok.region (OkOps.y (aB false) (OkOps.nil (Ok.seq (Ok.region (OkOps.y (aI kind) (OkOps.y (aB (kind == 5)) (OkOps.y (aB (kind == 5)) (OkOps.q (triQG (x := aI kind) rfl rfl trivial rfl) (OkOps.q (triQG (x := aB (kind == 13)) rfl rfl ⟨fun h => h, trivial⟩ rfl) ?_)))))))))))
  refine OkOps.q (triOr rfl rfl (fun h => by rw [h]; rfl) rfl) ?_
  refine OkOps.y (aB ((kind == 5) || (kind == 13))) (OkOps.nil (Ok.ret ?_))
  obtain rfl := Option.some.inj hr
  exact ⟨_, rfl, .inl rfl, trivial⟩
theorem widgetry_layout_complete_1_c (p_n : Node) (p_s : Styled) {r : Bool} (hr : widgetry_layout_complete_1 p_n p_s = some r) : Con Tryd.prog 109 [.agg [cI p_n.ID, cI p_n.Parent, cI p_n.Kind, cS p_n.Key, .d (.sl (List.map Attr.cs p_n.Attrs)), .d (.sl (List.map Action.cs p_n.Actions)), .d (.sl (List.map (eInt .i64) p_n.Kids))], .agg [cI p_s.ID, cI (p_s.Style 0), cI (p_s.Style 1), cI (p_s.Style 2), cI (p_s.Style 3), cI (p_s.Style 4), cI (p_s.Style 5), cI (p_s.Style 6), cI (p_s.Style 7), cI (p_s.Style 8), cI (p_s.Style 9), cI (p_s.Style 10), cI (p_s.Style 11), cI (p_s.Style 12), cI (p_s.Style 13), cI (p_s.Style 14), cI (p_s.Style 15), cI (p_s.Style 16), cI (p_s.Style 17), cI (p_s.Style 18), cI (p_s.Style 19), cI (p_s.Style 20), cI (p_s.Style 21)]] [] (.s (aB r)) [] := by
  unfold widgetry_layout_complete_1 at hr
  refine Con.of_ok 10 0 [.tmp 4] [(0, .s (.agg [cI p_n.ID, cI p_n.Parent, cI p_n.Kind, cS p_n.Key, .d (.sl (List.map Attr.cs p_n.Attrs)), .d (.sl (List.map Action.cs p_n.Actions)), .d (.sl (List.map (eInt .i64) p_n.Kids))])), (1, .s (.agg [cI p_s.ID, cI (p_s.Style 0), cI (p_s.Style 1), cI (p_s.Style 2), cI (p_s.Style 3), cI (p_s.Style 4), cI (p_s.Style 5), cI (p_s.Style 6), cI (p_s.Style 7), cI (p_s.Style 8), cI (p_s.Style 9), cI (p_s.Style 10), cI (p_s.Style 11), cI (p_s.Style 12), cI (p_s.Style 13), cI (p_s.Style 14), cI (p_s.Style 15), cI (p_s.Style 16), cI (p_s.Style 17), cI (p_s.Style 18), cI (p_s.Style 19), cI (p_s.Style 20), cI (p_s.Style 21)]))] Tryd.func109 rfl rfl rfl rfl rfl rfl rfl rfl fun w g M ρ _ => (Ok.seq (Ok.region (OkOps.m 0 (triBox (j := 0) (cs := [cI p_n.ID, cI p_n.Parent, cI p_n.Kind, cS p_n.Key, .d (.sl (List.map Attr.cs p_n.Attrs)), .d (.sl (List.map Action.cs p_n.Actions)), .d (.sl (List.map (eInt .i64) p_n.Kids))]) rfl rfl rfl rfl rfl) (OkOps.m 0 (triBox (j := 1) (cs := [cI p_s.ID, cI (p_s.Style 0), cI (p_s.Style 1), cI (p_s.Style 2), cI (p_s.Style 3), cI (p_s.Style 4), cI (p_s.Style 5), cI (p_s.Style 6), cI (p_s.Style 7), cI (p_s.Style 8), cI (p_s.Style 9), cI (p_s.Style 10), cI (p_s.Style 11), cI (p_s.Style 12), cI (p_s.Style 13), cI (p_s.Style 14), cI (p_s.Style 15), cI (p_s.Style 16), cI (p_s.Style 17), cI (p_s.Style 18), cI (p_s.Style 19), cI (p_s.Style 20), cI (p_s.Style 21)]) rfl rfl rfl rfl rfl) (OkOps.y (aB false) (OkOps.nil (Ok.seq (Ok.region (OkOps.y (.c (.loc 0 0)) (OkOps.y (aI p_n.ID) (OkOps.y (.c (.loc 1 0)) (OkOps.y (aI p_s.ID) (OkOps.y (aB (p_n.ID == p_s.ID)) (OkOps.y (aB (p_n.ID == p_s.ID)) (OkOps.nil ?_)))))))))))))))
  refine Ok.ret ?_
  obtain rfl := Option.some.inj hr
  exact ⟨_, rfl, .inl rfl, trivial⟩
theorem slices_EqualFunc_Sl_Node_Sl_Styled_Node_Styled_c (p_s1 : (List Node)) (p_s2 : (List Styled)) {r : Bool} (hr : slices_EqualFunc_Sl_Node_Sl_Styled_Node_Styled p_s1 p_s2 = some r) : Con Tryd.prog 108 [.c (.d (.sl (List.map Node.cs p_s1))), .c (.d (.sl (List.map Styled.cs p_s2))), .c (.fn 109 [])] [] (.s (aB r)) [] := by
  unfold slices_EqualFunc_Sl_Node_Sl_Styled_Node_Styled at hr
  refine Con.of_ok 32 0 [.tmp 6] [(0, .s (.c (.d (.sl (List.map Node.cs p_s1))))), (1, .s (.c (.d (.sl (List.map Styled.cs p_s2))))), (2, .s (.c (.fn 109 [])))] Tryd.func108 rfl rfl rfl rfl rfl rfl rfl rfl fun w g M ρ _ => (Ok.seq (Ok.region (OkOps.y (aB false) (OkOps.nil (Ok.seq (Ok.seq (Ok.region (OkOps.y (.c (.d (.sl (List.map Node.cs p_s1)))) (OkOps.q (triLen (enc := Node.cs) p_s1 rfl rfl trivial rfl) (OkOps.y (.c (.d (.sl (List.map Styled.cs p_s2)))) (OkOps.q (triLen (enc := Styled.cs) p_s2 rfl rfl trivial rfl) (OkOps.y (aB ((p_s1.length : Int) != (p_s2.length : Int))) (OkOps.nil ?_)))))))))))))
  refine Ok.cond (b := (p_s1.length : Int) != (p_s2.length : Int)) rfl (fun h1 => ?_) (fun h1 => ?_)
  have hr := selT h1 hr
  refine Ok.seq (Ok.region (OkOps.y (aB false) (OkOps.nil (Ok.ret ?_))))
  obtain rfl := Option.some.inj hr
  exact ⟨_, rfl, .inl rfl, trivial⟩
  have hr := selF h1 hr
  refine Ok.skip ?_
  obtain ⟨k3, hk3, hr⟩ := jn_some hr
  refine Ok.join (fun (s2 : Unit) => ⟨[], [], 0⟩) k3 r (fun s2 hr => ?_) ?_
  rw [hk3] at hr
  refine Ok.seq (Ok.region (OkOps.y (aB true) (OkOps.nil (Ok.ret ?_))))
  obtain rfl := Option.some.inj hr
  exact ⟨_, rfl, .inl rfl, trivial⟩
  clear hk3
  refine Ok.seq (Ok.region (OkOps.y (.c (.d (.sl (List.map Node.cs p_s1)))) (OkOps.q (triLen (enc := Node.cs) p_s1 rfl rfl trivial rfl) (OkOps.y (aI 0) (OkOps.nil (Ok.block (Ok.loopK (fun (s4 : Int) => ⟨[(1, .s (.c (.d (.sl (List.map Styled.cs p_s2))))), (2, .s (.c (.fn 109 []))), (15, .s (.c (.d (.sl (List.map Node.cs p_s1))))), (16, .s (aI (p_s1.length : Int))), (17, .s (aI s4))], [], 0⟩) hr (Conv.mk (tau []) ⟨⟨_, rfl, .inl rfl⟩, ⟨_, rfl, .inl rfl⟩, ⟨_, rfl, .inl rfl⟩, ⟨_, rfl, .inl rfl⟩, ⟨_, rfl, .inl rfl⟩, trivial⟩ trivial rfl rfl rfl rfl) ?_)))))))
  clear hr
  intro again5 s4 hr
  unfold slices_EqualFunc_Sl_Node_Sl_Styled_Node_Styled_L1 at hr
  refine Ok.seq (Ok.region (OkOps.y (aB (decide (s4 < (p_s1.length : Int)))) (OkOps.nil (Ok.seq ?_))))
  refine Ok.cond (b := decide (s4 < (p_s1.length : Int))) rfl (fun h6 => ?_) (fun h6 => ?_)
  have hr := selT h6 hr
  refine Ok.skip (Ok.seq (Ok.block (Ok.seq (Ok.region (OkOps.y (aI s4) ?_)))))
  obtain ⟨x7, hx7, hr⟩ := bind_some hr
  refine OkOps.q (triIdx (enc := Node.cs) (L := p_s1) (row := [dI x7.ID, dI x7.Parent, dI x7.Kind, dS x7.Key, .sl (List.map Attr.cs x7.Attrs), .sl (List.map Action.cs x7.Actions), .sl (List.map (eInt .i64) x7.Kids)]) hx7 rfl rfl rfl rfl (fun _ => rfl) trivial rfl) (OkOps.y (.agg [cI x7.ID, cI x7.Parent, cI x7.Kind, cS x7.Key, .d (.sl (List.map Attr.cs x7.Attrs)), .d (.sl (List.map Action.cs x7.Actions)), .d (.sl (List.map (eInt .i64) x7.Kids))]) (OkOps.m 0 (triAlloc (j := 0) (cs := [cI 0, cI 0, cI 0, cS ByteArray.empty, .d (.v (.slice none 0 0)), .d (.v (.slice none 0 0)), .d (.v (.slice none 0 0))]) rfl rfl rfl rfl) (OkOps.y (aI s4) (OkOps.w (triStore (cs' := [cI x7.ID, cI x7.Parent, cI x7.Kind, cS x7.Key, .d (.sl (List.map Attr.cs x7.Attrs)), .d (.sl (List.map Action.cs x7.Actions)), .d (.sl (List.map (eInt .i64) x7.Kids))]) rfl rfl rfl rfl rfl rfl rfl rfl rfl) (OkOps.nil (Ok.seq (Ok.region (OkOps.y (.c (.d (.sl (List.map Styled.cs p_s2)))) (OkOps.y (aI s4) ?_)))))))))
  obtain ⟨x8, hx8, hr⟩ := bind_some hr
  refine OkOps.q (triIdx (enc := Styled.cs) (L := p_s2) (row := [dI x8.ID, dI (x8.Style 0), dI (x8.Style 1), dI (x8.Style 2), dI (x8.Style 3), dI (x8.Style 4), dI (x8.Style 5), dI (x8.Style 6), dI (x8.Style 7), dI (x8.Style 8), dI (x8.Style 9), dI (x8.Style 10), dI (x8.Style 11), dI (x8.Style 12), dI (x8.Style 13), dI (x8.Style 14), dI (x8.Style 15), dI (x8.Style 16), dI (x8.Style 17), dI (x8.Style 18), dI (x8.Style 19), dI (x8.Style 20), dI (x8.Style 21)]) hx8 rfl rfl rfl rfl (fun _ => rfl) trivial rfl) (OkOps.y (.agg [cI x8.ID, cI (x8.Style 0), cI (x8.Style 1), cI (x8.Style 2), cI (x8.Style 3), cI (x8.Style 4), cI (x8.Style 5), cI (x8.Style 6), cI (x8.Style 7), cI (x8.Style 8), cI (x8.Style 9), cI (x8.Style 10), cI (x8.Style 11), cI (x8.Style 12), cI (x8.Style 13), cI (x8.Style 14), cI (x8.Style 15), cI (x8.Style 16), cI (x8.Style 17), cI (x8.Style 18), cI (x8.Style 19), cI (x8.Style 20), cI (x8.Style 21)]) (OkOps.m 0 (triAlloc (j := 1) (cs := [cI 0, cI 0, cI 0, cI 0, cI 0, cI 0, cI 0, cI 0, cI 0, cI 0, cI 0, cI 0, cI 0, cI 0, cI 0, cI 0, cI 0, cI 0, cI 0, cI 0, cI 0, cI 0, cI 0]) rfl rfl rfl rfl) (OkOps.w (triStore (cs' := [cI x8.ID, cI (x8.Style 0), cI (x8.Style 1), cI (x8.Style 2), cI (x8.Style 3), cI (x8.Style 4), cI (x8.Style 5), cI (x8.Style 6), cI (x8.Style 7), cI (x8.Style 8), cI (x8.Style 9), cI (x8.Style 10), cI (x8.Style 11), cI (x8.Style 12), cI (x8.Style 13), cI (x8.Style 14), cI (x8.Style 15), cI (x8.Style 16), cI (x8.Style 17), cI (x8.Style 18), cI (x8.Style 19), cI (x8.Style 20), cI (x8.Style 21)]) rfl rfl rfl rfl rfl rfl rfl rfl (by kernel_rfl)) (OkOps.nil (Ok.seq (Ok.region (OkOps.y (.c (.fn 109 [])) (OkOps.y (.agg [cI x7.ID, cI x7.Parent, cI x7.Kind, cS x7.Key, .d (.sl (List.map Attr.cs x7.Attrs)), .d (.sl (List.map Action.cs x7.Actions)), .d (.sl (List.map (eInt .i64) x7.Kids))]) (OkOps.y (.agg [cI x8.ID, cI (x8.Style 0), cI (x8.Style 1), cI (x8.Style 2), cI (x8.Style 3), cI (x8.Style 4), cI (x8.Style 5), cI (x8.Style 6), cI (x8.Style 7), cI (x8.Style 8), cI (x8.Style 9), cI (x8.Style 10), cI (x8.Style 11), cI (x8.Style 12), cI (x8.Style 13), cI (x8.Style 14), cI (x8.Style 15), cI (x8.Style 16), cI (x8.Style 17), cI (x8.Style 18), cI (x8.Style 19), cI (x8.Style 20), cI (x8.Style 21)]) ?_)))))))))
  obtain ⟨x9, hx9, hr⟩ := bind_some hr
  refine OkOps.q (triCallF (caps := []) (tau []) (.s (aB x9)) [] rfl (widgetry_layout_complete_1_c _ _ hx9) rfl ⟨.inl rfl, .inl rfl, trivial⟩ trivial entry109 trivial rfl rfl rfl rfl trivial rfl rfl rfl) (OkOps.y (aB (!x9)) (OkOps.nil ?_))
  refine Ok.cond (b := !x9) rfl (fun h10 => ?_) (fun h10 => ?_)
  have hr := selT h10 hr
  refine Ok.seq (Ok.region (OkOps.y (aB false) (OkOps.nil (Ok.ret ?_))))
  obtain rfl := Option.some.inj hr
  exact ⟨_, rfl, .inl rfl, trivial⟩
  have hr := selF h10 hr
  refine Ok.skip (Ok.region (OkOps.y (aI (IntKind.i64.wrap (s4 + 1))) (OkOps.y (aI (IntKind.i64.wrap (s4 + 1))) (OkOps.nil ?_))))
  exact ⟨IntKind.i64.wrap (s4 + 1), hr, (Conv.mk (tau []) ⟨⟨_, rfl, .inl rfl⟩, ⟨_, rfl, .inl rfl⟩, ⟨_, rfl, .inl rfl⟩, ⟨_, rfl, .inl rfl⟩, ⟨_, rfl, .inl rfl⟩, trivial⟩ trivial rfl rfl rfl rfl)⟩
  have hr := selF h6 hr
  refine Ok.exit ?_
  exact ⟨(), hr, (Conv.mk (tau []) trivial trivial rfl rfl rfl rfl)⟩
theorem widgetry_layout_complete_c (t : Tree) (st : (List Styled)) {r : Bool} (hr : widgetry_layout_complete t st = some r) : Con Tryd.prog 95 [.agg [cI t.Root, cI t.Next, .d (.sl (List.map Node.cs t.Nodes))], .c (.d (.sl (List.map Styled.cs st)))] [] (.s (aB r)) [] := by
  unfold widgetry_layout_complete at hr
  refine Con.of_ok 9 0 [.tmp 4] [(0, .s (.agg [cI t.Root, cI t.Next, .d (.sl (List.map Node.cs t.Nodes))])), (1, .s (.c (.d (.sl (List.map Styled.cs st)))))] Tryd.func95 rfl rfl rfl rfl rfl rfl rfl rfl fun w g M ρ _ => (Ok.seq (Ok.region (OkOps.m 0 (triBox (j := 0) (cs := [cI t.Root, cI t.Next, .d (.sl (List.map Node.cs t.Nodes))]) rfl rfl rfl rfl rfl) (OkOps.y (aB false) (OkOps.nil (Ok.seq (Ok.region (OkOps.y (.c (.loc 0 2)) (OkOps.y (.c (.d (.sl (List.map Node.cs t.Nodes)))) (OkOps.y (.c (.d (.sl (List.map Styled.cs st)))) ?_))))))))))
  obtain ⟨x1, hx1, hr⟩ := bind_some hr
  refine OkOps.q (triCl (tau []) (.s (aB x1)) [] (slices_EqualFunc_Sl_Node_Sl_Styled_Node_Styled_c _ _ hx1) rfl ⟨.inl rfl, .inl rfl, .inl rfl, trivial⟩ trivial entry108 trivial) (OkOps.y (aB x1) (OkOps.nil (Ok.ret ?_)))
  obtain rfl := Option.some.inj hr
  exact ⟨_, rfl, .inl rfl, trivial⟩
theorem widgetry_layout_styled_c (st : (List Styled)) {r : Bool} (hr : widgetry_layout_styled st = some r) : Con Tryd.prog 96 [.c (.d (.sl (List.map Styled.cs st)))] [] (.s (aB r)) [] := by
  unfold widgetry_layout_styled at hr
  refine Con.of_ok 25 0 [.tmp 2] [(0, .s (.c (.d (.sl (List.map Styled.cs st)))))] Tryd.func96 rfl rfl rfl rfl rfl rfl rfl rfl fun w g M ρ _ => (Ok.seq (Ok.region (OkOps.y (aB false) (OkOps.nil ?_))))
  obtain ⟨k2, hk2, hr⟩ := jn_some hr
  refine Ok.join (fun (s1 : Unit) => ⟨[], [], 0⟩) k2 r (fun s1 hr => ?_) ?_
  rw [hk2] at hr
  refine Ok.seq (Ok.region (OkOps.y (aB true) (OkOps.nil (Ok.ret ?_))))
  obtain rfl := Option.some.inj hr
  exact ⟨_, rfl, .inl rfl, trivial⟩
  clear hk2
  refine Ok.seq (Ok.region (OkOps.y (.c (.d (.sl (List.map Styled.cs st)))) (OkOps.q (triLen (enc := Styled.cs) st rfl rfl trivial rfl) (OkOps.y (aI 0) (OkOps.nil (Ok.block (Ok.loopK (fun (s3 : Int) => ⟨[(7, .s (.c (.d (.sl (List.map Styled.cs st))))), (8, .s (aI (st.length : Int))), (9, .s (aI s3))], [], 0⟩) hr (Conv.mk (tau []) ⟨⟨_, rfl, .inl rfl⟩, ⟨_, rfl, .inl rfl⟩, ⟨_, rfl, .inl rfl⟩, trivial⟩ trivial rfl rfl rfl rfl) ?_)))))))
  clear hr
  intro again4 s3 hr
  unfold widgetry_layout_styled_L2 at hr
  refine Ok.seq (Ok.region (OkOps.y (aB (decide (s3 < (st.length : Int)))) (OkOps.nil (Ok.seq ?_))))
  refine Ok.cond (b := decide (s3 < (st.length : Int))) rfl (fun h5 => ?_) (fun h5 => ?_)
  have hr := selT h5 hr
  refine Ok.skip ?_
  obtain ⟨k7, hk7, hr⟩ := jn_some hr
  refine Ok.join (fun (s6 : Unit) => ⟨[(7, .s (.c (.d (.sl (List.map Styled.cs st))))), (8, .s (aI (st.length : Int))), (9, .s (aI s3))], [], 0⟩) k7 r (fun s6 hr => ?_) ?_
  rw [hk7] at hr
  refine Ok.region (OkOps.y (aI (IntKind.i64.wrap (s3 + 1))) (OkOps.y (aI (IntKind.i64.wrap (s3 + 1))) (OkOps.nil ?_)))
  exact ⟨IntKind.i64.wrap (s3 + 1), hr, (Conv.mk (tau []) ⟨⟨_, rfl, .inl rfl⟩, ⟨_, rfl, .inl rfl⟩, ⟨_, rfl, .inl rfl⟩, trivial⟩ trivial rfl rfl rfl rfl)⟩
  clear hk7
  refine Ok.block (Ok.seq (Ok.region ?_))
  obtain ⟨x8, hx8, hr⟩ := bind_some hr
  refine OkOps.q (triIdx (enc := Styled.cs) (L := st) (row := [dI x8.ID, dI (x8.Style 0), dI (x8.Style 1), dI (x8.Style 2), dI (x8.Style 3), dI (x8.Style 4), dI (x8.Style 5), dI (x8.Style 6), dI (x8.Style 7), dI (x8.Style 8), dI (x8.Style 9), dI (x8.Style 10), dI (x8.Style 11), dI (x8.Style 12), dI (x8.Style 13), dI (x8.Style 14), dI (x8.Style 15), dI (x8.Style 16), dI (x8.Style 17), dI (x8.Style 18), dI (x8.Style 19), dI (x8.Style 20), dI (x8.Style 21)]) hx8 rfl rfl rfl rfl (fun _ => rfl) trivial rfl) (OkOps.y (.agg [cI x8.ID, cI (x8.Style 0), cI (x8.Style 1), cI (x8.Style 2), cI (x8.Style 3), cI (x8.Style 4), cI (x8.Style 5), cI (x8.Style 6), cI (x8.Style 7), cI (x8.Style 8), cI (x8.Style 9), cI (x8.Style 10), cI (x8.Style 11), cI (x8.Style 12), cI (x8.Style 13), cI (x8.Style 14), cI (x8.Style 15), cI (x8.Style 16), cI (x8.Style 17), cI (x8.Style 18), cI (x8.Style 19), cI (x8.Style 20), cI (x8.Style 21)]) (OkOps.m 0 (triAlloc (j := 0) (cs := [cI 0, cI 0, cI 0, cI 0, cI 0, cI 0, cI 0, cI 0, cI 0, cI 0, cI 0, cI 0, cI 0, cI 0, cI 0, cI 0, cI 0, cI 0, cI 0, cI 0, cI 0, cI 0, cI 0]) rfl rfl rfl rfl) (OkOps.w (triStore (cs' := [cI x8.ID, cI (x8.Style 0), cI (x8.Style 1), cI (x8.Style 2), cI (x8.Style 3), cI (x8.Style 4), cI (x8.Style 5), cI (x8.Style 6), cI (x8.Style 7), cI (x8.Style 8), cI (x8.Style 9), cI (x8.Style 10), cI (x8.Style 11), cI (x8.Style 12), cI (x8.Style 13), cI (x8.Style 14), cI (x8.Style 15), cI (x8.Style 16), cI (x8.Style 17), cI (x8.Style 18), cI (x8.Style 19), cI (x8.Style 20), cI (x8.Style 21)]) rfl rfl rfl rfl rfl rfl rfl rfl (by kernel_rfl)) (OkOps.nil (Ok.seq (Ok.region (OkOps.y (.c (.loc 0 1)) (OkOps.y (.agg [cI (x8.Style 0), cI (x8.Style 1), cI (x8.Style 2), cI (x8.Style 3), cI (x8.Style 4), cI (x8.Style 5), cI (x8.Style 6), cI (x8.Style 7), cI (x8.Style 8), cI (x8.Style 9), cI (x8.Style 10), cI (x8.Style 11), cI (x8.Style 12), cI (x8.Style 13), cI (x8.Style 14), cI (x8.Style 15), cI (x8.Style 16), cI (x8.Style 17), cI (x8.Style 18), cI (x8.Style 19), cI (x8.Style 20), cI (x8.Style 21)]) (OkOps.y (aI 0) (OkOps.nil ?_))))))))))
  obtain ⟨k10, hk10, hr⟩ := jn_some hr
  refine Ok.joinEnd (fun (s9 : Unit) => ⟨[(7, .s (.c (.d (.sl (List.map Styled.cs st))))), (8, .s (aI (st.length : Int))), (9, .s (aI s3))], [], 0⟩) k10 r (fun s9 hr => ?_) ?_
  rw [hk10] at hr
  exact ⟨(), hr, (Conv.mk (tau []) ⟨⟨_, rfl, .inl rfl⟩, ⟨_, rfl, .inl rfl⟩, ⟨_, rfl, .inl rfl⟩, trivial⟩ trivial rfl rfl rfl rfl)⟩
  clear hk10
  refine Ok.block (Ok.loopK (fun (s11 : Int) => ⟨[(7, .s (.c (.d (.sl (List.map Styled.cs st))))), (8, .s (aI (st.length : Int))), (9, .s (aI s3)), (14, .s (.agg [cI (x8.Style 0), cI (x8.Style 1), cI (x8.Style 2), cI (x8.Style 3), cI (x8.Style 4), cI (x8.Style 5), cI (x8.Style 6), cI (x8.Style 7), cI (x8.Style 8), cI (x8.Style 9), cI (x8.Style 10), cI (x8.Style 11), cI (x8.Style 12), cI (x8.Style 13), cI (x8.Style 14), cI (x8.Style 15), cI (x8.Style 16), cI (x8.Style 17), cI (x8.Style 18), cI (x8.Style 19), cI (x8.Style 20), cI (x8.Style 21)])), (15, .s (aI s11))], [], 0⟩) hr (Conv.mk (tau []) ⟨⟨_, rfl, .inl rfl⟩, ⟨_, rfl, .inl rfl⟩, ⟨_, rfl, .inl rfl⟩, ⟨_, rfl, .inl rfl⟩, ⟨_, rfl, .inl rfl⟩, trivial⟩ trivial rfl rfl rfl rfl) ?_)
  clear hr
  intro again12 s11 hr
  unfold widgetry_layout_styled_L1 at hr
  refine Ok.seq (Ok.region (OkOps.y (aB (decide (s11 < 22))) (OkOps.nil (Ok.seq ?_))))
  refine Ok.cond (b := decide (s11 < 22)) rfl (fun h13 => ?_) (fun h13 => ?_)
  have hr := selT h13 hr
  refine Ok.skip (Ok.seq (Ok.block (Ok.seq (Ok.region (OkOps.y (aI s11) ?_)))))
  obtain ⟨x14, hx14, hr⟩ := bind_some hr
  refine OkOps.q (triIxA (c := cI (x8.Style x14)) hx14 rfl rfl rfl rfl (arr1_get (e1 := dInt .i64) (a := x8.Style) (ixO_spec hx14).2) trivial rfl) (OkOps.y (aI s11) (OkOps.y (aI (x8.Style x14)) (OkOps.nil (Ok.seq (Ok.region (OkOps.y (aI s11) (OkOps.y (aI (x8.Style x14)) ?_)))))))
  obtain ⟨x15, hx15, hr⟩ := bind_some hr
  refine OkOps.q (triCl (tau []) (.s (aB x15)) [] (widgetry_style_InRange_c _ _ hx15) rfl ⟨.inl rfl, .inl rfl, trivial⟩ trivial entry52 trivial) (OkOps.y (aB (!x15)) (OkOps.nil ?_))
  refine Ok.cond (b := !x15) rfl (fun h16 => ?_) (fun h16 => ?_)
  have hr := selT h16 hr
  refine Ok.seq (Ok.region (OkOps.y (aB false) (OkOps.nil (Ok.ret ?_))))
  obtain rfl := Option.some.inj hr
  exact ⟨_, rfl, .inl rfl, trivial⟩
  have hr := selF h16 hr
  refine Ok.skip (Ok.region (OkOps.y (aI (IntKind.i64.wrap (s11 + 1))) (OkOps.y (aI (IntKind.i64.wrap (s11 + 1))) (OkOps.nil ?_))))
  exact ⟨IntKind.i64.wrap (s11 + 1), hr, (Conv.mk (tau []) ⟨⟨_, rfl, .inl rfl⟩, ⟨_, rfl, .inl rfl⟩, ⟨_, rfl, .inl rfl⟩, ⟨_, rfl, .inl rfl⟩, ⟨_, rfl, .inl rfl⟩, trivial⟩ trivial rfl rfl rfl rfl)⟩
  have hr := selF h13 hr
  refine Ok.exit ?_
  exact ⟨(), hr, (Conv.mk (tau []) ⟨⟨_, rfl, .inl rfl⟩, ⟨_, rfl, .inl rfl⟩, ⟨_, rfl, .inl rfl⟩, trivial⟩ trivial rfl rfl rfl rfl)⟩
  have hr := selF h5 hr
  refine Ok.exit ?_
  exact ⟨(), hr, (Conv.mk (tau []) trivial trivial rfl rfl rfl rfl)⟩
theorem widgetry_layout_scene_hidden_c (p_x : layout_scene) (id : Int) {r : Bool × layout_scene} (hr : widgetry_layout_scene_hidden p_x id = some r) : Con Tryd.prog 110 [.c (.loc 0 0), aI id] [(0, .blk [cI p_x.t.Root, cI p_x.t.Next, .d (.sl (List.map Node.cs p_x.t.Nodes)), .d (.sl (List.map Font.cs p_x.fonts)), .d (.mp true (encM (kInt .i64) Node.cs p_x.nodes)), .d (.mp true (encM (kInt .i64) (eArr 22 (dInt .i64)) p_x.style)), .own 1, .tl 2 (List.map (eInt .i64) p_x.shown), .d (.mp false (encM (kInt .i64) (eInt .i64) p_x.least)), .d (.mp false (encM (kInt .i64) (eInt .i64) p_x.most)), .d (.mp false (encM (kPair .i64) (eInt .i64) p_x.tall)), .d (.mp false (encM (kPair .i64) (eInt .i64) p_x.first))] 176), (1, .mp false (encM (kInt .i64) (eJ 1) p_x.kids)), (2, .tail 1)] (.s (aB r.1)) [(0, .blk [cI r.2.t.Root, cI r.2.t.Next, .d (.sl (List.map Node.cs r.2.t.Nodes)), .d (.sl (List.map Font.cs r.2.fonts)), .d (.mp true (encM (kInt .i64) Node.cs r.2.nodes)), .d (.mp true (encM (kInt .i64) (eArr 22 (dInt .i64)) r.2.style)), .own 3000, .tl 3001 (List.map (eInt .i64) r.2.shown), .d (.mp false (encM (kInt .i64) (eInt .i64) r.2.least)), .d (.mp false (encM (kInt .i64) (eInt .i64) r.2.most)), .d (.mp false (encM (kPair .i64) (eInt .i64) r.2.tall)), .d (.mp false (encM (kPair .i64) (eInt .i64) r.2.first))] 176), (1, .dead), (2, .dead), (3000, .mp false (encM (kInt .i64) (eJ 1) r.2.kids)), (3001, .tail 1)] := by
  unfold widgetry_layout_scene_hidden at hr
  refine Con.of_ok 23 0 [.tmp 4] [(0, .s (.c (.loc 0 0))), (1, .s (aI id))] Tryd.func110 rfl rfl rfl rfl rfl rfl rfl rfl fun w g M ρ _ => (Ok.seq (Ok.region (OkOps.y (aB false) (OkOps.nil (Ok.seq (Ok.region (OkOps.y (.c (.loc 0 0)) (OkOps.y (.c (.loc 0 0)) (OkOps.y (.c (.loc 0 5)) (OkOps.y (.c (.d (.mp true (encM (kInt .i64) (eArr 22 (dInt .i64)) p_x.style)))) (OkOps.y (aI id) ?_)))))))))))
  obtain ⟨x1, hx1, hr⟩ := bind_some hr
  refine OkOps.q (triLook (agg := true) (ek := (kInt .i64)) (ev := (eArr 22 (dInt .i64))) (L := p_x.style) (r := .agg [cI (x1.1 0), cI (x1.1 1), cI (x1.1 2), cI (x1.1 3), cI (x1.1 4), cI (x1.1 5), cI (x1.1 6), cI (x1.1 7), cI (x1.1 8), cI (x1.1 9), cI (x1.1 10), cI (x1.1 11), cI (x1.1 12), cI (x1.1 13), cI (x1.1 14), cI (x1.1 15), cI (x1.1 16), cI (x1.1 17), cI (x1.1 18), cI (x1.1 19), cI (x1.1 20), cI (x1.1 21)]) hx1 rfl rfl rfl (keyInt Tryd.underlying3) rfl rfl (fun h => by cases h) rfl trivial rfl) ?_
  refine OkOps.q (triIxA (k := 5) (c := cI (x1.1 5)) rfl rfl rfl rfl rfl rfl trivial rfl) (OkOps.y (aB ((x1.1 5) == 0)) (OkOps.y (aB ((x1.1 5) == 0)) (OkOps.q (triQG (x := .c (.loc 0 0)) rfl rfl trivial rfl) (OkOps.q (triQG (x := .c (.loc 0 0)) rfl rfl ⟨fun h => h, trivial⟩ rfl) (OkOps.q (triQG (x := .c (.loc 0 4)) rfl rfl ⟨fun h => h, trivial⟩ rfl) (OkOps.q (triQG (x := .c (.d (.mp true (encM (kInt .i64) Node.cs p_x.nodes)))) rfl rfl ⟨fun h => h, trivial⟩ rfl) (OkOps.q (triQG (x := aI id) rfl rfl trivial rfl) ?_)))))))
  obtain ⟨x2, hx2, hr⟩ := bind_some hr
  refine OkOps.q (triLookG (agg := true) (ek := (kInt .i64)) (ev := Node.cs) (L := p_x.nodes) (r := .agg [cI x2.1.ID, cI x2.1.Parent, cI x2.1.Kind, cS x2.1.Key, .d (.sl (List.map Attr.cs x2.1.Attrs)), .d (.sl (List.map Action.cs x2.1.Actions)), .d (.sl (List.map (eInt .i64) x2.1.Kids))]) (gO_t hx2) rfl rfl rfl rfl (keyInt Tryd.underlying3) rfl rfl (fun h => by cases h) rfl ⟨fun h => h, ⟨fun h => h, trivial⟩⟩ rfl) ?_
  refine OkOps.q (triQG (x := .c (.d (.sl (List.map Attr.cs x2.1.Attrs)))) rfl rfl ⟨fun h => h, trivial⟩ rfl) ?_
  obtain ⟨x3, hx3, hr⟩ := bind_some hr
  refine OkOps.q (triCallG (x := aB x3) (fun hg => vw_Flag_c _ _ (gO_t hx3 hg)) rfl rfl ⟨.inl rfl, .inl rfl, trivial⟩ ⟨fun h => h, trivial⟩ entry62 rfl rfl rfl) ?_
  refine OkOps.q (triOr rfl rfl (fun h => by rw [h]; rfl) rfl) ?_
  refine OkOps.y (aB (((x1.1 5) == 0) || x3)) (OkOps.nil (Ok.conv (T := ⟨[(4, .s (aB (((x1.1 5) == 0) || x3)))], [(0, .blk [cI p_x.t.Root, cI p_x.t.Next, .d (.sl (List.map Node.cs p_x.t.Nodes)), .d (.sl (List.map Font.cs p_x.fonts)), .d (.mp true (encM (kInt .i64) Node.cs p_x.nodes)), .d (.mp true (encM (kInt .i64) (eArr 22 (dInt .i64)) p_x.style)), .own 3000, .tl 3001 (List.map (eInt .i64) p_x.shown), .d (.mp false (encM (kInt .i64) (eInt .i64) p_x.least)), .d (.mp false (encM (kInt .i64) (eInt .i64) p_x.most)), .d (.mp false (encM (kPair .i64) (eInt .i64) p_x.tall)), .d (.mp false (encM (kPair .i64) (eInt .i64) p_x.first))] 176), (1, .dead), (2, .dead), (3000, .mp false (encM (kInt .i64) (eJ 1) p_x.kids)), (3001, .tail 1)], 0⟩) (Conv.mk (tau [(3000, 1), (3001, 2)]) ⟨⟨_, rfl, .inl rfl⟩, trivial⟩ ⟨rfl, rfl, rfl, trivial⟩ rfl rfl rfl rfl) (Ok.ret ?_)))
  obtain rfl := Option.some.inj hr
  exact ⟨_, rfl, .inl rfl, ⟨rfl, (fun h => by cases h), (fun h => by cases h), rfl, rfl, trivial⟩⟩
theorem widgetry_layout_scene_show_B_c (self0 : layout_scene → Int → Option layout_scene) (hself0 : ∀ (p_x : layout_scene) (id : Int) {r : layout_scene}, self0 p_x id = some r → Con Tryd.prog 111 [.c (.loc 0 0), aI id] [(0, .blk [cI p_x.t.Root, cI p_x.t.Next, .d (.sl (List.map Node.cs p_x.t.Nodes)), .d (.sl (List.map Font.cs p_x.fonts)), .d (.mp true (encM (kInt .i64) Node.cs p_x.nodes)), .d (.mp true (encM (kInt .i64) (eArr 22 (dInt .i64)) p_x.style)), .own 1, .tl 2 (List.map (eInt .i64) p_x.shown), .d (.mp false (encM (kInt .i64) (eInt .i64) p_x.least)), .d (.mp false (encM (kInt .i64) (eInt .i64) p_x.most)), .d (.mp false (encM (kPair .i64) (eInt .i64) p_x.tall)), .d (.mp false (encM (kPair .i64) (eInt .i64) p_x.first))] 176), (1, .mp false (encM (kInt .i64) (eJ 1) p_x.kids)), (2, .tail 1)] (.tup []) [(0, .blk [cI r.t.Root, cI r.t.Next, .d (.sl (List.map Node.cs r.t.Nodes)), .d (.sl (List.map Font.cs r.fonts)), .d (.mp true (encM (kInt .i64) Node.cs r.nodes)), .d (.mp true (encM (kInt .i64) (eArr 22 (dInt .i64)) r.style)), .own 3000, .tl 3001 (List.map (eInt .i64) r.shown), .d (.mp false (encM (kInt .i64) (eInt .i64) r.least)), .d (.mp false (encM (kInt .i64) (eInt .i64) r.most)), .d (.mp false (encM (kPair .i64) (eInt .i64) r.tall)), .d (.mp false (encM (kPair .i64) (eInt .i64) r.first))] 176), (1, .dead), (2, .dead), (3000, .mp false (encM (kInt .i64) (eJ 1) r.kids)), (3001, .tail 1)]) (p_x : layout_scene) (id : Int) {r : layout_scene} (hr : widgetry_layout_scene_show_B self0 p_x id = some r) : Con Tryd.prog 111 [.c (.loc 0 0), aI id] [(0, .blk [cI p_x.t.Root, cI p_x.t.Next, .d (.sl (List.map Node.cs p_x.t.Nodes)), .d (.sl (List.map Font.cs p_x.fonts)), .d (.mp true (encM (kInt .i64) Node.cs p_x.nodes)), .d (.mp true (encM (kInt .i64) (eArr 22 (dInt .i64)) p_x.style)), .own 1, .tl 2 (List.map (eInt .i64) p_x.shown), .d (.mp false (encM (kInt .i64) (eInt .i64) p_x.least)), .d (.mp false (encM (kInt .i64) (eInt .i64) p_x.most)), .d (.mp false (encM (kPair .i64) (eInt .i64) p_x.tall)), .d (.mp false (encM (kPair .i64) (eInt .i64) p_x.first))] 176), (1, .mp false (encM (kInt .i64) (eJ 1) p_x.kids)), (2, .tail 1)] (.tup []) [(0, .blk [cI r.t.Root, cI r.t.Next, .d (.sl (List.map Node.cs r.t.Nodes)), .d (.sl (List.map Font.cs r.fonts)), .d (.mp true (encM (kInt .i64) Node.cs r.nodes)), .d (.mp true (encM (kInt .i64) (eArr 22 (dInt .i64)) r.style)), .own 3000, .tl 3001 (List.map (eInt .i64) r.shown), .d (.mp false (encM (kInt .i64) (eInt .i64) r.least)), .d (.mp false (encM (kInt .i64) (eInt .i64) r.most)), .d (.mp false (encM (kPair .i64) (eInt .i64) r.tall)), .d (.mp false (encM (kPair .i64) (eInt .i64) r.first))] 176), (1, .dead), (2, .dead), (3000, .mp false (encM (kInt .i64) (eJ 1) r.kids)), (3001, .tail 1)] := by
  unfold widgetry_layout_scene_show_B at hr
  refine Con.of_ok 60 0 [] [(0, .s (.c (.loc 0 0))), (1, .s (aI id))] Tryd.func111 rfl rfl rfl rfl rfl rfl rfl rfl fun w g M ρ _ => (Ok.seq (Ok.region (OkOps.y (.c (.loc 0 0)) (OkOps.y (.c (.loc 0 0)) (OkOps.y (.c (.loc 0 0)) (OkOps.y (.c (.loc 0 7)) (OkOps.y (.c (.tl 2 (List.map (eInt .i64) p_x.shown))) (OkOps.y (aI id) (OkOps.m 0 (triBST (sz := 1) (enc := (eInt .i64)) (j := 3) ([id]) rfl rfl rfl rfl rfl rfl rfl rfl (fun _ => rfl) trivial rfl rfl) ?_)))))))))
  obtain ⟨x1, hx1, hr⟩ := bind_some hr
  refine OkOps.m2 0 (triApp (enc := (eInt .i64)) (L := p_x.shown) (X := [id]) (j := 2) (j' := 4) hx1 rfl rfl rfl rfl rfl rfl (fun _ => rfl) (fun _ => rfl) (by decide) trivial rfl rfl) (OkOps.y (.c (.loc 0 0)) (OkOps.y (.c (.loc 0 7)) (OkOps.w (triStore (cs' := [cI p_x.t.Root, cI p_x.t.Next, .d (.sl (List.map Node.cs p_x.t.Nodes)), .d (.sl (List.map Font.cs p_x.fonts)), .d (.mp true (encM (kInt .i64) Node.cs p_x.nodes)), .d (.mp true (encM (kInt .i64) (eArr 22 (dInt .i64)) p_x.style)), .own 1, .tl 4 (List.map (eInt .i64) x1), .d (.mp false (encM (kInt .i64) (eInt .i64) p_x.least)), .d (.mp false (encM (kInt .i64) (eInt .i64) p_x.most)), .d (.mp false (encM (kPair .i64) (eInt .i64) p_x.tall)), .d (.mp false (encM (kPair .i64) (eInt .i64) p_x.first))]) rfl rfl rfl rfl rfl rfl rfl rfl rfl) (OkOps.nil (Ok.seq (Ok.region (OkOps.y (.c (.loc 0 0)) (OkOps.y (.c (.loc 0 0)) (OkOps.y (.c (.loc 0 4)) (OkOps.y (.c (.d (.mp true (encM (kInt .i64) Node.cs p_x.nodes)))) (OkOps.y (aI id) ?_)))))))))))
  obtain ⟨x2, hx2, hr⟩ := bind_some hr
  refine OkOps.q (triLook (agg := true) (ek := (kInt .i64)) (ev := Node.cs) (L := p_x.nodes) (r := .agg [cI x2.1.ID, cI x2.1.Parent, cI x2.1.Kind, cS x2.1.Key, .d (.sl (List.map Attr.cs x2.1.Attrs)), .d (.sl (List.map Action.cs x2.1.Actions)), .d (.sl (List.map (eInt .i64) x2.1.Kids))]) hx2 rfl rfl rfl (keyInt Tryd.underlying3) rfl rfl (fun h => by cases h) rfl trivial rfl) ?_
  refine OkOps.m 0 (triAlloc (j := 5) (cs := [cI 0, cI 0, cI 0, cS ByteArray.empty, .d (.v (.slice none 0 0)), .d (.v (.slice none 0 0)), .d (.v (.slice none 0 0))]) rfl rfl rfl rfl) (OkOps.w (triStore (cs' := [cI x2.1.ID, cI x2.1.Parent, cI x2.1.Kind, cS x2.1.Key, .d (.sl (List.map Attr.cs x2.1.Attrs)), .d (.sl (List.map Action.cs x2.1.Actions)), .d (.sl (List.map (eInt .i64) x2.1.Kids))]) rfl rfl rfl rfl rfl rfl rfl rfl rfl) (OkOps.nil (Ok.seq (Ok.seq (Ok.region (OkOps.y (.c (.loc 5 2)) (OkOps.y (aI x2.1.Kind) ?_)))))))
  obtain ⟨x3, hx3, hr⟩ := bind_some hr
  refine OkOps.q (triCl (tau []) (.s (aB x3)) [] (widgetry_layout_isText_c _ hx3) rfl ⟨.inl rfl, trivial⟩ trivial entry118 trivial) (OkOps.y (aB x3) (OkOps.q (triQG (x := .c (.loc 5 2)) rfl rfl trivial rfl) (OkOps.q (triQG (x := aI x2.1.Kind) rfl rfl ⟨fun h => h, trivial⟩ rfl) ?_)))
  obtain ⟨x4, hx4, hr⟩ := bind_some hr
  refine OkOps.q (triCallG (x := aB x4) (fun hg => widgetry_layout_isFigure_c _ (gO_t hx4 hg)) rfl rfl ⟨.inl rfl, trivial⟩ ⟨fun h => h, trivial⟩ entry119 rfl rfl rfl) ?_
  refine OkOps.q (triOr rfl rfl (fun h => by rw [h]; rfl) rfl) ?_
  refine OkOps.nil ?_
  refine Ok.cond (b := x3 || x4) rfl (fun h5 => ?_) (fun h5 => ?_)
  have hr := selT h5 hr
  refine Ok.conv (T := ⟨[], [(0, .blk [cI p_x.t.Root, cI p_x.t.Next, .d (.sl (List.map Node.cs p_x.t.Nodes)), .d (.sl (List.map Font.cs p_x.fonts)), .d (.mp true (encM (kInt .i64) Node.cs p_x.nodes)), .d (.mp true (encM (kInt .i64) (eArr 22 (dInt .i64)) p_x.style)), .own 3000, .tl 3001 (List.map (eInt .i64) x1), .d (.mp false (encM (kInt .i64) (eInt .i64) p_x.least)), .d (.mp false (encM (kInt .i64) (eInt .i64) p_x.most)), .d (.mp false (encM (kPair .i64) (eInt .i64) p_x.tall)), .d (.mp false (encM (kPair .i64) (eInt .i64) p_x.first))] 176), (1, .dead), (2, .dead), (3000, .mp false (encM (kInt .i64) (eJ 1) p_x.kids)), (3001, .tail 1)], 0⟩) (Conv.mk (tau [(3000, 1), (3001, 4)]) trivial ⟨rfl, rfl, rfl, trivial⟩ rfl rfl rfl rfl) (Ok.ret ?_)
  obtain rfl := Option.some.inj hr
  exact ⟨_, rfl, .inl rfl, ⟨rfl, (fun h => by cases h), (fun h => by cases h), rfl, rfl, trivial⟩⟩
  have hr := selF h5 hr
  refine Ok.skip (Ok.seq (Ok.region (OkOps.y (.c (.loc 5 6)) (OkOps.y (.c (.d (.sl (List.map (eInt .i64) x2.1.Kids)))) (OkOps.q (triLen (enc := (eInt .i64)) x2.1.Kids rfl rfl trivial rfl) (OkOps.y (aI 0) (OkOps.nil (Ok.block (Ok.loopK (fun (s6 : Int × Int × Int × (List Node) × (List Font) × (List (Int × Node)) × (List (Int × (Nat → Int))) × (List (Int × Nat)) × (List Int) × (List (Int × Int)) × (List (Int × Int)) × (List ((Int × Int) × Int)) × (List ((Int × Int) × Int))) => ⟨[(0, .s (.c (.loc 0 0))), (1, .s (aI id)), (32, .s (.c (.d (.sl (List.map (eInt .i64) x2.1.Kids))))), (33, .s (aI (x2.1.Kids.length : Int))), (34, .s (aI s6.1))], [(0, .blk [cI s6.2.1, cI s6.2.2.1, .d (.sl (List.map Node.cs s6.2.2.2.1)), .d (.sl (List.map Font.cs s6.2.2.2.2.1)), .d (.mp true (encM (kInt .i64) Node.cs s6.2.2.2.2.2.1)), .d (.mp true (encM (kInt .i64) (eArr 22 (dInt .i64)) s6.2.2.2.2.2.2.1)), .own 1004, .tl 1005 (List.map (eInt .i64) s6.2.2.2.2.2.2.2.2.1), .d (.mp false (encM (kInt .i64) (eInt .i64) s6.2.2.2.2.2.2.2.2.2.1)), .d (.mp false (encM (kInt .i64) (eInt .i64) s6.2.2.2.2.2.2.2.2.2.2.1)), .d (.mp false (encM (kPair .i64) (eInt .i64) s6.2.2.2.2.2.2.2.2.2.2.2.1)), .d (.mp false (encM (kPair .i64) (eInt .i64) s6.2.2.2.2.2.2.2.2.2.2.2.2))] 176), (1, .dead), (2, .dead), (1004, .mp false (encM (kInt .i64) (eJ 1) s6.2.2.2.2.2.2.2.1)), (1005, .tail 1)], 0⟩) hr (Conv.mk (tau [(1004, 1), (1005, 4)]) ⟨⟨_, rfl, .inl rfl⟩, ⟨_, rfl, .inl rfl⟩, ⟨_, rfl, .inl rfl⟩, ⟨_, rfl, .inl rfl⟩, ⟨_, rfl, .inl rfl⟩, trivial⟩ ⟨rfl, rfl, rfl, trivial⟩ rfl rfl rfl rfl) ?_)))))))))
  clear hr
  intro again7 s6 hr
  unfold widgetry_layout_scene_show_L1 at hr
  refine Ok.seq (Ok.region (OkOps.y (aB (decide (s6.1 < (x2.1.Kids.length : Int)))) (OkOps.nil (Ok.seq ?_))))
  refine Ok.cond (b := decide (s6.1 < (x2.1.Kids.length : Int))) rfl (fun h8 => ?_) (fun h8 => ?_)
  have hr := selT h8 hr
  refine Ok.skip ?_
  obtain ⟨k10, hk10, hr⟩ := jn_some hr
  refine Ok.join (fun (s9 : Int × Int × (List Node) × (List Font) × (List (Int × Node)) × (List (Int × (Nat → Int))) × (List (Int × Nat)) × (List Int) × (List (Int × Int)) × (List (Int × Int)) × (List ((Int × Int) × Int)) × (List ((Int × Int) × Int))) => ⟨[(0, .s (.c (.loc 0 0))), (1, .s (aI id)), (32, .s (.c (.d (.sl (List.map (eInt .i64) x2.1.Kids))))), (33, .s (aI (x2.1.Kids.length : Int))), (34, .s (aI s6.1))], [(0, .blk [cI s9.1, cI s9.2.1, .d (.sl (List.map Node.cs s9.2.2.1)), .d (.sl (List.map Font.cs s9.2.2.2.1)), .d (.mp true (encM (kInt .i64) Node.cs s9.2.2.2.2.1)), .d (.mp true (encM (kInt .i64) (eArr 22 (dInt .i64)) s9.2.2.2.2.2.1)), .own 1010, .tl 1011 (List.map (eInt .i64) s9.2.2.2.2.2.2.2.1), .d (.mp false (encM (kInt .i64) (eInt .i64) s9.2.2.2.2.2.2.2.2.1)), .d (.mp false (encM (kInt .i64) (eInt .i64) s9.2.2.2.2.2.2.2.2.2.1)), .d (.mp false (encM (kPair .i64) (eInt .i64) s9.2.2.2.2.2.2.2.2.2.2.1)), .d (.mp false (encM (kPair .i64) (eInt .i64) s9.2.2.2.2.2.2.2.2.2.2.2))] 176), (1, .dead), (2, .dead), (1010, .mp false (encM (kInt .i64) (eJ 1) s9.2.2.2.2.2.2.1)), (1011, .tail 1)], 0⟩) k10 r (fun s9 hr => ?_) ?_
  rw [hk10] at hr
  refine Ok.region (OkOps.y (aI (IntKind.i64.wrap (s6.1 + 1))) (OkOps.y (aI (IntKind.i64.wrap (s6.1 + 1))) (OkOps.nil ?_)))
  exact ⟨(IntKind.i64.wrap (s6.1 + 1), s9.1, s9.2.1, s9.2.2.1, s9.2.2.2.1, s9.2.2.2.2.1, s9.2.2.2.2.2.1, s9.2.2.2.2.2.2.1, s9.2.2.2.2.2.2.2.1, s9.2.2.2.2.2.2.2.2.1, s9.2.2.2.2.2.2.2.2.2.1, s9.2.2.2.2.2.2.2.2.2.2.1, s9.2.2.2.2.2.2.2.2.2.2.2), hr, (Conv.mk (tau [(1004, 1010), (1005, 1011)]) ⟨⟨_, rfl, .inl rfl⟩, ⟨_, rfl, .inl rfl⟩, ⟨_, rfl, .inl rfl⟩, ⟨_, rfl, .inl rfl⟩, ⟨_, rfl, .inl rfl⟩, trivial⟩ ⟨rfl, rfl, rfl, trivial⟩ rfl rfl rfl rfl)⟩
  clear hk10
  refine Ok.block (Ok.seq (Ok.region ?_))
  obtain ⟨x11, hx11, hr⟩ := bind_some hr
  refine OkOps.q (triIdx (enc := (eInt .i64)) (L := x2.1.Kids) (row := [dI x11]) hx11 rfl rfl rfl rfl (fun _ => rfl) trivial rfl) (OkOps.y (aI x11) (OkOps.y (aI x11) (OkOps.nil (Ok.seq (Ok.region (OkOps.y (.c (.loc 0 0)) (OkOps.y (aI x11) ?_)))))))
  obtain ⟨x12, hx12, hr⟩ := bind_some hr
  refine OkOps.wq [(0, .blk [cI x12.2.t.Root, cI x12.2.t.Next, .d (.sl (List.map Node.cs x12.2.t.Nodes)), .d (.sl (List.map Font.cs x12.2.fonts)), .d (.mp true (encM (kInt .i64) Node.cs x12.2.nodes)), .d (.mp true (encM (kInt .i64) (eArr 22 (dInt .i64)) x12.2.style)), .own 6, .tl 7 (List.map (eInt .i64) x12.2.shown), .d (.mp false (encM (kInt .i64) (eInt .i64) x12.2.least)), .d (.mp false (encM (kInt .i64) (eInt .i64) x12.2.most)), .d (.mp false (encM (kPair .i64) (eInt .i64) x12.2.tall)), .d (.mp false (encM (kPair .i64) (eInt .i64) x12.2.first))] 176), (1004, .dead), (1005, .dead), (6, .mp false (encM (kInt .i64) (eJ 1) x12.2.kids)), (7, .tail 1)] (triCall (tau [(0, 0), (1, 1004), (2, 1005), (3000, 6), (3001, 7)]) (.s (aB x12.1)) [(0, .blk [cI x12.2.t.Root, cI x12.2.t.Next, .d (.sl (List.map Node.cs x12.2.t.Nodes)), .d (.sl (List.map Font.cs x12.2.fonts)), .d (.mp true (encM (kInt .i64) Node.cs x12.2.nodes)), .d (.mp true (encM (kInt .i64) (eArr 22 (dInt .i64)) x12.2.style)), .own 6, .tl 7 (List.map (eInt .i64) x12.2.shown), .d (.mp false (encM (kInt .i64) (eInt .i64) x12.2.least)), .d (.mp false (encM (kInt .i64) (eInt .i64) x12.2.most)), .d (.mp false (encM (kPair .i64) (eInt .i64) x12.2.tall)), .d (.mp false (encM (kPair .i64) (eInt .i64) x12.2.first))] 176), (1004, .dead), (1005, .dead), (6, .mp false (encM (kInt .i64) (eJ 1) x12.2.kids)), (7, .tail 1)] (widgetry_layout_scene_hidden_c _ _ hx12) rfl ⟨.inl rfl, .inl rfl, trivial⟩ trivial entry110 ⟨rfl, rfl, rfl, trivial⟩ rfl rfl rfl rfl ⟨rfl, rfl, trivial⟩ rfl rfl rfl) (OkOps.y (aB (!x12.1)) (OkOps.nil ?_))
  refine Ok.cond (b := !x12.1) rfl (fun h13 => ?_) (fun h13 => ?_)
  have hr := selT h13 hr
  refine Ok.seq (Ok.regionD (by kernel_rfl) (OkD.x (.c (.loc 0 0)) rfl trivial rfl (OkD.x (.c (.loc 0 0)) rfl trivial rfl (OkD.x (.c (.loc 0 6)) rfl trivial rfl (OkD.x (.c (.own 6)) rfl trivial rfl (OkD.x (aI id) rfl trivial rfl (OkD.x (.c (.loc 0 0)) rfl trivial rfl (OkD.x (.c (.loc 0 0)) rfl trivial rfl (OkD.x (.c (.loc 0 6)) rfl trivial rfl (OkD.x (.c (.own 6)) rfl trivial rfl (OkD.x (aI id) rfl trivial rfl ?_)))))))))))
  obtain ⟨x14, hx14, hr⟩ := bind_some hr
  refine OkD.q (triLookJ (sz := 1) (L := x12.2.kids) hx14 rfl rfl rfl (keyInt Tryd.underlying3) rfl trivial rfl) (OkD.x (aI x11) rfl trivial rfl (OkD.m 0 (triBST (sz := 1) (enc := (eInt .i64)) (j := 8) ([x11]) rfl rfl rfl rfl rfl rfl rfl rfl (fun _ => rfl) trivial rfl rfl) ?_))
  obtain ⟨x15, hx15, hr⟩ := bind_some hr
  refine OkD.q (triAppJ (enc := (eInt .i64)) (X := [x11]) hx15 rfl rfl rfl rfl rfl (fun _ => rfl) (fun _ => rfl) trivial rfl) (OkD.w (triMapUp (ek := (kInt .i64)) (ev := eJ 1) (L := x12.2.kids) (z := x15) rfl rfl rfl rfl rfl rfl (keyInt Tryd.underlying3) (fun _ _ => rfl) rfl trivial) (OkD.nil (by kernel_rfl) (Ok.region (OkOps.y (.c (.loc 0 0)) (OkOps.y (aI x11) ?_)))))
  obtain ⟨x16, hx16, hr⟩ := bind_some hr
  refine OkOps.wq [(0, .blk [cI x16.t.Root, cI x16.t.Next, .d (.sl (List.map Node.cs x16.t.Nodes)), .d (.sl (List.map Font.cs x16.fonts)), .d (.mp true (encM (kInt .i64) Node.cs x16.nodes)), .d (.mp true (encM (kInt .i64) (eArr 22 (dInt .i64)) x16.style)), .own 9, .tl 10 (List.map (eInt .i64) x16.shown), .d (.mp false (encM (kInt .i64) (eInt .i64) x16.least)), .d (.mp false (encM (kInt .i64) (eInt .i64) x16.most)), .d (.mp false (encM (kPair .i64) (eInt .i64) x16.tall)), .d (.mp false (encM (kPair .i64) (eInt .i64) x16.first))] 176), (6, .dead), (7, .dead), (9, .mp false (encM (kInt .i64) (eJ 1) x16.kids)), (10, .tail 1)] (triCall (tau [(0, 0), (1, 6), (2, 7), (3000, 9), (3001, 10)]) (.tup []) [(0, .blk [cI x16.t.Root, cI x16.t.Next, .d (.sl (List.map Node.cs x16.t.Nodes)), .d (.sl (List.map Font.cs x16.fonts)), .d (.mp true (encM (kInt .i64) Node.cs x16.nodes)), .d (.mp true (encM (kInt .i64) (eArr 22 (dInt .i64)) x16.style)), .own 9, .tl 10 (List.map (eInt .i64) x16.shown), .d (.mp false (encM (kInt .i64) (eInt .i64) x16.least)), .d (.mp false (encM (kInt .i64) (eInt .i64) x16.most)), .d (.mp false (encM (kPair .i64) (eInt .i64) x16.tall)), .d (.mp false (encM (kPair .i64) (eInt .i64) x16.first))] 176), (6, .dead), (7, .dead), (9, .mp false (encM (kInt .i64) (eJ 1) x16.kids)), (10, .tail 1)] (hself0 _ _ hx16) rfl ⟨.inl rfl, .inl rfl, trivial⟩ trivial entry111 ⟨rfl, rfl, rfl, trivial⟩ rfl rfl rfl rfl ⟨rfl, rfl, trivial⟩ rfl rfl rfl) (OkOps.nil ?_)
  exact ⟨(x16.t.Root, x16.t.Next, x16.t.Nodes, x16.fonts, x16.nodes, x16.style, x16.kids, x16.shown, x16.least, x16.most, x16.tall, x16.first), hr, (Conv.mk (tau [(1010, 9), (1011, 10)]) ⟨⟨_, rfl, .inl rfl⟩, ⟨_, rfl, .inl rfl⟩, ⟨_, rfl, .inl rfl⟩, ⟨_, rfl, .inl rfl⟩, ⟨_, rfl, .inl rfl⟩, trivial⟩ ⟨rfl, rfl, rfl, trivial⟩ rfl rfl rfl rfl)⟩
  have hr := selF h13 hr
  refine Ok.skip ?_
  exact ⟨(x12.2.t.Root, x12.2.t.Next, x12.2.t.Nodes, x12.2.fonts, x12.2.nodes, x12.2.style, x12.2.kids, x12.2.shown, x12.2.least, x12.2.most, x12.2.tall, x12.2.first), hr, (Conv.mk (tau [(1010, 6), (1011, 7)]) ⟨⟨_, rfl, .inl rfl⟩, ⟨_, rfl, .inl rfl⟩, ⟨_, rfl, .inl rfl⟩, ⟨_, rfl, .inl rfl⟩, ⟨_, rfl, .inl rfl⟩, trivial⟩ ⟨rfl, rfl, rfl, trivial⟩ rfl rfl rfl rfl)⟩
  have hr := selF h8 hr
  refine Ok.conv (T := ⟨[], [(0, .blk [cI s6.2.1, cI s6.2.2.1, .d (.sl (List.map Node.cs s6.2.2.2.1)), .d (.sl (List.map Font.cs s6.2.2.2.2.1)), .d (.mp true (encM (kInt .i64) Node.cs s6.2.2.2.2.2.1)), .d (.mp true (encM (kInt .i64) (eArr 22 (dInt .i64)) s6.2.2.2.2.2.2.1)), .own 3000, .tl 3001 (List.map (eInt .i64) s6.2.2.2.2.2.2.2.2.1), .d (.mp false (encM (kInt .i64) (eInt .i64) s6.2.2.2.2.2.2.2.2.2.1)), .d (.mp false (encM (kInt .i64) (eInt .i64) s6.2.2.2.2.2.2.2.2.2.2.1)), .d (.mp false (encM (kPair .i64) (eInt .i64) s6.2.2.2.2.2.2.2.2.2.2.2.1)), .d (.mp false (encM (kPair .i64) (eInt .i64) s6.2.2.2.2.2.2.2.2.2.2.2.2))] 176), (1, .dead), (2, .dead), (3000, .mp false (encM (kInt .i64) (eJ 1) s6.2.2.2.2.2.2.2.1)), (3001, .tail 1)], 0⟩) (Conv.mk (tau [(3000, 1004), (3001, 1005)]) trivial ⟨rfl, rfl, rfl, trivial⟩ rfl rfl rfl rfl) (Ok.exit ?_)
  obtain rfl := Option.some.inj hr
  exact ⟨_, rfl, .inl rfl, ⟨rfl, (fun h => by cases h), (fun h => by cases h), rfl, rfl, trivial⟩⟩
theorem widgetry_layout_scene_show_all : ∀ n : Nat, (∀ (p_x : layout_scene) (id : Int) {r : layout_scene}, widgetry_layout_scene_show n p_x id = some r → Con Tryd.prog 111 [.c (.loc 0 0), aI id] [(0, .blk [cI p_x.t.Root, cI p_x.t.Next, .d (.sl (List.map Node.cs p_x.t.Nodes)), .d (.sl (List.map Font.cs p_x.fonts)), .d (.mp true (encM (kInt .i64) Node.cs p_x.nodes)), .d (.mp true (encM (kInt .i64) (eArr 22 (dInt .i64)) p_x.style)), .own 1, .tl 2 (List.map (eInt .i64) p_x.shown), .d (.mp false (encM (kInt .i64) (eInt .i64) p_x.least)), .d (.mp false (encM (kInt .i64) (eInt .i64) p_x.most)), .d (.mp false (encM (kPair .i64) (eInt .i64) p_x.tall)), .d (.mp false (encM (kPair .i64) (eInt .i64) p_x.first))] 176), (1, .mp false (encM (kInt .i64) (eJ 1) p_x.kids)), (2, .tail 1)] (.tup []) [(0, .blk [cI r.t.Root, cI r.t.Next, .d (.sl (List.map Node.cs r.t.Nodes)), .d (.sl (List.map Font.cs r.fonts)), .d (.mp true (encM (kInt .i64) Node.cs r.nodes)), .d (.mp true (encM (kInt .i64) (eArr 22 (dInt .i64)) r.style)), .own 3000, .tl 3001 (List.map (eInt .i64) r.shown), .d (.mp false (encM (kInt .i64) (eInt .i64) r.least)), .d (.mp false (encM (kInt .i64) (eInt .i64) r.most)), .d (.mp false (encM (kPair .i64) (eInt .i64) r.tall)), .d (.mp false (encM (kPair .i64) (eInt .i64) r.first))] 176), (1, .dead), (2, .dead), (3000, .mp false (encM (kInt .i64) (eJ 1) r.kids)), (3001, .tail 1)]) ∧ True := by
  intro n
  induction n with
  | zero => exact ⟨(by intros; rename_i hr; cases hr), trivial⟩
  | succ n ih => exact ⟨(by intros; rename_i hr; exact widgetry_layout_scene_show_B_c _ ih.1 _ _ hr), trivial⟩
theorem widgetry_layout_scene_show_c (n : Nat) (p_x : layout_scene) (id : Int) {r : layout_scene} (hr : widgetry_layout_scene_show n p_x id = some r) : Con Tryd.prog 111 [.c (.loc 0 0), aI id] [(0, .blk [cI p_x.t.Root, cI p_x.t.Next, .d (.sl (List.map Node.cs p_x.t.Nodes)), .d (.sl (List.map Font.cs p_x.fonts)), .d (.mp true (encM (kInt .i64) Node.cs p_x.nodes)), .d (.mp true (encM (kInt .i64) (eArr 22 (dInt .i64)) p_x.style)), .own 1, .tl 2 (List.map (eInt .i64) p_x.shown), .d (.mp false (encM (kInt .i64) (eInt .i64) p_x.least)), .d (.mp false (encM (kInt .i64) (eInt .i64) p_x.most)), .d (.mp false (encM (kPair .i64) (eInt .i64) p_x.tall)), .d (.mp false (encM (kPair .i64) (eInt .i64) p_x.first))] 176), (1, .mp false (encM (kInt .i64) (eJ 1) p_x.kids)), (2, .tail 1)] (.tup []) [(0, .blk [cI r.t.Root, cI r.t.Next, .d (.sl (List.map Node.cs r.t.Nodes)), .d (.sl (List.map Font.cs r.fonts)), .d (.mp true (encM (kInt .i64) Node.cs r.nodes)), .d (.mp true (encM (kInt .i64) (eArr 22 (dInt .i64)) r.style)), .own 3000, .tl 3001 (List.map (eInt .i64) r.shown), .d (.mp false (encM (kInt .i64) (eInt .i64) r.least)), .d (.mp false (encM (kInt .i64) (eInt .i64) r.most)), .d (.mp false (encM (kPair .i64) (eInt .i64) r.tall)), .d (.mp false (encM (kPair .i64) (eInt .i64) r.first))] 176), (1, .dead), (2, .dead), (3000, .mp false (encM (kInt .i64) (eJ 1) r.kids)), (3001, .tail 1)] := (widgetry_layout_scene_show_all n).1 p_x id hr
theorem widgetry_layout_open_c (t : Tree) (st : (List Styled)) (fonts : (List Font)) {r : layout_scene} (hr : widgetry_layout_open t st fonts = some r) : Con Tryd.prog 97 [.agg [cI t.Root, cI t.Next, .d (.sl (List.map Node.cs t.Nodes))], .c (.d (.sl (List.map Styled.cs st))), .c (.d (.sl (List.map Font.cs fonts)))] [] (.s (.c (.loc 8 0))) [(8, .blk [cI r.t.Root, cI r.t.Next, .d (.sl (List.map Node.cs r.t.Nodes)), .d (.sl (List.map Font.cs r.fonts)), .d (.mp true (encM (kInt .i64) Node.cs r.nodes)), .d (.mp true (encM (kInt .i64) (eArr 22 (dInt .i64)) r.style)), .d (.mp false (encM (kInt .i64) (eJ 1) r.kids)), .d (.sl (List.map (eInt .i64) r.shown)), .d (.mp false (encM (kInt .i64) (eInt .i64) r.least)), .d (.mp false (encM (kInt .i64) (eInt .i64) r.most)), .d (.mp false (encM (kPair .i64) (eInt .i64) r.tall)), .d (.mp false (encM (kPair .i64) (eInt .i64) r.first))] 176)] := by
  unfold widgetry_layout_open at hr
  refine Con.of_ok 62 0 [.tmp 6] [(0, .s (.agg [cI t.Root, cI t.Next, .d (.sl (List.map Node.cs t.Nodes))])), (1, .s (.c (.d (.sl (List.map Styled.cs st))))), (2, .s (.c (.d (.sl (List.map Font.cs fonts)))))] Tryd.func97 rfl rfl rfl rfl rfl rfl rfl rfl fun w g M ρ _ => (Ok.seq (Ok.region (OkOps.m 0 (triBox (j := 0) (cs := [cI t.Root, cI t.Next, .d (.sl (List.map Node.cs t.Nodes))]) rfl rfl rfl rfl rfl) (OkOps.y (.c (.d (.v (.pointer none)))) (OkOps.nil (Ok.seq (Ok.region (OkOps.y (.agg [cI t.Root, cI t.Next, .d (.sl (List.map Node.cs t.Nodes))]) (OkOps.y (.c (.d (.sl (List.map Font.cs fonts)))) (OkOps.m 0 (triMkM (j := 1) true rfl rfl) (OkOps.m 0 (triMkM (j := 2) true rfl rfl) (OkOps.m 0 (triMkM (j := 3) false rfl rfl) (OkOps.m 0 (triMkM (j := 4) false rfl rfl) (OkOps.m 0 (triMkM (j := 5) false rfl rfl) (OkOps.m 0 (triMkM (j := 6) false rfl rfl) ?_)))))))))))))))
  refine OkOps.m 0 (triMkM (j := 7) false rfl rfl) (OkOps.q (triBuildF (x := .agg [cI t.Root, cI t.Next, .d (.sl (List.map Node.cs t.Nodes)), .d (.sl (List.map Font.cs fonts)), .own 1, .own 2, .own 3, .d (.v (.slice none 0 0)), .own 4, .own 5, .own 6, .own 7]) rfl rfl trivial rfl) (OkOps.m 0 (triBox (j := 8) (cs := [cI t.Root, cI t.Next, .d (.sl (List.map Node.cs t.Nodes)), .d (.sl (List.map Font.cs fonts)), .own 1, .own 2, .own 3, .d (.v (.slice none 0 0)), .own 4, .own 5, .own 6, .own 7]) rfl rfl rfl rfl rfl) (OkOps.y (.c (.loc 8 0)) (OkOps.nil ?_))))
  obtain ⟨k2, hk2, hr⟩ := jn_some hr
  refine Ok.join (fun (s1 : (List (Int × Node)) × (List (Int × (Nat → Int)))) => ⟨[(3, .s (.c (.loc 0 0))), (7, .s (.c (.loc 8 0)))], [(0, .blk [cI t.Root, cI t.Next, .d (.sl (List.map Node.cs t.Nodes))] 46), (1, .mp true (encM (kInt .i64) Node.cs s1.1)), (2, .mp true (encM (kInt .i64) (eArr 22 (dInt .i64)) s1.2)), (3, .mp false (encM (kInt .i64) (eJ 1) ([] : (List (Int × Nat))))), (4, .mp false (encM (kInt .i64) (eInt .i64) ([] : (List (Int × Int))))), (5, .mp false (encM (kInt .i64) (eInt .i64) ([] : (List (Int × Int))))), (6, .mp false (encM (kPair .i64) (eInt .i64) ([] : (List ((Int × Int) × Int))))), (7, .mp false (encM (kPair .i64) (eInt .i64) ([] : (List ((Int × Int) × Int))))), (8, .blk [cI t.Root, cI t.Next, .d (.sl (List.map Node.cs t.Nodes)), .d (.sl (List.map Font.cs fonts)), .own 1, .own 2, .own 3, .d (.v (.slice none 0 0)), .own 4, .own 5, .own 6, .own 7] 176)], 0⟩) k2 r (fun s1 hr => ?_) ?_
  rw [hk2] at hr
  obtain ⟨k4, hk4, hr⟩ := jn_some hr
  refine Ok.join (fun (s3 : Int × Int × (List Node) × (List Font) × (List (Int × Node)) × (List (Int × (Nat → Int))) × (List (Int × Nat)) × (List Int) × (List (Int × Int)) × (List (Int × Int)) × (List ((Int × Int) × Int)) × (List ((Int × Int) × Int))) => ⟨[(7, .s (.c (.loc 8 0)))], [(8, .blk [cI s3.1, cI s3.2.1, .d (.sl (List.map Node.cs s3.2.2.1)), .d (.sl (List.map Font.cs s3.2.2.2.1)), .d (.mp true (encM (kInt .i64) Node.cs s3.2.2.2.2.1)), .d (.mp true (encM (kInt .i64) (eArr 22 (dInt .i64)) s3.2.2.2.2.2.1)), .own 1000, .tl 1001 (List.map (eInt .i64) s3.2.2.2.2.2.2.2.1), .d (.mp false (encM (kInt .i64) (eInt .i64) s3.2.2.2.2.2.2.2.2.1)), .d (.mp false (encM (kInt .i64) (eInt .i64) s3.2.2.2.2.2.2.2.2.2.1)), .d (.mp false (encM (kPair .i64) (eInt .i64) s3.2.2.2.2.2.2.2.2.2.2.1)), .d (.mp false (encM (kPair .i64) (eInt .i64) s3.2.2.2.2.2.2.2.2.2.2.2))] 176), (1000, .mp false (encM (kInt .i64) (eJ 1) s3.2.2.2.2.2.2.1)), (1001, .tail 1)], 0⟩) k4 r (fun s3 hr => ?_) ?_
  rw [hk4] at hr
  refine Ok.seq (Ok.region (OkOps.y (.c (.loc 8 0)) (OkOps.y (.c (.loc 8 0)) (OkOps.nil (Ok.conv (Conv.freezeM [] [(8, .blk [cI s3.1, cI s3.2.1, .d (.sl (List.map Node.cs s3.2.2.1)), .d (.sl (List.map Font.cs s3.2.2.2.1)), .d (.mp true (encM (kInt .i64) Node.cs s3.2.2.2.2.1)), .d (.mp true (encM (kInt .i64) (eArr 22 (dInt .i64)) s3.2.2.2.2.2.1)), .d (.mp false (encM (kInt .i64) (eJ 1) s3.2.2.2.2.2.2.1)), .tl 1001 (List.map (eInt .i64) s3.2.2.2.2.2.2.2.1), .d (.mp false (encM (kInt .i64) (eInt .i64) s3.2.2.2.2.2.2.2.2.1)), .d (.mp false (encM (kInt .i64) (eInt .i64) s3.2.2.2.2.2.2.2.2.2.1)), .d (.mp false (encM (kPair .i64) (eInt .i64) s3.2.2.2.2.2.2.2.2.2.2.1)), .d (.mp false (encM (kPair .i64) (eInt .i64) s3.2.2.2.2.2.2.2.2.2.2.2))] 176)] 1000 0 rfl trivial ⟨⟨_, _, rfl, rfl⟩, trivial⟩) (Ok.conv (Conv.norm 8 [cI s3.1, cI s3.2.1, .d (.sl (List.map Node.cs s3.2.2.1)), .d (.sl (List.map Font.cs s3.2.2.2.1)), .d (.mp true (encM (kInt .i64) Node.cs s3.2.2.2.2.1)), .d (.mp true (encM (kInt .i64) (eArr 22 (dInt .i64)) s3.2.2.2.2.2.1)), .d (.mp false (encM (kInt .i64) (eJ 1) s3.2.2.2.2.2.2.1)), .tl 1001 (List.map (eInt .i64) s3.2.2.2.2.2.2.2.1), .d (.mp false (encM (kInt .i64) (eInt .i64) s3.2.2.2.2.2.2.2.2.1)), .d (.mp false (encM (kInt .i64) (eInt .i64) s3.2.2.2.2.2.2.2.2.2.1)), .d (.mp false (encM (kPair .i64) (eInt .i64) s3.2.2.2.2.2.2.2.2.2.2.1)), .d (.mp false (encM (kPair .i64) (eInt .i64) s3.2.2.2.2.2.2.2.2.2.2.2))] [cI s3.1, cI s3.2.1, .d (.sl (List.map Node.cs s3.2.2.1)), .d (.sl (List.map Font.cs s3.2.2.2.1)), .d (.mp true (encM (kInt .i64) Node.cs s3.2.2.2.2.1)), .d (.mp true (encM (kInt .i64) (eArr 22 (dInt .i64)) s3.2.2.2.2.2.1)), .d (.mp false (encM (kInt .i64) (eJ 1) s3.2.2.2.2.2.2.1)), .d (.sl (List.map (eInt .i64) s3.2.2.2.2.2.2.2.1)), .d (.mp false (encM (kInt .i64) (eInt .i64) s3.2.2.2.2.2.2.2.2.1)), .d (.mp false (encM (kInt .i64) (eInt .i64) s3.2.2.2.2.2.2.2.2.2.1)), .d (.mp false (encM (kPair .i64) (eInt .i64) s3.2.2.2.2.2.2.2.2.2.2.1)), .d (.mp false (encM (kPair .i64) (eInt .i64) s3.2.2.2.2.2.2.2.2.2.2.2))] 176 0 rfl rfl) (Ok.ret ?_)))))))
  obtain rfl := Option.some.inj hr
  exact ⟨_, rfl, .inl rfl, ⟨rfl, trivial⟩⟩
  clear hk4
  refine Ok.seq (Ok.region (OkOps.y (.c (.loc 8 0)) (OkOps.y (.c (.loc 0 0)) (OkOps.y (aI t.Root) (OkOps.conv (Conv.nilB 8 7 9 (.tail 1) (.tl 9 (List.map (eInt .i64) ([] : (List Int)))) [cI t.Root, cI t.Next, .d (.sl (List.map Node.cs t.Nodes)), .d (.sl (List.map Font.cs fonts)), .own 1, .own 2, .own 3, .d (.v (.slice none 0 0)), .own 4, .own 5, .own 6, .own 7] [cI t.Root, cI t.Next, .d (.sl (List.map Node.cs t.Nodes)), .d (.sl (List.map Font.cs fonts)), .own 1, .own 2, .own 3, .tl 9 (List.map (eInt .i64) ([] : (List Int))), .own 4, .own 5, .own 6, .own 7] 176 0 rfl rfl rfl rfl (nil_tail 1 9) (fun _ _ h => ⟨h.symm, Rep.nil⟩)) (OkOps.conv (Conv.freezeM [] [(8, .blk [cI t.Root, cI t.Next, .d (.sl (List.map Node.cs t.Nodes)), .d (.sl (List.map Font.cs fonts)), .d (.mp true (encM (kInt .i64) Node.cs s1.1)), .own 2, .own 3, .tl 9 (List.map (eInt .i64) ([] : (List Int))), .own 4, .own 5, .own 6, .own 7] 176)] 1 0 rfl trivial ⟨⟨_, _, rfl, rfl⟩, trivial⟩) (OkOps.conv (Conv.freezeM [] [(8, .blk [cI t.Root, cI t.Next, .d (.sl (List.map Node.cs t.Nodes)), .d (.sl (List.map Font.cs fonts)), .d (.mp true (encM (kInt .i64) Node.cs s1.1)), .d (.mp true (encM (kInt .i64) (eArr 22 (dInt .i64)) s1.2)), .own 3, .tl 9 (List.map (eInt .i64) ([] : (List Int))), .own 4, .own 5, .own 6, .own 7] 176)] 2 0 rfl trivial ⟨⟨_, _, rfl, rfl⟩, trivial⟩) (OkOps.conv (Conv.freezeM [] [(8, .blk [cI t.Root, cI t.Next, .d (.sl (List.map Node.cs t.Nodes)), .d (.sl (List.map Font.cs fonts)), .d (.mp true (encM (kInt .i64) Node.cs s1.1)), .d (.mp true (encM (kInt .i64) (eArr 22 (dInt .i64)) s1.2)), .own 3, .tl 9 (List.map (eInt .i64) ([] : (List Int))), .d (.mp false (encM (kInt .i64) (eInt .i64) ([] : (List (Int × Int))))), .own 5, .own 6, .own 7] 176)] 4 0 rfl trivial ⟨⟨_, _, rfl, rfl⟩, trivial⟩) (OkOps.conv (Conv.freezeM [] [(8, .blk [cI t.Root, cI t.Next, .d (.sl (List.map Node.cs t.Nodes)), .d (.sl (List.map Font.cs fonts)), .d (.mp true (encM (kInt .i64) Node.cs s1.1)), .d (.mp true (encM (kInt .i64) (eArr 22 (dInt .i64)) s1.2)), .own 3, .tl 9 (List.map (eInt .i64) ([] : (List Int))), .d (.mp false (encM (kInt .i64) (eInt .i64) ([] : (List (Int × Int))))), .d (.mp false (encM (kInt .i64) (eInt .i64) ([] : (List (Int × Int))))), .own 6, .own 7] 176)] 5 0 rfl trivial ⟨⟨_, _, rfl, rfl⟩, trivial⟩) (OkOps.conv (Conv.freezeM [] [(8, .blk [cI t.Root, cI t.Next, .d (.sl (List.map Node.cs t.Nodes)), .d (.sl (List.map Font.cs fonts)), .d (.mp true (encM (kInt .i64) Node.cs s1.1)), .d (.mp true (encM (kInt .i64) (eArr 22 (dInt .i64)) s1.2)), .own 3, .tl 9 (List.map (eInt .i64) ([] : (List Int))), .d (.mp false (encM (kInt .i64) (eInt .i64) ([] : (List (Int × Int))))), .d (.mp false (encM (kInt .i64) (eInt .i64) ([] : (List (Int × Int))))), .d (.mp false (encM (kPair .i64) (eInt .i64) ([] : (List ((Int × Int) × Int))))), .own 7] 176)] 6 0 rfl trivial ⟨⟨_, _, rfl, rfl⟩, trivial⟩) (OkOps.conv (Conv.freezeM [] [(8, .blk [cI t.Root, cI t.Next, .d (.sl (List.map Node.cs t.Nodes)), .d (.sl (List.map Font.cs fonts)), .d (.mp true (encM (kInt .i64) Node.cs s1.1)), .d (.mp true (encM (kInt .i64) (eArr 22 (dInt .i64)) s1.2)), .own 3, .tl 9 (List.map (eInt .i64) ([] : (List Int))), .d (.mp false (encM (kInt .i64) (eInt .i64) ([] : (List (Int × Int))))), .d (.mp false (encM (kInt .i64) (eInt .i64) ([] : (List (Int × Int))))), .d (.mp false (encM (kPair .i64) (eInt .i64) ([] : (List ((Int × Int) × Int))))), .d (.mp false (encM (kPair .i64) (eInt .i64) ([] : (List ((Int × Int) × Int)))))] 176)] 7 0 rfl trivial ⟨⟨_, _, rfl, rfl⟩, trivial⟩) ?_)))))))))))
  obtain ⟨x5, hx5, hr⟩ := bind_some hr
  refine OkOps.wq [(8, .blk [cI x5.2.t.Root, cI x5.2.t.Next, .d (.sl (List.map Node.cs x5.2.t.Nodes)), .d (.sl (List.map Font.cs x5.2.fonts)), .d (.mp true (encM (kInt .i64) Node.cs x5.2.nodes)), .d (.mp true (encM (kInt .i64) (eArr 22 (dInt .i64)) x5.2.style)), .own 10, .tl 11 (List.map (eInt .i64) x5.2.shown), .d (.mp false (encM (kInt .i64) (eInt .i64) x5.2.least)), .d (.mp false (encM (kInt .i64) (eInt .i64) x5.2.most)), .d (.mp false (encM (kPair .i64) (eInt .i64) x5.2.tall)), .d (.mp false (encM (kPair .i64) (eInt .i64) x5.2.first))] 176), (3, .dead), (9, .dead), (10, .mp false (encM (kInt .i64) (eJ 1) x5.2.kids)), (11, .tail 1)] (triCall (tau [(0, 8), (1, 3), (2, 9), (3000, 10), (3001, 11)]) (.s (aB x5.1)) [(8, .blk [cI x5.2.t.Root, cI x5.2.t.Next, .d (.sl (List.map Node.cs x5.2.t.Nodes)), .d (.sl (List.map Font.cs x5.2.fonts)), .d (.mp true (encM (kInt .i64) Node.cs x5.2.nodes)), .d (.mp true (encM (kInt .i64) (eArr 22 (dInt .i64)) x5.2.style)), .own 10, .tl 11 (List.map (eInt .i64) x5.2.shown), .d (.mp false (encM (kInt .i64) (eInt .i64) x5.2.least)), .d (.mp false (encM (kInt .i64) (eInt .i64) x5.2.most)), .d (.mp false (encM (kPair .i64) (eInt .i64) x5.2.tall)), .d (.mp false (encM (kPair .i64) (eInt .i64) x5.2.first))] 176), (3, .dead), (9, .dead), (10, .mp false (encM (kInt .i64) (eJ 1) x5.2.kids)), (11, .tail 1)] (widgetry_layout_scene_hidden_c _ _ hx5) rfl ⟨.inl rfl, .inl rfl, trivial⟩ trivial entry110 ⟨rfl, rfl, rfl, trivial⟩ rfl rfl rfl rfl ⟨rfl, rfl, trivial⟩ rfl rfl rfl) (OkOps.y (aB (!x5.1)) (OkOps.nil ?_))
  refine Ok.cond (b := !x5.1) rfl (fun h6 => ?_) (fun h6 => ?_)
  have hr := selT h6 hr
  refine Ok.region (OkOps.y (.c (.loc 8 0)) (OkOps.y (.c (.loc 0 0)) (OkOps.y (aI t.Root) ?_)))
  obtain ⟨x7, hx7, hr⟩ := bind_some hr
  refine OkOps.wq [(8, .blk [cI x7.t.Root, cI x7.t.Next, .d (.sl (List.map Node.cs x7.t.Nodes)), .d (.sl (List.map Font.cs x7.fonts)), .d (.mp true (encM (kInt .i64) Node.cs x7.nodes)), .d (.mp true (encM (kInt .i64) (eArr 22 (dInt .i64)) x7.style)), .own 12, .tl 13 (List.map (eInt .i64) x7.shown), .d (.mp false (encM (kInt .i64) (eInt .i64) x7.least)), .d (.mp false (encM (kInt .i64) (eInt .i64) x7.most)), .d (.mp false (encM (kPair .i64) (eInt .i64) x7.tall)), .d (.mp false (encM (kPair .i64) (eInt .i64) x7.first))] 176), (10, .dead), (11, .dead), (12, .mp false (encM (kInt .i64) (eJ 1) x7.kids)), (13, .tail 1)] (triCall (tau [(0, 8), (1, 10), (2, 11), (3000, 12), (3001, 13)]) (.tup []) [(8, .blk [cI x7.t.Root, cI x7.t.Next, .d (.sl (List.map Node.cs x7.t.Nodes)), .d (.sl (List.map Font.cs x7.fonts)), .d (.mp true (encM (kInt .i64) Node.cs x7.nodes)), .d (.mp true (encM (kInt .i64) (eArr 22 (dInt .i64)) x7.style)), .own 12, .tl 13 (List.map (eInt .i64) x7.shown), .d (.mp false (encM (kInt .i64) (eInt .i64) x7.least)), .d (.mp false (encM (kInt .i64) (eInt .i64) x7.most)), .d (.mp false (encM (kPair .i64) (eInt .i64) x7.tall)), .d (.mp false (encM (kPair .i64) (eInt .i64) x7.first))] 176), (10, .dead), (11, .dead), (12, .mp false (encM (kInt .i64) (eJ 1) x7.kids)), (13, .tail 1)] (widgetry_layout_scene_show_c _ _ _ hx7) rfl ⟨.inl rfl, .inl rfl, trivial⟩ trivial entry111 ⟨rfl, rfl, rfl, trivial⟩ rfl rfl rfl rfl ⟨rfl, rfl, trivial⟩ rfl rfl rfl) (OkOps.nil ?_)
  exact ⟨(x7.t.Root, x7.t.Next, x7.t.Nodes, x7.fonts, x7.nodes, x7.style, x7.kids, x7.shown, x7.least, x7.most, x7.tall, x7.first), hr, (Conv.mk (tau [(1000, 12), (1001, 13)]) ⟨⟨_, rfl, .inl rfl⟩, trivial⟩ ⟨rfl, rfl, rfl, trivial⟩ rfl rfl rfl rfl)⟩
  have hr := selF h6 hr
  refine Ok.skip ?_
  exact ⟨(x5.2.t.Root, x5.2.t.Next, x5.2.t.Nodes, x5.2.fonts, x5.2.nodes, x5.2.style, x5.2.kids, x5.2.shown, x5.2.least, x5.2.most, x5.2.tall, x5.2.first), hr, (Conv.mk (tau [(1000, 10), (1001, 11)]) ⟨⟨_, rfl, .inl rfl⟩, trivial⟩ ⟨rfl, rfl, rfl, trivial⟩ rfl rfl rfl rfl)⟩
  clear hk2
  refine Ok.seq (Ok.region (OkOps.y (.c (.loc 0 2)) (OkOps.y (.c (.d (.sl (List.map Node.cs t.Nodes)))) (OkOps.q (triLen (enc := Node.cs) t.Nodes rfl rfl trivial rfl) (OkOps.y (aI 0) (OkOps.nil (Ok.block (Ok.loopK (fun (s8 : Int × (List (Int × Node)) × (List (Int × (Nat → Int)))) => ⟨[(1, .s (.c (.d (.sl (List.map Styled.cs st))))), (3, .s (.c (.loc 0 0))), (7, .s (.c (.loc 8 0))), (22, .s (.c (.d (.sl (List.map Node.cs t.Nodes))))), (23, .s (aI (t.Nodes.length : Int))), (24, .s (aI s8.1))], [(0, .blk [cI t.Root, cI t.Next, .d (.sl (List.map Node.cs t.Nodes))] 46), (1, .mp true (encM (kInt .i64) Node.cs s8.2.1)), (2, .mp true (encM (kInt .i64) (eArr 22 (dInt .i64)) s8.2.2)), (3, .mp false (encM (kInt .i64) (eJ 1) ([] : (List (Int × Nat))))), (4, .mp false (encM (kInt .i64) (eInt .i64) ([] : (List (Int × Int))))), (5, .mp false (encM (kInt .i64) (eInt .i64) ([] : (List (Int × Int))))), (6, .mp false (encM (kPair .i64) (eInt .i64) ([] : (List ((Int × Int) × Int))))), (7, .mp false (encM (kPair .i64) (eInt .i64) ([] : (List ((Int × Int) × Int))))), (8, .blk [cI t.Root, cI t.Next, .d (.sl (List.map Node.cs t.Nodes)), .d (.sl (List.map Font.cs fonts)), .own 1, .own 2, .own 3, .d (.v (.slice none 0 0)), .own 4, .own 5, .own 6, .own 7] 176)], 0⟩) hr (Conv.mk (tau []) ⟨⟨_, rfl, .inl rfl⟩, ⟨_, rfl, .inl rfl⟩, ⟨_, rfl, .inl rfl⟩, ⟨_, rfl, .inl rfl⟩, ⟨_, rfl, .inl rfl⟩, ⟨_, rfl, .inl rfl⟩, trivial⟩ ⟨rfl, rfl, rfl, rfl, rfl, rfl, rfl, rfl, rfl, trivial⟩ rfl rfl rfl rfl) ?_))))))))
  clear hr
  intro again9 s8 hr
  unfold widgetry_layout_open_L1 at hr
  refine Ok.seq (Ok.region (OkOps.y (aB (decide (s8.1 < (t.Nodes.length : Int)))) (OkOps.nil (Ok.seq ?_))))
  refine Ok.cond (b := decide (s8.1 < (t.Nodes.length : Int))) rfl (fun h10 => ?_) (fun h10 => ?_)
  have hr := selT h10 hr
  refine Ok.skip (Ok.seq (Ok.block (Ok.seq (Ok.region (OkOps.y (aI s8.1) ?_)))))
  obtain ⟨x11, hx11, hr⟩ := bind_some hr
  refine OkOps.q (triIdx (enc := Node.cs) (L := t.Nodes) (row := [dI x11.ID, dI x11.Parent, dI x11.Kind, dS x11.Key, .sl (List.map Attr.cs x11.Attrs), .sl (List.map Action.cs x11.Actions), .sl (List.map (eInt .i64) x11.Kids)]) hx11 rfl rfl rfl rfl (fun _ => rfl) trivial rfl) (OkOps.y (.agg [cI x11.ID, cI x11.Parent, cI x11.Kind, cS x11.Key, .d (.sl (List.map Attr.cs x11.Attrs)), .d (.sl (List.map Action.cs x11.Actions)), .d (.sl (List.map (eInt .i64) x11.Kids))]) (OkOps.m 0 (triAlloc (j := 14) (cs := [cI 0, cI 0, cI 0, cS ByteArray.empty, .d (.v (.slice none 0 0)), .d (.v (.slice none 0 0)), .d (.v (.slice none 0 0))]) rfl rfl rfl rfl) (OkOps.y (aI s8.1) (OkOps.w (triStore (cs' := [cI x11.ID, cI x11.Parent, cI x11.Kind, cS x11.Key, .d (.sl (List.map Attr.cs x11.Attrs)), .d (.sl (List.map Action.cs x11.Actions)), .d (.sl (List.map (eInt .i64) x11.Kids))]) rfl rfl rfl rfl rfl rfl rfl rfl rfl) (OkOps.nil (Ok.regionD (by kernel_rfl) (OkD.x (.c (.loc 8 0)) rfl trivial rfl (OkD.x (.c (.loc 8 0)) rfl trivial rfl (OkD.x (.c (.loc 8 4)) rfl trivial rfl (OkD.x (.c (.own 1)) rfl trivial rfl (OkD.x (.c (.loc 14 0)) rfl trivial rfl (OkD.x (aI x11.ID) rfl trivial rfl (OkD.x (.c (.loc 8 0)) rfl trivial rfl (OkD.x (.c (.loc 8 0)) rfl trivial rfl (OkD.x (.c (.loc 8 5)) rfl trivial rfl ?_)))))))))))))))
  refine OkD.x (.c (.own 2)) rfl trivial rfl (OkD.x (.c (.loc 14 0)) rfl trivial rfl (OkD.x (aI x11.ID) rfl trivial rfl (OkD.x (.agg [cI x11.ID, cI x11.Parent, cI x11.Kind, cS x11.Key, .d (.sl (List.map Attr.cs x11.Attrs)), .d (.sl (List.map Action.cs x11.Actions)), .d (.sl (List.map (eInt .i64) x11.Kids))]) rfl trivial rfl (OkD.x (.c (.d (.sl (List.map Styled.cs st)))) rfl trivial rfl (OkD.x (aI s8.1) rfl trivial rfl ?_)))))
  obtain ⟨x12, hx12, hr⟩ := bind_some hr
  refine OkD.q (triIdx (enc := Styled.cs) (L := st) (row := [dI x12.ID, dI (x12.Style 0), dI (x12.Style 1), dI (x12.Style 2), dI (x12.Style 3), dI (x12.Style 4), dI (x12.Style 5), dI (x12.Style 6), dI (x12.Style 7), dI (x12.Style 8), dI (x12.Style 9), dI (x12.Style 10), dI (x12.Style 11), dI (x12.Style 12), dI (x12.Style 13), dI (x12.Style 14), dI (x12.Style 15), dI (x12.Style 16), dI (x12.Style 17), dI (x12.Style 18), dI (x12.Style 19), dI (x12.Style 20), dI (x12.Style 21)]) hx12 rfl rfl rfl rfl (fun _ => rfl) trivial rfl) (OkD.x (.c (.pt [dI (x12.Style 0), dI (x12.Style 1), dI (x12.Style 2), dI (x12.Style 3), dI (x12.Style 4), dI (x12.Style 5), dI (x12.Style 6), dI (x12.Style 7), dI (x12.Style 8), dI (x12.Style 9), dI (x12.Style 10), dI (x12.Style 11), dI (x12.Style 12), dI (x12.Style 13), dI (x12.Style 14), dI (x12.Style 15), dI (x12.Style 16), dI (x12.Style 17), dI (x12.Style 18), dI (x12.Style 19), dI (x12.Style 20), dI (x12.Style 21)])) rfl trivial rfl (OkD.x (.agg [cI (x12.Style 0), cI (x12.Style 1), cI (x12.Style 2), cI (x12.Style 3), cI (x12.Style 4), cI (x12.Style 5), cI (x12.Style 6), cI (x12.Style 7), cI (x12.Style 8), cI (x12.Style 9), cI (x12.Style 10), cI (x12.Style 11), cI (x12.Style 12), cI (x12.Style 13), cI (x12.Style 14), cI (x12.Style 15), cI (x12.Style 16), cI (x12.Style 17), cI (x12.Style 18), cI (x12.Style 19), cI (x12.Style 20), cI (x12.Style 21)]) rfl trivial rfl ?_))
  obtain ⟨x13, hx13, hr⟩ := bind_some hr
  refine OkD.m 0 (triMapEntry (ek := (kInt .i64)) (ev := Node.cs) (L := s8.2.1) (yo := x13) (r := .agg [cI x13.1.ID, cI x13.1.Parent, cI x13.1.Kind, cS x13.1.Key, .d (.sl (List.map Attr.cs x13.1.Attrs)), .d (.sl (List.map Action.cs x13.1.Actions)), .d (.sl (List.map (eInt .i64) x13.1.Kids))]) hx13 rfl rfl rfl rfl (keyInt Tryd.underlying3) rfl rfl (fun h => by cases h) rfl rfl trivial rfl) ?_
  refine OkD.x (aI (((midx (msetL s8.2.1 x11.ID x13.1) x11.ID).getD 0 : Nat) : Int)) rfl trivial rfl ?_
  refine OkD.w (triEntryStore (ek := (kInt .i64)) (ev := Node.cs) (L := msetL s8.2.1 x11.ID x13.1) (k := x11.ID) (z := x11) (midx_self s8.2.1 x11.ID x13.1) rfl rfl rfl rfl rfl rfl (keyInt Tryd.underlying3) (fun h => by cases h) (msetL_twice s8.2.1 x11.ID x13.1 x11) trivial) ?_
  obtain ⟨x14, hx14, hr⟩ := bind_some hr
  refine OkD.m 0 (triMapEntry (ek := (kInt .i64)) (ev := (eArr 22 (dInt .i64))) (L := s8.2.2) (yo := x14) (r := .agg [cI (x14.1 0), cI (x14.1 1), cI (x14.1 2), cI (x14.1 3), cI (x14.1 4), cI (x14.1 5), cI (x14.1 6), cI (x14.1 7), cI (x14.1 8), cI (x14.1 9), cI (x14.1 10), cI (x14.1 11), cI (x14.1 12), cI (x14.1 13), cI (x14.1 14), cI (x14.1 15), cI (x14.1 16), cI (x14.1 17), cI (x14.1 18), cI (x14.1 19), cI (x14.1 20), cI (x14.1 21)]) hx14 rfl rfl rfl rfl (keyInt Tryd.underlying3) rfl rfl (fun h => by cases h) rfl rfl trivial rfl) ?_
  refine OkD.x (aI (((midx (msetL s8.2.2 x11.ID x14.1) x11.ID).getD 0 : Nat) : Int)) rfl trivial rfl ?_
  refine OkD.w (triEntryStore (ek := (kInt .i64)) (ev := (eArr 22 (dInt .i64))) (L := msetL s8.2.2 x11.ID x14.1) (k := x11.ID) (z := x12.Style) (midx_self s8.2.2 x11.ID x14.1) rfl rfl rfl rfl rfl rfl (keyInt Tryd.underlying3) (fun h => by cases h) (msetL_twice s8.2.2 x11.ID x14.1 x12.Style) trivial) ?_
  refine OkD.nil (by kernel_rfl) (Ok.region (OkOps.y (aI (IntKind.i64.wrap (s8.1 + 1))) (OkOps.y (aI (IntKind.i64.wrap (s8.1 + 1))) (OkOps.nil ?_))))
  exact ⟨(IntKind.i64.wrap (s8.1 + 1), msetL s8.2.1 x11.ID x11, msetL s8.2.2 x11.ID x12.Style), hr, (Conv.mk (tau []) ⟨⟨_, rfl, .inl rfl⟩, ⟨_, rfl, .inl rfl⟩, ⟨_, rfl, .inl rfl⟩, ⟨_, rfl, .inl rfl⟩, ⟨_, rfl, .inl rfl⟩, ⟨_, rfl, .inl rfl⟩, trivial⟩ ⟨rfl, rfl, rfl, rfl, rfl, rfl, rfl, rfl, rfl, trivial⟩ rfl rfl rfl rfl)⟩
  have hr := selF h10 hr
  refine Ok.exit ?_
  exact ⟨(s8.2.1, s8.2.2), hr, (Conv.mk (tau []) ⟨⟨_, rfl, .inl rfl⟩, ⟨_, rfl, .inl rfl⟩, trivial⟩ ⟨rfl, rfl, rfl, rfl, rfl, rfl, rfl, rfl, rfl, trivial⟩ rfl rfl rfl rfl)⟩
theorem widgetry_layout_Shown_c (t : Tree) (st : (List Styled)) {r : (List Int)} (hr : widgetry_layout_Shown t st = some r) : Con Tryd.prog 74 [.agg [cI t.Root, cI t.Next, .d (.sl (List.map Node.cs t.Nodes))], .c (.d (.sl (List.map Styled.cs st)))] [] (.s (.c (.d (.sl (List.map (eInt .i64) r))))) [] := by
  unfold widgetry_layout_Shown at hr
  refine Con.of_ok 25 0 [.tmp 4] [(0, .s (.agg [cI t.Root, cI t.Next, .d (.sl (List.map Node.cs t.Nodes))])), (1, .s (.c (.d (.sl (List.map Styled.cs st)))))] Tryd.func74 rfl rfl rfl rfl rfl rfl rfl rfl fun w g M ρ _ => (Ok.seq (Ok.region (OkOps.m 0 (triBox (j := 0) (cs := [cI t.Root, cI t.Next, .d (.sl (List.map Node.cs t.Nodes))]) rfl rfl rfl rfl rfl) (OkOps.y (.c (.d (.v (.slice none 0 0)))) (OkOps.nil (Ok.seq (Ok.seq (Ok.region (OkOps.y (.agg [cI t.Root, cI t.Next, .d (.sl (List.map Node.cs t.Nodes))]) ?_)))))))))
  obtain ⟨x1, hx1, hr⟩ := bind_some hr
  refine OkOps.q (triCl (tau []) (.s (aI x1)) [] (vw_Check_c _ hx1) rfl ⟨.inl rfl, trivial⟩ trivial entry51 trivial) (OkOps.y (aB (x1 != 0)) (OkOps.y (aB (x1 != 0)) (OkOps.q (triQG (x := .agg [cI t.Root, cI t.Next, .d (.sl (List.map Node.cs t.Nodes))]) rfl rfl trivial rfl) (OkOps.q (triQG (x := .c (.d (.sl (List.map Styled.cs st)))) rfl rfl trivial rfl) ?_))))
  obtain ⟨x2, hx2, hr⟩ := bind_some hr
  refine OkOps.q (triCallG (x := aB x2) (fun hg => widgetry_layout_complete_c _ _ (gO_t hx2 hg)) rfl rfl ⟨.inl rfl, .inl rfl, trivial⟩ ⟨fun h => h, ⟨fun h => h, trivial⟩⟩ entry95 rfl rfl rfl) (OkOps.q (triQG (x := aB (!x2)) rfl rfl ⟨fun h => h, trivial⟩ rfl) ?_)
  refine OkOps.q (triOr rfl rfl (fun h => by rw [h]; rfl) rfl) ?_
  refine OkOps.y (aB ((x1 != 0) || (!x2))) (OkOps.q (triQG (x := .c (.d (.sl (List.map Styled.cs st)))) rfl rfl trivial rfl) ?_)
  obtain ⟨x3, hx3, hr⟩ := bind_some hr
  refine OkOps.q (triCallG (x := aB x3) (fun hg => widgetry_layout_styled_c _ (gO_t hx3 hg)) rfl rfl ⟨.inl rfl, trivial⟩ ⟨fun h => h, trivial⟩ entry96 rfl rfl rfl) (OkOps.q (triQG (x := aB (!x3)) rfl rfl ⟨fun h => h, trivial⟩ rfl) ?_)
  refine OkOps.q (triOr rfl rfl (fun h => by rw [h]; rfl) rfl) ?_
  refine OkOps.nil ?_
  refine Ok.cond (b := ((x1 != 0) || (!x2)) || (!x3)) rfl (fun h4 => ?_) (fun h4 => ?_)
  have hr := selT h4 hr
  refine Ok.seq (Ok.region (OkOps.y (.c (.d (.v (.slice none 0 0)))) (OkOps.nil (Ok.ret ?_))))
  obtain rfl := Option.some.inj hr
  exact ⟨_, rfl, .inr rfl, trivial⟩
  have hr := selF h4 hr
  refine Ok.skip (Ok.seq (Ok.region (OkOps.y (.agg [cI t.Root, cI t.Next, .d (.sl (List.map Node.cs t.Nodes))]) (OkOps.y (.c (.d (.sl (List.map Styled.cs st)))) ?_))))
  obtain ⟨x5, hx5, hr⟩ := bind_some hr
  refine OkOps.m 0 (triCall (tau [(8, 1)]) (.s (.c (.loc 1 0))) [(1, .blk [cI x5.t.Root, cI x5.t.Next, .d (.sl (List.map Node.cs x5.t.Nodes)), .d (.sl (List.map Font.cs x5.fonts)), .d (.mp true (encM (kInt .i64) Node.cs x5.nodes)), .d (.mp true (encM (kInt .i64) (eArr 22 (dInt .i64)) x5.style)), .d (.mp false (encM (kInt .i64) (eJ 1) x5.kids)), .d (.sl (List.map (eInt .i64) x5.shown)), .d (.mp false (encM (kInt .i64) (eInt .i64) x5.least)), .d (.mp false (encM (kInt .i64) (eInt .i64) x5.most)), .d (.mp false (encM (kPair .i64) (eInt .i64) x5.tall)), .d (.mp false (encM (kPair .i64) (eInt .i64) x5.first))] 176)] (widgetry_layout_open_c _ _ _ hx5) rfl ⟨.inl rfl, .inl rfl, .inr rfl, trivial⟩ trivial entry97 trivial rfl rfl rfl rfl ⟨rfl, trivial⟩ rfl rfl rfl) (OkOps.y (.c (.loc 1 0)) (OkOps.y (.c (.loc 1 7)) (OkOps.y (.c (.d (.sl (List.map (eInt .i64) x5.shown)))) (OkOps.y (.c (.d (.sl (List.map (eInt .i64) x5.shown)))) (OkOps.nil (Ok.ret ?_))))))
  obtain rfl := Option.some.inj hr
  exact ⟨_, rfl, .inl rfl, trivial⟩
end Go.Proofs.YtfoigppmcelgfaaDoor
end
section
set_option maxRecDepth 100000
namespace Go.Proofs.YtfoigppmcelgfaaDoor
open Go Go.E2
theorem slices_Clone_Sl_int_int_c (s : (List Int)) {r : (List Int)} (hr : slices_Clone_Sl_int_int s = some r) : Con Tryd.prog 38 [.c (.d (.sl (List.map (eInt .i64) s)))] [] (.s (.c (.tl 2000 (List.map (eInt .i64) r)))) [(2000, .tail 1)] := by
  unfold slices_Clone_Sl_int_int at hr
  refine Con.of_ok 8 0 [.tmp 2] [(0, .s (.c (.d (.sl (List.map (eInt .i64) s)))))] Tryd.func38 rfl rfl rfl rfl rfl rfl rfl rfl fun w g M ρ _ => (Ok.seq (Ok.region (OkOps.q (triQ (x := .c (.d (.v (.slice none 0 0)))) rfl trivial rfl) (OkOps.nil (Ok.seq (Ok.seq (Ok.region (OkOps.q (triQ (x := .c (.d (.sl (List.map (eInt .i64) s)))) rfl trivial rfl) ?_))))))))
  refine OkOps.eqNil (e := 3) rfl (by kernel_rfl) trivial rfl (fun b hb => ?_)
  refine OkOps.nil ?_
  refine Ok.cond (b := b) rfl (fun h => ?_) (fun h => ?_)
  obtain rfl : s = [] := by simpa using hb h
  obtain rfl : r = [] := ((appO_spec hr).2 : _)
  refine Ok.seq (Ok.region (OkOps.q (triQ (x := .c (.d (.v (.slice none 0 0)))) rfl trivial rfl) (OkOps.nil (Ok.conv (Conv.nil 2 2000 1 0 rfl rfl) (Ok.ret ?_)))))
  exact ⟨_, rfl, .inl rfl, ⟨rfl, trivial⟩⟩
  refine Ok.skip (Ok.seq (Ok.region (OkOps.m 0 (triBST (sz := 1) (enc := (eInt .i64)) (j := 0) [] rfl rfl rfl rfl rfl rfl rfl rfl (fun _ => rfl) trivial rfl rfl) (OkOps.q (triQ (x := .c (.d (.sl (List.map (eInt .i64) s)))) rfl trivial rfl) (OkOps.m2 0 (triApp (enc := (eInt .i64)) (L := []) (X := s) (j := 0) (j' := 2000) hr rfl rfl rfl rfl rfl rfl (fun _ => rfl) (fun _ => rfl) (by decide) trivial rfl rfl) (OkOps.q (triQ (x := .c (.tl 2000 (List.map (eInt .i64) r))) rfl trivial rfl) (OkOps.nil (Ok.ret ?_))))))))
  exact ⟨_, rfl, .inl rfl, ⟨rfl, trivial⟩⟩
theorem vw_Find_c (t : Tree) (id : Int) {r : Node × Bool} (hr : vw_Find t id = some r) : Con Tryd.prog 33 [.agg [cI t.Root, cI t.Next, .d (.sl (List.map Node.cs t.Nodes))], aI id] [] (.tup [.agg [cI r.1.ID, cI r.1.Parent, cI r.1.Kind, cS r.1.Key, .d (.sl (List.map Attr.cs r.1.Attrs)), .d (.sl (List.map Action.cs r.1.Actions)), .d (.sl (List.map (eInt .i64) r.1.Kids))], aB r.2]) [] := by
  unfold vw_Find at hr
  refine Con.of_ok 36 0 [.cell 4 96, .tmp 5] [(0, .s (.agg [cI t.Root, cI t.Next, .d (.sl (List.map Node.cs t.Nodes))])), (1, .s (aI id))] Tryd.func33 rfl rfl rfl rfl rfl rfl rfl rfl fun w g M ρ _ => (Ok.seq (Ok.region (OkOps.m 0 (triBox (j := 0) (cs := [cI t.Root, cI t.Next, .d (.sl (List.map Node.cs t.Nodes))]) rfl rfl rfl rfl rfl) (OkOps.m 0 (triAlloc (j := 1) (cs := [cI 0, cI 0, cI 0, cS ByteArray.empty, .d (.v (.slice none 0 0)), .d (.v (.slice none 0 0)), .d (.v (.slice none 0 0))]) rfl rfl rfl rfl) (OkOps.y (aB false) (OkOps.nil ?_))))))
  obtain ⟨k2, hk2, hr⟩ := jn_some hr
  refine Ok.join (fun (s1 : Unit) => ⟨[(4, .s (.c (.loc 1 0)))], [(1, .blk [cI 0, cI 0, cI 0, cS ByteArray.empty, .d (.v (.slice none 0 0)), .d (.v (.slice none 0 0)), .d (.v (.slice none 0 0))] 96)], 0⟩) k2 r (fun s1 hr => ?_) ?_
  rw [hk2] at hr
  refine Ok.seq (Ok.region (OkOps.y (.agg [cI 0, cI 0, cI 0, cS ByteArray.empty, .d (.v (.slice none 0 0)), .d (.v (.slice none 0 0)), .d (.v (.slice none 0 0))]) (OkOps.w (triStore (cs' := [cI 0, cI 0, cI 0, cS ByteArray.empty, .d (.v (.slice none 0 0)), .d (.v (.slice none 0 0)), .d (.v (.slice none 0 0))]) rfl rfl rfl rfl rfl rfl rfl rfl rfl) (OkOps.y (aB false) (OkOps.nil (Ok.ret ?_))))))
  obtain rfl := Option.some.inj hr
  exact ⟨_, rfl, .inr rfl, trivial⟩
  clear hk2
  refine Ok.seq (Ok.region (OkOps.y (.c (.loc 0 2)) (OkOps.y (.c (.d (.sl (List.map Node.cs t.Nodes)))) (OkOps.q (triLen (enc := Node.cs) t.Nodes rfl rfl trivial rfl) (OkOps.y (aI 0) (OkOps.nil (Ok.block (Ok.loopK (fun (s3 : Int) => ⟨[(1, .s (aI id)), (4, .s (.c (.loc 1 0))), (9, .s (.c (.d (.sl (List.map Node.cs t.Nodes))))), (10, .s (aI (t.Nodes.length : Int))), (11, .s (aI s3))], [(1, .blk [cI 0, cI 0, cI 0, cS ByteArray.empty, .d (.v (.slice none 0 0)), .d (.v (.slice none 0 0)), .d (.v (.slice none 0 0))] 96)], 0⟩) hr (Conv.mk (tau []) ⟨⟨_, rfl, .inl rfl⟩, ⟨_, rfl, .inl rfl⟩, ⟨_, rfl, .inl rfl⟩, ⟨_, rfl, .inl rfl⟩, ⟨_, rfl, .inl rfl⟩, trivial⟩ ⟨rfl, trivial⟩ rfl rfl rfl rfl) ?_))))))))
  clear hr
  intro again4 s3 hr
  unfold vw_Find_L1 at hr
  refine Ok.seq (Ok.region (OkOps.y (aB (decide (s3 < (t.Nodes.length : Int)))) (OkOps.nil (Ok.seq ?_))))
  refine Ok.cond (b := decide (s3 < (t.Nodes.length : Int))) rfl (fun h5 => ?_) (fun h5 => ?_)
  have hr := selT h5 hr
  refine Ok.skip (Ok.seq (Ok.block (Ok.seq (Ok.region ?_))))
  obtain ⟨x6, hx6, hr⟩ := bind_some hr
  refine OkOps.q (triIdx (enc := Node.cs) (L := t.Nodes) (row := [dI x6.ID, dI x6.Parent, dI x6.Kind, dS x6.Key, .sl (List.map Attr.cs x6.Attrs), .sl (List.map Action.cs x6.Actions), .sl (List.map (eInt .i64) x6.Kids)]) hx6 rfl rfl rfl rfl (fun _ => rfl) trivial rfl) (OkOps.y (.agg [cI x6.ID, cI x6.Parent, cI x6.Kind, cS x6.Key, .d (.sl (List.map Attr.cs x6.Attrs)), .d (.sl (List.map Action.cs x6.Actions)), .d (.sl (List.map (eInt .i64) x6.Kids))]) (OkOps.m 0 (triAlloc (j := 2) (cs := [cI 0, cI 0, cI 0, cS ByteArray.empty, .d (.v (.slice none 0 0)), .d (.v (.slice none 0 0)), .d (.v (.slice none 0 0))]) rfl rfl rfl rfl) (OkOps.w (triStore (cs' := [cI x6.ID, cI x6.Parent, cI x6.Kind, cS x6.Key, .d (.sl (List.map Attr.cs x6.Attrs)), .d (.sl (List.map Action.cs x6.Actions)), .d (.sl (List.map (eInt .i64) x6.Kids))]) rfl rfl rfl rfl rfl rfl rfl rfl rfl) (OkOps.nil (Ok.seq (Ok.seq (Ok.region (OkOps.y (.c (.loc 2 0)) (OkOps.y (aI x6.ID) (OkOps.y (aI id) (OkOps.y (aB (x6.ID != id)) (OkOps.nil ?_))))))))))))
  refine Ok.cond (b := x6.ID != id) rfl (fun h7 => ?_) (fun h7 => ?_)
  have hr := selT h7 hr
  refine Ok.exit (Ok.region (OkOps.y (aI (IntKind.i64.wrap (s3 + 1))) (OkOps.y (aI (IntKind.i64.wrap (s3 + 1))) (OkOps.nil ?_))))
  exact ⟨IntKind.i64.wrap (s3 + 1), hr, (Conv.mk (tau []) ⟨⟨_, rfl, .inl rfl⟩, ⟨_, rfl, .inl rfl⟩, ⟨_, rfl, .inl rfl⟩, ⟨_, rfl, .inl rfl⟩, ⟨_, rfl, .inl rfl⟩, trivial⟩ ⟨rfl, trivial⟩ rfl rfl rfl rfl)⟩
  have hr := selF h7 hr
  refine Ok.skip (Ok.seq (Ok.region (OkOps.y (.c (.loc 2 4)) (OkOps.y (.c (.d (.sl (List.map Attr.cs x6.Attrs)))) (OkOps.y (.c (.loc 2 5)) (OkOps.y (.c (.d (.sl (List.map Action.cs x6.Actions)))) ?_))))))
  obtain ⟨x8, hx8, hr⟩ := bind_some hr
  refine OkOps.q (triCl (tau []) (.tup [.c (.d (.sl (List.map Attr.cs x8.1))), .c (.d (.sl (List.map Action.cs x8.2)))]) [] (vw_copied_c _ _ hx8) rfl ⟨.inl rfl, .inl rfl, trivial⟩ trivial entry65 trivial) (OkOps.q (triMv (v := .tup [.c (.d (.sl (List.map Attr.cs x8.1))), .c (.d (.sl (List.map Action.cs x8.2)))]) rfl rfl) (OkOps.y (.c (.d (.sl (List.map Attr.cs x8.1)))) (OkOps.y (.c (.d (.sl (List.map Action.cs x8.2)))) (OkOps.y (.c (.loc 2 4)) (OkOps.w (triStore (cs' := [cI x6.ID, cI x6.Parent, cI x6.Kind, cS x6.Key, .d (.sl (List.map Attr.cs x8.1)), .d (.sl (List.map Action.cs x6.Actions)), .d (.sl (List.map (eInt .i64) x6.Kids))]) rfl rfl rfl rfl rfl rfl rfl rfl rfl) (OkOps.y (.c (.loc 2 5)) (OkOps.w (triStore (cs' := [cI x6.ID, cI x6.Parent, cI x6.Kind, cS x6.Key, .d (.sl (List.map Attr.cs x8.1)), .d (.sl (List.map Action.cs x8.2)), .d (.sl (List.map (eInt .i64) x6.Kids))]) rfl rfl rfl rfl rfl rfl rfl rfl rfl) (OkOps.nil (Ok.seq (Ok.region (OkOps.y (.c (.loc 2 6)) (OkOps.y (.c (.d (.sl (List.map (eInt .i64) x6.Kids)))) ?_))))))))))))
  obtain ⟨x9, hx9, hr⟩ := bind_some hr
  refine OkOps.m 0 (triCall (tau [(2000, 3)]) (.s (.c (.tl 3 (List.map (eInt .i64) x9)))) [(3, .tail 1)] (slices_Clone_Sl_int_int_c _ hx9) rfl ⟨.inl rfl, trivial⟩ trivial entry38 trivial rfl rfl rfl rfl ⟨rfl, trivial⟩ rfl rfl rfl) (OkOps.y (.c (.loc 2 6)) (OkOps.w (triStore (cs' := [cI x6.ID, cI x6.Parent, cI x6.Kind, cS x6.Key, .d (.sl (List.map Attr.cs x8.1)), .d (.sl (List.map Action.cs x8.2)), .tl 3 (List.map (eInt .i64) x9)]) rfl rfl rfl rfl rfl rfl rfl rfl rfl) (OkOps.nil (Ok.seq (Ok.region (OkOps.y (.agg [cI x6.ID, cI x6.Parent, cI x6.Kind, cS x6.Key, .d (.sl (List.map Attr.cs x8.1)), .d (.sl (List.map Action.cs x8.2)), .tl 3 (List.map (eInt .i64) x9)]) (OkOps.w (triStore (cs' := [cI x6.ID, cI x6.Parent, cI x6.Kind, cS x6.Key, .d (.sl (List.map Attr.cs x8.1)), .d (.sl (List.map Action.cs x8.2)), .tl 3 (List.map (eInt .i64) x9)]) rfl rfl rfl rfl rfl rfl rfl rfl rfl) (OkOps.y (aB true) (OkOps.nil (Ok.ret ?_))))))))))
  obtain rfl := Option.some.inj hr
  exact ⟨_, rfl, .inr rfl, trivial⟩
  have hr := selF h5 hr
  refine Ok.exit ?_
  exact ⟨(), hr, (Conv.mk (tau []) ⟨⟨_, rfl, .inl rfl⟩, trivial⟩ ⟨rfl, trivial⟩ rfl rfl rfl rfl)⟩
theorem vw_Order_c (t : Tree) {r : (List Int)} (hr : vw_Order t = some r) : Con Tryd.prog 73 [.agg [cI t.Root, cI t.Next, .d (.sl (List.map Node.cs t.Nodes))]] [] (.s (.c (.d (.sl (List.map (eInt .i64) r))))) [] := by
  unfold vw_Order at hr
  refine Con.of_ok 16 0 [.tmp 2] [(0, .s (.agg [cI t.Root, cI t.Next, .d (.sl (List.map Node.cs t.Nodes))]))] Tryd.func73 rfl rfl rfl rfl rfl rfl rfl rfl fun w g M ρ _ => (Ok.seq (Ok.region (OkOps.m 0 (triBox (j := 0) (cs := [cI t.Root, cI t.Next, .d (.sl (List.map Node.cs t.Nodes))]) rfl rfl rfl rfl rfl) (OkOps.y (.c (.d (.v (.slice none 0 0)))) (OkOps.nil (Ok.seq (Ok.region (OkOps.y (.agg [cI t.Root, cI t.Next, .d (.sl (List.map Node.cs t.Nodes))]) ?_))))))))
  obtain ⟨x1, hx1, hr⟩ := bind_some hr
  refine OkOps.q (triCl (tau []) (.tup [.c (.d (.mp true (encM (kInt .i64) Node.cs x1.1))), aB x1.2]) [] (vw_valid_c _ hx1) rfl ⟨.inl rfl, trivial⟩ trivial entry93 trivial) (OkOps.q (triMv (v := .tup [.c (.d (.mp true (encM (kInt .i64) Node.cs x1.1))), aB x1.2]) rfl rfl) (OkOps.y (.c (.d (.mp true (encM (kInt .i64) Node.cs x1.1)))) (OkOps.y (aB x1.2) (OkOps.y (.c (.d (.mp true (encM (kInt .i64) Node.cs x1.1)))) (OkOps.y (aB x1.2) (OkOps.nil (Ok.seq (Ok.seq (Ok.region (OkOps.y (aB x1.2) (OkOps.y (aB (!x1.2)) (OkOps.nil ?_))))))))))))
  refine Ok.cond (b := !x1.2) rfl (fun h2 => ?_) (fun h2 => ?_)
  have hr := selT h2 hr
  refine Ok.seq (Ok.region (OkOps.y (.c (.d (.v (.slice none 0 0)))) (OkOps.nil (Ok.ret ?_))))
  obtain rfl := Option.some.inj hr
  exact ⟨_, rfl, .inr rfl, trivial⟩
  have hr := selF h2 hr
  refine Ok.skip (Ok.seq (Ok.region (OkOps.y (.c (.d (.mp true (encM (kInt .i64) Node.cs x1.1)))) (OkOps.y (.c (.loc 0 0)) (OkOps.y (aI t.Root) ?_)))))
  obtain ⟨x3, hx3, hr⟩ := bind_some hr
  refine OkOps.q (triCl (tau []) (.s (.c (.d (.sl (List.map (eInt .i64) x3))))) [] (vw_preorder_c _ _ _ hx3) rfl ⟨.inl rfl, .inl rfl, trivial⟩ trivial entry94 trivial) (OkOps.y (.c (.d (.sl (List.map (eInt .i64) x3)))) (OkOps.nil (Ok.ret ?_)))
  obtain rfl := Option.some.inj hr
  exact ⟨_, rfl, .inl rfl, trivial⟩
end Go.Proofs.YtfoigppmcelgfaaDoor
end
section
set_option maxRecDepth 100000
namespace Go.Proofs.YtfoigppmcelgfaaDoor
open Go Go.E2
theorem fo_look_c (t : Tree) (st : (List Styled)) {r : focus_sight} (hr : fo_look t st = some r) : Con Tryd.prog 46 [.agg [cI t.Root, cI t.Next, .d (.sl (List.map Node.cs t.Nodes))], .c (.d (.sl (List.map Styled.cs st)))] [] (.s (.agg [.d (.sl (List.map (eInt .i64) r.order)), .d (.mp true (encM (kInt .i64) Node.cs r.nodes)), .d (.mp false (encM (kInt .i64) eBool r.visible)), .d (.mp false (encM (kInt .i64) eBool r.disabled))])) [] := by
  unfold fo_look at hr
  refine Con.of_ok 99 0 [.cell 4 109] [(0, .s (.agg [cI t.Root, cI t.Next, .d (.sl (List.map Node.cs t.Nodes))])), (1, .s (.c (.d (.sl (List.map Styled.cs st)))))] Tryd.func46 rfl rfl rfl rfl rfl rfl rfl rfl fun w g M ρ _ => (Ok.seq (Ok.region (OkOps.m 0 (triBox (j := 0) (cs := [cI t.Root, cI t.Next, .d (.sl (List.map Node.cs t.Nodes))]) rfl rfl rfl rfl rfl) (OkOps.m 0 (triAlloc (j := 1) (cs := [.d (.v (.slice none 0 0)), .d (.v (.map none)), .d (.v (.map none)), .d (.v (.map none))]) rfl rfl rfl rfl) (OkOps.nil (Ok.seq (Ok.region (OkOps.y (.agg [cI t.Root, cI t.Next, .d (.sl (List.map Node.cs t.Nodes))]) ?_))))))))
  obtain ⟨x1, hx1, hr⟩ := bind_some hr
  refine OkOps.q (triCl (tau []) (.s (.c (.d (.sl (List.map (eInt .i64) x1))))) [] (vw_Order_c _ hx1) rfl ⟨.inl rfl, trivial⟩ trivial entry73 trivial) (OkOps.m 0 (triMkM (j := 2) true rfl rfl) (OkOps.m 0 (triMkM (j := 3) false rfl rfl) (OkOps.m 0 (triMkM (j := 4) false rfl rfl) (OkOps.q (triBuildF (x := .agg [.d (.sl (List.map (eInt .i64) x1)), .own 2, .own 3, .own 4]) rfl rfl trivial rfl) (OkOps.m 0 (triAlloc (j := 5) (cs := [.d (.v (.slice none 0 0)), .d (.v (.map none)), .d (.v (.map none)), .d (.v (.map none))]) rfl rfl rfl rfl) (OkOps.w (triStoreF (cs' := [.d (.sl (List.map (eInt .i64) x1)), .own 2, .own 3, .own 4]) rfl rfl rfl rfl rfl rfl rfl rfl) (OkOps.nil (Ok.seq (Ok.seq (Ok.region (OkOps.y (.c (.loc 5 0)) (OkOps.y (.c (.d (.sl (List.map (eInt .i64) x1)))) (OkOps.q (triLen (enc := (eInt .i64)) x1 rfl rfl trivial rfl) (OkOps.y (aB ((x1.length : Int) == 0)) (OkOps.nil ?_)))))))))))))))
  refine Ok.cond (b := (x1.length : Int) == 0) rfl (fun h2 => ?_) (fun h2 => ?_)
  have hr := selT h2 hr
  refine Ok.seq (Ok.region (OkOps.y (.agg [.d (.sl (List.map (eInt .i64) x1)), .own 2, .own 3, .own 4]) (OkOps.w (triStoreF (cs' := [.d (.sl (List.map (eInt .i64) x1)), .own 2, .own 3, .own 4]) rfl rfl rfl rfl rfl rfl rfl rfl) (OkOps.nil (Ok.conv (Conv.freezeM [(18, .s (.c (.d (.mp true (encM (kInt .i64) Node.cs ([] : (List (Int × Node)))))))), (21, .s (.agg [.d (.sl (List.map (eInt .i64) x1)), .d (.mp true (encM (kInt .i64) Node.cs ([] : (List (Int × Node))))), .own 3, .own 4])), (26, .s (.agg [.d (.sl (List.map (eInt .i64) x1)), .d (.mp true (encM (kInt .i64) Node.cs ([] : (List (Int × Node))))), .own 3, .own 4]))] [(1, .blk [.d (.sl (List.map (eInt .i64) x1)), .d (.mp true (encM (kInt .i64) Node.cs ([] : (List (Int × Node))))), .own 3, .own 4] 109), (5, .blk [.d (.sl (List.map (eInt .i64) x1)), .d (.mp true (encM (kInt .i64) Node.cs ([] : (List (Int × Node))))), .own 3, .own 4] 109)] 2 0 rfl ⟨⟨_, rfl, rfl⟩, ⟨_, rfl, rfl⟩, ⟨_, rfl, rfl⟩, trivial⟩ ⟨⟨_, _, rfl, rfl⟩, ⟨_, _, rfl, rfl⟩, trivial⟩) (Ok.conv (Conv.freezeM [(19, .s (.c (.d (.mp false (encM (kInt .i64) eBool ([] : (List (Int × Bool)))))))), (21, .s (.agg [.d (.sl (List.map (eInt .i64) x1)), .d (.mp true (encM (kInt .i64) Node.cs ([] : (List (Int × Node))))), .d (.mp false (encM (kInt .i64) eBool ([] : (List (Int × Bool))))), .own 4])), (26, .s (.agg [.d (.sl (List.map (eInt .i64) x1)), .d (.mp true (encM (kInt .i64) Node.cs ([] : (List (Int × Node))))), .d (.mp false (encM (kInt .i64) eBool ([] : (List (Int × Bool))))), .own 4]))] [(1, .blk [.d (.sl (List.map (eInt .i64) x1)), .d (.mp true (encM (kInt .i64) Node.cs ([] : (List (Int × Node))))), .d (.mp false (encM (kInt .i64) eBool ([] : (List (Int × Bool))))), .own 4] 109), (5, .blk [.d (.sl (List.map (eInt .i64) x1)), .d (.mp true (encM (kInt .i64) Node.cs ([] : (List (Int × Node))))), .d (.mp false (encM (kInt .i64) eBool ([] : (List (Int × Bool))))), .own 4] 109)] 3 0 rfl ⟨⟨_, rfl, rfl⟩, ⟨_, rfl, rfl⟩, ⟨_, rfl, rfl⟩, trivial⟩ ⟨⟨_, _, rfl, rfl⟩, ⟨_, _, rfl, rfl⟩, trivial⟩) (Ok.conv (Conv.freezeM [(20, .s (.c (.d (.mp false (encM (kInt .i64) eBool ([] : (List (Int × Bool)))))))), (21, .s (.agg [.d (.sl (List.map (eInt .i64) x1)), .d (.mp true (encM (kInt .i64) Node.cs ([] : (List (Int × Node))))), .d (.mp false (encM (kInt .i64) eBool ([] : (List (Int × Bool))))), .d (.mp false (encM (kInt .i64) eBool ([] : (List (Int × Bool)))))])), (26, .s (.agg [.d (.sl (List.map (eInt .i64) x1)), .d (.mp true (encM (kInt .i64) Node.cs ([] : (List (Int × Node))))), .d (.mp false (encM (kInt .i64) eBool ([] : (List (Int × Bool))))), .d (.mp false (encM (kInt .i64) eBool ([] : (List (Int × Bool)))))]))] [(1, .blk [.d (.sl (List.map (eInt .i64) x1)), .d (.mp true (encM (kInt .i64) Node.cs ([] : (List (Int × Node))))), .d (.mp false (encM (kInt .i64) eBool ([] : (List (Int × Bool))))), .d (.mp false (encM (kInt .i64) eBool ([] : (List (Int × Bool)))))] 109), (5, .blk [.d (.sl (List.map (eInt .i64) x1)), .d (.mp true (encM (kInt .i64) Node.cs ([] : (List (Int × Node))))), .d (.mp false (encM (kInt .i64) eBool ([] : (List (Int × Bool))))), .d (.mp false (encM (kInt .i64) eBool ([] : (List (Int × Bool)))))] 109)] 4 0 rfl ⟨⟨_, rfl, rfl⟩, ⟨_, rfl, rfl⟩, ⟨_, rfl, rfl⟩, trivial⟩ ⟨⟨_, _, rfl, rfl⟩, ⟨_, _, rfl, rfl⟩, trivial⟩) (Ok.ret ?_))))))))
  obtain rfl := Option.some.inj hr
  exact ⟨_, rfl, .inl rfl, trivial⟩
  have hr := selF h2 hr
  refine Ok.skip ?_
  obtain ⟨k4, hk4, hr⟩ := jn_some hr
  refine Ok.join (fun (s3 : (List (Int × Node))) => ⟨[(1, .s (.c (.d (.sl (List.map Styled.cs st))))), (2, .s (.c (.loc 0 0))), (4, .s (.c (.loc 1 0))), (5, .s (.c (.loc 5 0)))], [(0, .blk [cI t.Root, cI t.Next, .d (.sl (List.map Node.cs t.Nodes))] 46), (1, .blk [.d (.v (.slice none 0 0)), .d (.v (.map none)), .d (.v (.map none)), .d (.v (.map none))] 109), (2, .mp true (encM (kInt .i64) Node.cs s3)), (3, .mp false (encM (kInt .i64) eBool ([] : (List (Int × Bool))))), (4, .mp false (encM (kInt .i64) eBool ([] : (List (Int × Bool))))), (5, .blk [.d (.sl (List.map (eInt .i64) x1)), .own 2, .own 3, .own 4] 109)], 0⟩) k4 r (fun s3 hr => ?_) ?_
  rw [hk4] at hr
  refine Ok.seq (Ok.region (OkOps.m 0 (triMkM (j := 6) false rfl rfl) (OkOps.y (.c (.own 6)) (OkOps.nil ?_))))
  obtain ⟨k6, hk6, hr⟩ := jn_some hr
  refine Ok.join (fun (s5 : (List (Int × Bool))) => ⟨[(1, .s (.c (.d (.sl (List.map Styled.cs st))))), (4, .s (.c (.loc 1 0))), (5, .s (.c (.loc 5 0))), (8, .s (.c (.own 6)))], [(1, .blk [.d (.v (.slice none 0 0)), .d (.v (.map none)), .d (.v (.map none)), .d (.v (.map none))] 109), (2, .mp true (encM (kInt .i64) Node.cs s3)), (3, .mp false (encM (kInt .i64) eBool ([] : (List (Int × Bool))))), (4, .mp false (encM (kInt .i64) eBool ([] : (List (Int × Bool))))), (5, .blk [.d (.sl (List.map (eInt .i64) x1)), .own 2, .own 3, .own 4] 109), (6, .mp false (encM (kInt .i64) eBool s5))], 0⟩) k6 r (fun s5 hr => ?_) ?_
  rw [hk6] at hr
  obtain ⟨k8, hk8, hr⟩ := jn_some hr
  refine Ok.join (fun (s7 : (List (Int × Bool))) => ⟨[(4, .s (.c (.loc 1 0))), (5, .s (.c (.loc 5 0)))], [(1, .blk [.d (.v (.slice none 0 0)), .d (.v (.map none)), .d (.v (.map none)), .d (.v (.map none))] 109), (2, .mp true (encM (kInt .i64) Node.cs s3)), (3, .mp false (encM (kInt .i64) eBool s7)), (4, .mp false (encM (kInt .i64) eBool ([] : (List (Int × Bool))))), (5, .blk [.d (.sl (List.map (eInt .i64) x1)), .own 2, .own 3, .own 4] 109)], 0⟩) k8 r (fun s7 hr => ?_) ?_
  rw [hk8] at hr
  obtain ⟨k10, hk10, hr⟩ := jn_some hr
  refine Ok.join (fun (s9 : (List (Int × Bool))) => ⟨[(4, .s (.c (.loc 1 0))), (5, .s (.c (.loc 5 0)))], [(1, .blk [.d (.v (.slice none 0 0)), .d (.v (.map none)), .d (.v (.map none)), .d (.v (.map none))] 109), (2, .mp true (encM (kInt .i64) Node.cs s3)), (3, .mp false (encM (kInt .i64) eBool s7)), (4, .mp false (encM (kInt .i64) eBool s9)), (5, .blk [.d (.sl (List.map (eInt .i64) x1)), .own 2, .own 3, .own 4] 109)], 0⟩) k10 r (fun s9 hr => ?_) ?_
  rw [hk10] at hr
  refine Ok.seq (Ok.region (OkOps.y (.agg [.d (.sl (List.map (eInt .i64) x1)), .own 2, .own 3, .own 4]) (OkOps.w (triStoreF (cs' := [.d (.sl (List.map (eInt .i64) x1)), .own 2, .own 3, .own 4]) rfl rfl rfl rfl rfl rfl rfl rfl) (OkOps.nil (Ok.conv (Conv.freezeM [(98, .s (.agg [.d (.sl (List.map (eInt .i64) x1)), .d (.mp true (encM (kInt .i64) Node.cs s3)), .own 3, .own 4]))] [(1, .blk [.d (.sl (List.map (eInt .i64) x1)), .d (.mp true (encM (kInt .i64) Node.cs s3)), .own 3, .own 4] 109), (5, .blk [.d (.sl (List.map (eInt .i64) x1)), .d (.mp true (encM (kInt .i64) Node.cs s3)), .own 3, .own 4] 109)] 2 0 rfl ⟨⟨_, rfl, rfl⟩, trivial⟩ ⟨⟨_, _, rfl, rfl⟩, ⟨_, _, rfl, rfl⟩, trivial⟩) (Ok.conv (Conv.freezeM [(98, .s (.agg [.d (.sl (List.map (eInt .i64) x1)), .d (.mp true (encM (kInt .i64) Node.cs s3)), .d (.mp false (encM (kInt .i64) eBool s7)), .own 4]))] [(1, .blk [.d (.sl (List.map (eInt .i64) x1)), .d (.mp true (encM (kInt .i64) Node.cs s3)), .d (.mp false (encM (kInt .i64) eBool s7)), .own 4] 109), (5, .blk [.d (.sl (List.map (eInt .i64) x1)), .d (.mp true (encM (kInt .i64) Node.cs s3)), .d (.mp false (encM (kInt .i64) eBool s7)), .own 4] 109)] 3 0 rfl ⟨⟨_, rfl, rfl⟩, trivial⟩ ⟨⟨_, _, rfl, rfl⟩, ⟨_, _, rfl, rfl⟩, trivial⟩) (Ok.conv (Conv.freezeM [(98, .s (.agg [.d (.sl (List.map (eInt .i64) x1)), .d (.mp true (encM (kInt .i64) Node.cs s3)), .d (.mp false (encM (kInt .i64) eBool s7)), .d (.mp false (encM (kInt .i64) eBool s9))]))] [(1, .blk [.d (.sl (List.map (eInt .i64) x1)), .d (.mp true (encM (kInt .i64) Node.cs s3)), .d (.mp false (encM (kInt .i64) eBool s7)), .d (.mp false (encM (kInt .i64) eBool s9))] 109), (5, .blk [.d (.sl (List.map (eInt .i64) x1)), .d (.mp true (encM (kInt .i64) Node.cs s3)), .d (.mp false (encM (kInt .i64) eBool s7)), .d (.mp false (encM (kInt .i64) eBool s9))] 109)] 4 0 rfl ⟨⟨_, rfl, rfl⟩, trivial⟩ ⟨⟨_, _, rfl, rfl⟩, ⟨_, _, rfl, rfl⟩, trivial⟩) (Ok.ret ?_))))))))
  obtain rfl := Option.some.inj hr
  exact ⟨_, rfl, .inl rfl, trivial⟩
  clear hk10
  refine Ok.seq (Ok.region (OkOps.y (.c (.loc 5 0)) (OkOps.y (.c (.d (.sl (List.map (eInt .i64) x1)))) (OkOps.q (triLen (enc := (eInt .i64)) x1 rfl rfl trivial rfl) (OkOps.y (aI 0) (OkOps.nil (Ok.block (Ok.loopK (fun (s11 : Int × (List (Int × Bool))) => ⟨[(4, .s (.c (.loc 1 0))), (5, .s (.c (.loc 5 0))), (74, .s (.c (.d (.sl (List.map (eInt .i64) x1))))), (75, .s (aI (x1.length : Int))), (76, .s (aI s11.1))], [(1, .blk [.d (.v (.slice none 0 0)), .d (.v (.map none)), .d (.v (.map none)), .d (.v (.map none))] 109), (2, .mp true (encM (kInt .i64) Node.cs s3)), (3, .mp false (encM (kInt .i64) eBool s7)), (4, .mp false (encM (kInt .i64) eBool s11.2)), (5, .blk [.d (.sl (List.map (eInt .i64) x1)), .own 2, .own 3, .own 4] 109)], 0⟩) hr (Conv.mk (tau []) ⟨⟨_, rfl, .inl rfl⟩, ⟨_, rfl, .inl rfl⟩, ⟨_, rfl, .inl rfl⟩, ⟨_, rfl, .inl rfl⟩, ⟨_, rfl, .inl rfl⟩, trivial⟩ ⟨rfl, rfl, rfl, rfl, rfl, trivial⟩ rfl rfl rfl rfl) ?_))))))))
  clear hr
  intro again12 s11 hr
  unfold fo_look_L1 at hr
  refine Ok.seq (Ok.region (OkOps.y (aB (decide (s11.1 < (x1.length : Int)))) (OkOps.nil (Ok.seq ?_))))
  refine Ok.cond (b := decide (s11.1 < (x1.length : Int))) rfl (fun h13 => ?_) (fun h13 => ?_)
  have hr := selT h13 hr
  refine Ok.skip (Ok.seq (Ok.block (Ok.seq (Ok.region ?_))))
  obtain ⟨x14, hx14, hr⟩ := bind_some hr
  refine OkOps.q (triIdx (enc := (eInt .i64)) (L := x1) (row := [dI x14]) hx14 rfl rfl rfl rfl (fun _ => rfl) trivial rfl) (OkOps.y (aI x14) (OkOps.y (aI x14) (OkOps.nil (Ok.seq (Ok.region (OkOps.y (.c (.loc 5 1)) (OkOps.y (.c (.own 2)) (OkOps.y (aI x14) ?_))))))))
  obtain ⟨x15, hx15, hr⟩ := bind_some hr
  refine OkOps.q (triLook (agg := true) (ek := (kInt .i64)) (ev := Node.cs) (L := s3) (r := .agg [cI x15.1.ID, cI x15.1.Parent, cI x15.1.Kind, cS x15.1.Key, .d (.sl (List.map Attr.cs x15.1.Attrs)), .d (.sl (List.map Action.cs x15.1.Actions)), .d (.sl (List.map (eInt .i64) x15.1.Kids))]) hx15 rfl rfl rfl (keyInt Tryd.underlying3) rfl rfl (fun h => by cases h) rfl trivial rfl) ?_
  refine OkOps.m 0 (triAlloc (j := 7) (cs := [cI 0, cI 0, cI 0, cS ByteArray.empty, .d (.v (.slice none 0 0)), .d (.v (.slice none 0 0)), .d (.v (.slice none 0 0))]) rfl rfl rfl rfl) (OkOps.w (triStore (cs' := [cI x15.1.ID, cI x15.1.Parent, cI x15.1.Kind, cS x15.1.Key, .d (.sl (List.map Attr.cs x15.1.Attrs)), .d (.sl (List.map Action.cs x15.1.Actions)), .d (.sl (List.map (eInt .i64) x15.1.Kids))]) rfl rfl rfl rfl rfl rfl rfl rfl rfl) (OkOps.nil (Ok.regionD (by kernel_rfl) (OkD.x (.c (.loc 5 3)) rfl trivial rfl (OkD.x (.c (.own 4)) rfl trivial rfl (OkD.x (aI x14) rfl trivial rfl (OkD.x (.c (.loc 5 3)) rfl trivial rfl (OkD.x (.c (.own 4)) rfl trivial rfl (OkD.x (.c (.loc 7 1)) rfl trivial rfl (OkD.x (aI x15.1.Parent) rfl trivial rfl ?_))))))))))
  obtain ⟨x16, hx16, hr⟩ := bind_some hr
  refine OkD.q (triLook (agg := false) (ek := (kInt .i64)) (ev := eBool) (L := s11.2) (r := aB x16.1) hx16 rfl rfl rfl (keyInt Tryd.underlying3) rfl rfl (fun _ _ => rfl) rfl trivial rfl) (OkD.x (aB x16.1) rfl trivial rfl (OkD.q (triQG (x := .c (.loc 7 4)) rfl rfl trivial rfl) (OkD.q (triQG (x := .c (.d (.sl (List.map Attr.cs x15.1.Attrs)))) rfl rfl ⟨fun h => h, trivial⟩ rfl) ?_)))
  obtain ⟨x17, hx17, hr⟩ := bind_some hr
  refine OkD.q (triCallG (x := aB x17) (fun hg => vw_Flag_c _ _ (gO_t hx17 hg)) rfl rfl ⟨.inl rfl, .inl rfl, trivial⟩ ⟨fun h => h, trivial⟩ entry62 rfl rfl rfl) ?_
  refine OkD.q (triOr rfl rfl (fun h => by rw [h]; rfl) rfl) ?_
  refine OkD.w (triMapUp (ek := (kInt .i64)) (ev := eBool) (L := s11.2) (z := x16.1 || x17) rfl rfl rfl rfl rfl rfl (keyInt Tryd.underlying3) (fun _ _ => rfl) rfl trivial) (OkD.nil (by kernel_rfl) (Ok.region (OkOps.y (aI (IntKind.i64.wrap (s11.1 + 1))) (OkOps.y (aI (IntKind.i64.wrap (s11.1 + 1))) (OkOps.nil ?_)))))
  exact ⟨(IntKind.i64.wrap (s11.1 + 1), msetL s11.2 x14 (x16.1 || x17)), hr, (Conv.mk (tau []) ⟨⟨_, rfl, .inl rfl⟩, ⟨_, rfl, .inl rfl⟩, ⟨_, rfl, .inl rfl⟩, ⟨_, rfl, .inl rfl⟩, ⟨_, rfl, .inl rfl⟩, trivial⟩ ⟨rfl, rfl, rfl, rfl, rfl, trivial⟩ rfl rfl rfl rfl)⟩
  have hr := selF h13 hr
  refine Ok.exit ?_
  exact ⟨s11.2, hr, (Conv.mk (tau []) ⟨⟨_, rfl, .inl rfl⟩, ⟨_, rfl, .inl rfl⟩, trivial⟩ ⟨rfl, rfl, rfl, rfl, rfl, trivial⟩ rfl rfl rfl rfl)⟩
  clear hk8
  refine Ok.seq (Ok.region (OkOps.y (.c (.d (.sl (List.map Styled.cs st)))) (OkOps.q (triLen (enc := Styled.cs) st rfl rfl trivial rfl) (OkOps.y (aI 0) (OkOps.nil (Ok.block (Ok.loopK (fun (s18 : Int × (List (Int × Bool))) => ⟨[(4, .s (.c (.loc 1 0))), (5, .s (.c (.loc 5 0))), (8, .s (.c (.own 6))), (52, .s (.c (.d (.sl (List.map Styled.cs st))))), (53, .s (aI (st.length : Int))), (54, .s (aI s18.1))], [(1, .blk [.d (.v (.slice none 0 0)), .d (.v (.map none)), .d (.v (.map none)), .d (.v (.map none))] 109), (2, .mp true (encM (kInt .i64) Node.cs s3)), (3, .mp false (encM (kInt .i64) eBool s18.2)), (4, .mp false (encM (kInt .i64) eBool ([] : (List (Int × Bool))))), (5, .blk [.d (.sl (List.map (eInt .i64) x1)), .own 2, .own 3, .own 4] 109), (6, .mp false (encM (kInt .i64) eBool s5))], 0⟩) hr (Conv.mk (tau []) ⟨⟨_, rfl, .inl rfl⟩, ⟨_, rfl, .inl rfl⟩, ⟨_, rfl, .inl rfl⟩, ⟨_, rfl, .inl rfl⟩, ⟨_, rfl, .inl rfl⟩, ⟨_, rfl, .inl rfl⟩, trivial⟩ ⟨rfl, rfl, rfl, rfl, rfl, rfl, trivial⟩ rfl rfl rfl rfl) ?_)))))))
  clear hr
  intro again19 s18 hr
  unfold fo_look_L2 at hr
  refine Ok.seq (Ok.region (OkOps.y (aB (decide (s18.1 < (st.length : Int)))) (OkOps.nil (Ok.seq ?_))))
  refine Ok.cond (b := decide (s18.1 < (st.length : Int))) rfl (fun h20 => ?_) (fun h20 => ?_)
  have hr := selT h20 hr
  refine Ok.skip (Ok.seq (Ok.block (Ok.seq (Ok.region ?_))))
  obtain ⟨x21, hx21, hr⟩ := bind_some hr
  refine OkOps.q (triIdx (enc := Styled.cs) (L := st) (row := [dI x21.ID, dI (x21.Style 0), dI (x21.Style 1), dI (x21.Style 2), dI (x21.Style 3), dI (x21.Style 4), dI (x21.Style 5), dI (x21.Style 6), dI (x21.Style 7), dI (x21.Style 8), dI (x21.Style 9), dI (x21.Style 10), dI (x21.Style 11), dI (x21.Style 12), dI (x21.Style 13), dI (x21.Style 14), dI (x21.Style 15), dI (x21.Style 16), dI (x21.Style 17), dI (x21.Style 18), dI (x21.Style 19), dI (x21.Style 20), dI (x21.Style 21)]) hx21 rfl rfl rfl rfl (fun _ => rfl) trivial rfl) (OkOps.y (.agg [cI x21.ID, cI (x21.Style 0), cI (x21.Style 1), cI (x21.Style 2), cI (x21.Style 3), cI (x21.Style 4), cI (x21.Style 5), cI (x21.Style 6), cI (x21.Style 7), cI (x21.Style 8), cI (x21.Style 9), cI (x21.Style 10), cI (x21.Style 11), cI (x21.Style 12), cI (x21.Style 13), cI (x21.Style 14), cI (x21.Style 15), cI (x21.Style 16), cI (x21.Style 17), cI (x21.Style 18), cI (x21.Style 19), cI (x21.Style 20), cI (x21.Style 21)]) (OkOps.m 0 (triAlloc (j := 8) (cs := [cI 0, cI 0, cI 0, cI 0, cI 0, cI 0, cI 0, cI 0, cI 0, cI 0, cI 0, cI 0, cI 0, cI 0, cI 0, cI 0, cI 0, cI 0, cI 0, cI 0, cI 0, cI 0, cI 0]) rfl rfl rfl rfl) (OkOps.w (triStore (cs' := [cI x21.ID, cI (x21.Style 0), cI (x21.Style 1), cI (x21.Style 2), cI (x21.Style 3), cI (x21.Style 4), cI (x21.Style 5), cI (x21.Style 6), cI (x21.Style 7), cI (x21.Style 8), cI (x21.Style 9), cI (x21.Style 10), cI (x21.Style 11), cI (x21.Style 12), cI (x21.Style 13), cI (x21.Style 14), cI (x21.Style 15), cI (x21.Style 16), cI (x21.Style 17), cI (x21.Style 18), cI (x21.Style 19), cI (x21.Style 20), cI (x21.Style 21)]) rfl rfl rfl rfl rfl rfl rfl rfl (by kernel_rfl)) (OkOps.nil (Ok.region (OkOps.y (.c (.loc 5 2)) (OkOps.y (.c (.own 3)) (OkOps.y (.c (.loc 8 0)) (OkOps.y (aI x21.ID) (OkOps.y (.c (.own 6)) (OkOps.y (.c (.loc 8 0)) (OkOps.y (aI x21.ID) ?_))))))))))))
  obtain ⟨x22, hx22, hr⟩ := bind_some hr
  refine OkOps.q (triLook (agg := false) (ek := (kInt .i64)) (ev := eBool) (L := s5) (r := aB x22.1) hx22 rfl rfl rfl (keyInt Tryd.underlying3) rfl rfl (fun _ _ => rfl) rfl trivial rfl) (OkOps.y (aB x22.1) (OkOps.q (triQG (x := .c (.loc 8 1)) rfl rfl trivial rfl) (OkOps.q (triQG (x := .c (.loc 8 22)) rfl rfl ⟨fun h => h, trivial⟩ rfl) (OkOps.q (triQG (x := aI (x21.Style 21)) rfl rfl ⟨fun h => h, trivial⟩ rfl) (OkOps.q (triQG (x := aB ((x21.Style 21) == 0)) rfl rfl ⟨fun h => h, trivial⟩ rfl) (OkOps.q (triAnd rfl rfl (fun h => h) rfl) (OkOps.w (triMapUp (ek := (kInt .i64)) (ev := eBool) (L := s18.2) (z := x22.1 && ((x21.Style 21) == 0)) rfl rfl rfl rfl rfl rfl (keyInt Tryd.underlying3) (fun _ _ => rfl) rfl trivial) (OkOps.nil (Ok.region (OkOps.y (aI (IntKind.i64.wrap (s18.1 + 1))) (OkOps.y (aI (IntKind.i64.wrap (s18.1 + 1))) (OkOps.nil ?_))))))))))))
  exact ⟨(IntKind.i64.wrap (s18.1 + 1), msetL s18.2 x21.ID (x22.1 && ((x21.Style 21) == 0))), hr, (Conv.mk (tau []) ⟨⟨_, rfl, .inl rfl⟩, ⟨_, rfl, .inl rfl⟩, ⟨_, rfl, .inl rfl⟩, ⟨_, rfl, .inl rfl⟩, ⟨_, rfl, .inl rfl⟩, ⟨_, rfl, .inl rfl⟩, trivial⟩ ⟨rfl, rfl, rfl, rfl, rfl, rfl, trivial⟩ rfl rfl rfl rfl)⟩
  have hr := selF h20 hr
  refine Ok.exit ?_
  exact ⟨s18.2, hr, (Conv.mk (tau []) ⟨⟨_, rfl, .inl rfl⟩, ⟨_, rfl, .inl rfl⟩, trivial⟩ ⟨rfl, rfl, rfl, rfl, rfl, trivial⟩ rfl rfl rfl rfl)⟩
  clear hk6
  refine Ok.seq (Ok.region (OkOps.y (.agg [cI t.Root, cI t.Next, .d (.sl (List.map Node.cs t.Nodes))]) (OkOps.y (.c (.d (.sl (List.map Styled.cs st)))) ?_)))
  obtain ⟨x23, hx23, hr⟩ := bind_some hr
  refine OkOps.q (triCl (tau []) (.s (.c (.d (.sl (List.map (eInt .i64) x23))))) [] (widgetry_layout_Shown_c _ _ hx23) rfl ⟨.inl rfl, .inl rfl, trivial⟩ trivial entry74 trivial) (OkOps.q (triLen (enc := (eInt .i64)) x23 rfl rfl trivial rfl) (OkOps.y (aI 0) (OkOps.nil (Ok.block (Ok.loopK (fun (s24 : Int × (List (Int × Bool))) => ⟨[(1, .s (.c (.d (.sl (List.map Styled.cs st))))), (4, .s (.c (.loc 1 0))), (5, .s (.c (.loc 5 0))), (8, .s (.c (.own 6))), (43, .s (.c (.d (.sl (List.map (eInt .i64) x23))))), (44, .s (aI (x23.length : Int))), (45, .s (aI s24.1))], [(1, .blk [.d (.v (.slice none 0 0)), .d (.v (.map none)), .d (.v (.map none)), .d (.v (.map none))] 109), (2, .mp true (encM (kInt .i64) Node.cs s3)), (3, .mp false (encM (kInt .i64) eBool ([] : (List (Int × Bool))))), (4, .mp false (encM (kInt .i64) eBool ([] : (List (Int × Bool))))), (5, .blk [.d (.sl (List.map (eInt .i64) x1)), .own 2, .own 3, .own 4] 109), (6, .mp false (encM (kInt .i64) eBool s24.2))], 0⟩) hr (Conv.mk (tau []) ⟨⟨_, rfl, .inl rfl⟩, ⟨_, rfl, .inl rfl⟩, ⟨_, rfl, .inl rfl⟩, ⟨_, rfl, .inl rfl⟩, ⟨_, rfl, .inl rfl⟩, ⟨_, rfl, .inl rfl⟩, ⟨_, rfl, .inl rfl⟩, trivial⟩ ⟨rfl, rfl, rfl, rfl, rfl, rfl, trivial⟩ rfl rfl rfl rfl) ?_)))))
  clear hr
  intro again25 s24 hr
  unfold fo_look_L3 at hr
  refine Ok.seq (Ok.region (OkOps.y (aB (decide (s24.1 < (x23.length : Int)))) (OkOps.nil (Ok.seq ?_))))
  refine Ok.cond (b := decide (s24.1 < (x23.length : Int))) rfl (fun h26 => ?_) (fun h26 => ?_)
  have hr := selT h26 hr
  refine Ok.skip (Ok.seq (Ok.block (Ok.seq (Ok.region ?_))))
  obtain ⟨x27, hx27, hr⟩ := bind_some hr
  refine OkOps.q (triIdx (enc := (eInt .i64)) (L := x23) (row := [dI x27]) hx27 rfl rfl rfl rfl (fun _ => rfl) trivial rfl) (OkOps.y (aI x27) (OkOps.y (aI x27) (OkOps.nil (Ok.region (OkOps.y (.c (.own 6)) (OkOps.y (aI x27) (OkOps.w (triMapUp (ek := (kInt .i64)) (ev := eBool) (L := s24.2) (z := true) rfl rfl rfl rfl rfl rfl (keyInt Tryd.underlying3) (fun _ _ => rfl) rfl trivial) (OkOps.nil (Ok.region (OkOps.y (aI (IntKind.i64.wrap (s24.1 + 1))) (OkOps.y (aI (IntKind.i64.wrap (s24.1 + 1))) (OkOps.nil ?_))))))))))))
  exact ⟨(IntKind.i64.wrap (s24.1 + 1), msetL s24.2 x27 true), hr, (Conv.mk (tau []) ⟨⟨_, rfl, .inl rfl⟩, ⟨_, rfl, .inl rfl⟩, ⟨_, rfl, .inl rfl⟩, ⟨_, rfl, .inl rfl⟩, ⟨_, rfl, .inl rfl⟩, ⟨_, rfl, .inl rfl⟩, ⟨_, rfl, .inl rfl⟩, trivial⟩ ⟨rfl, rfl, rfl, rfl, rfl, rfl, trivial⟩ rfl rfl rfl rfl)⟩
  have hr := selF h26 hr
  refine Ok.exit ?_
  exact ⟨s24.2, hr, (Conv.mk (tau []) ⟨⟨_, rfl, .inl rfl⟩, ⟨_, rfl, .inl rfl⟩, ⟨_, rfl, .inl rfl⟩, ⟨_, rfl, .inl rfl⟩, trivial⟩ ⟨rfl, rfl, rfl, rfl, rfl, rfl, trivial⟩ rfl rfl rfl rfl)⟩
  clear hk4
  refine Ok.seq (Ok.region (OkOps.y (.c (.loc 0 2)) (OkOps.y (.c (.d (.sl (List.map Node.cs t.Nodes)))) (OkOps.q (triLen (enc := Node.cs) t.Nodes rfl rfl trivial rfl) (OkOps.y (aI 0) (OkOps.nil (Ok.block (Ok.loopK (fun (s28 : Int × (List (Int × Node))) => ⟨[(1, .s (.c (.d (.sl (List.map Styled.cs st))))), (2, .s (.c (.loc 0 0))), (4, .s (.c (.loc 1 0))), (5, .s (.c (.loc 5 0))), (28, .s (.c (.d (.sl (List.map Node.cs t.Nodes))))), (29, .s (aI (t.Nodes.length : Int))), (30, .s (aI s28.1))], [(0, .blk [cI t.Root, cI t.Next, .d (.sl (List.map Node.cs t.Nodes))] 46), (1, .blk [.d (.v (.slice none 0 0)), .d (.v (.map none)), .d (.v (.map none)), .d (.v (.map none))] 109), (2, .mp true (encM (kInt .i64) Node.cs s28.2)), (3, .mp false (encM (kInt .i64) eBool ([] : (List (Int × Bool))))), (4, .mp false (encM (kInt .i64) eBool ([] : (List (Int × Bool))))), (5, .blk [.d (.sl (List.map (eInt .i64) x1)), .own 2, .own 3, .own 4] 109)], 0⟩) hr (Conv.mk (tau []) ⟨⟨_, rfl, .inl rfl⟩, ⟨_, rfl, .inl rfl⟩, ⟨_, rfl, .inl rfl⟩, ⟨_, rfl, .inl rfl⟩, ⟨_, rfl, .inl rfl⟩, ⟨_, rfl, .inl rfl⟩, ⟨_, rfl, .inl rfl⟩, trivial⟩ ⟨rfl, rfl, rfl, rfl, rfl, rfl, trivial⟩ rfl rfl rfl rfl) ?_))))))))
  clear hr
  intro again29 s28 hr
  unfold fo_look_L4 at hr
  refine Ok.seq (Ok.region (OkOps.y (aB (decide (s28.1 < (t.Nodes.length : Int)))) (OkOps.nil (Ok.seq ?_))))
  refine Ok.cond (b := decide (s28.1 < (t.Nodes.length : Int))) rfl (fun h30 => ?_) (fun h30 => ?_)
  have hr := selT h30 hr
  refine Ok.skip (Ok.seq (Ok.block (Ok.seq (Ok.region ?_))))
  obtain ⟨x31, hx31, hr⟩ := bind_some hr
  refine OkOps.q (triIdx (enc := Node.cs) (L := t.Nodes) (row := [dI x31.ID, dI x31.Parent, dI x31.Kind, dS x31.Key, .sl (List.map Attr.cs x31.Attrs), .sl (List.map Action.cs x31.Actions), .sl (List.map (eInt .i64) x31.Kids)]) hx31 rfl rfl rfl rfl (fun _ => rfl) trivial rfl) (OkOps.y (.agg [cI x31.ID, cI x31.Parent, cI x31.Kind, cS x31.Key, .d (.sl (List.map Attr.cs x31.Attrs)), .d (.sl (List.map Action.cs x31.Actions)), .d (.sl (List.map (eInt .i64) x31.Kids))]) (OkOps.m 0 (triAlloc (j := 9) (cs := [cI 0, cI 0, cI 0, cS ByteArray.empty, .d (.v (.slice none 0 0)), .d (.v (.slice none 0 0)), .d (.v (.slice none 0 0))]) rfl rfl rfl rfl) (OkOps.w (triStore (cs' := [cI x31.ID, cI x31.Parent, cI x31.Kind, cS x31.Key, .d (.sl (List.map Attr.cs x31.Attrs)), .d (.sl (List.map Action.cs x31.Actions)), .d (.sl (List.map (eInt .i64) x31.Kids))]) rfl rfl rfl rfl rfl rfl rfl rfl rfl) (OkOps.nil (Ok.region (OkOps.y (.c (.loc 5 1)) (OkOps.y (.c (.own 2)) (OkOps.y (.c (.loc 9 0)) (OkOps.y (aI x31.ID) (OkOps.y (.agg [cI x31.ID, cI x31.Parent, cI x31.Kind, cS x31.Key, .d (.sl (List.map Attr.cs x31.Attrs)), .d (.sl (List.map Action.cs x31.Actions)), .d (.sl (List.map (eInt .i64) x31.Kids))]) ?_))))))))))
  refine OkOps.w (triMapUp (ek := (kInt .i64)) (ev := Node.cs) (L := s28.2) (z := x31) rfl rfl rfl rfl rfl rfl (keyInt Tryd.underlying3) (fun h => by cases h) rfl trivial) ?_
  refine OkOps.nil (Ok.region (OkOps.y (aI (IntKind.i64.wrap (s28.1 + 1))) (OkOps.y (aI (IntKind.i64.wrap (s28.1 + 1))) (OkOps.nil ?_))))
  exact ⟨(IntKind.i64.wrap (s28.1 + 1), msetL s28.2 x31.ID x31), hr, (Conv.mk (tau []) ⟨⟨_, rfl, .inl rfl⟩, ⟨_, rfl, .inl rfl⟩, ⟨_, rfl, .inl rfl⟩, ⟨_, rfl, .inl rfl⟩, ⟨_, rfl, .inl rfl⟩, ⟨_, rfl, .inl rfl⟩, ⟨_, rfl, .inl rfl⟩, trivial⟩ ⟨rfl, rfl, rfl, rfl, rfl, rfl, trivial⟩ rfl rfl rfl rfl)⟩
  have hr := selF h30 hr
  refine Ok.exit ?_
  exact ⟨s28.2, hr, (Conv.mk (tau []) ⟨⟨_, rfl, .inl rfl⟩, ⟨_, rfl, .inl rfl⟩, ⟨_, rfl, .inl rfl⟩, ⟨_, rfl, .inl rfl⟩, trivial⟩ ⟨rfl, rfl, rfl, rfl, rfl, rfl, trivial⟩ rfl rfl rfl rfl)⟩
theorem slices_Backward_Sl_int_int_c (L : (List Int)) : Con Tryd.prog 72 [.c (.d (.sl (List.map (eInt .i64) L)))] [] (.s (.c (.fn 92 [(0, 0)]))) [(0, .blk [.d (.sl (List.map (eInt .i64) L))] 22)] := by
  refine Con.of_ok 4 0 [.tmp 2] [(0, .s (.c (.d (.sl (List.map (eInt .i64) L)))))] Tryd.func72 rfl rfl rfl rfl rfl rfl rfl rfl fun w g M ρ _ => (Ok.seq (Ok.region (OkOps.m 0 (triBox (j := 0) (cs := [.d (.sl (List.map (eInt .i64) L))]) rfl rfl rfl rfl rfl) (OkOps.y (.c (.d (.v .nilFunc))) (OkOps.nil (Ok.seq (Ok.region (OkOps.q (triMkF [(0, 0)] rfl trivial rfl) (OkOps.y (.c (.fn 92 [(0, 0)])) (OkOps.nil (Ok.ret ?_)))))))))))
  exact ⟨_, rfl, .inl rfl, ⟨rfl, trivial⟩⟩
theorem fo_sight_scope_c (p_s : focus_sight) {r : Int} (hr : fo_sight_scope p_s = some r) : Con Tryd.prog 47 [.agg [.d (.sl (List.map (eInt .i64) p_s.order)), .d (.mp true (encM (kInt .i64) Node.cs p_s.nodes)), .d (.mp false (encM (kInt .i64) eBool p_s.visible)), .d (.mp false (encM (kInt .i64) eBool p_s.disabled))]] [] (.s (aI r)) [] := by
  unfold fo_sight_scope at hr
  refine Con.of_ok 31 0 [.cell 2 3] [(0, .s (.agg [.d (.sl (List.map (eInt .i64) p_s.order)), .d (.mp true (encM (kInt .i64) Node.cs p_s.nodes)), .d (.mp false (encM (kInt .i64) eBool p_s.visible)), .d (.mp false (encM (kInt .i64) eBool p_s.disabled))]))] Tryd.func47 rfl rfl rfl rfl rfl rfl rfl rfl fun w g M ρ _ => (Ok.seq (Ok.region (OkOps.m 0 (triBox (j := 0) (cs := [.d (.sl (List.map (eInt .i64) p_s.order)), .d (.mp true (encM (kInt .i64) Node.cs p_s.nodes)), .d (.mp false (encM (kInt .i64) eBool p_s.visible)), .d (.mp false (encM (kInt .i64) eBool p_s.disabled))]) rfl rfl rfl rfl rfl) (OkOps.m 0 (triAlloc (j := 1) (cs := [cI 0]) rfl rfl rfl rfl) (OkOps.nil ?_)))))
  obtain ⟨k2, hk2, hr⟩ := jn_some hr
  refine Ok.join (fun (s1 : Unit) => ⟨[(1, .s (.c (.loc 0 0))), (2, .s (.c (.loc 1 0)))], [(0, .blk [.d (.sl (List.map (eInt .i64) p_s.order)), .d (.mp true (encM (kInt .i64) Node.cs p_s.nodes)), .d (.mp false (encM (kInt .i64) eBool p_s.visible)), .d (.mp false (encM (kInt .i64) eBool p_s.disabled))] 109), (1, .blk [cI 0] 3)], 0⟩) k2 r (fun s1 hr => ?_) ?_
  rw [hk2] at hr
  refine Ok.seq (Ok.seq (Ok.region (OkOps.y (.c (.loc 0 0)) (OkOps.y (.c (.d (.sl (List.map (eInt .i64) p_s.order)))) (OkOps.q (triLen (enc := (eInt .i64)) p_s.order rfl rfl trivial rfl) (OkOps.y (aB ((p_s.order.length : Int) == 0)) (OkOps.nil ?_)))))))
  refine Ok.cond (b := (p_s.order.length : Int) == 0) rfl (fun h3 => ?_) (fun h3 => ?_)
  have hr := selT h3 hr
  refine Ok.seq (Ok.region (OkOps.w (triStore (cs' := [cI 0]) rfl rfl rfl rfl rfl rfl rfl rfl rfl) (OkOps.nil (Ok.ret ?_))))
  obtain rfl := Option.some.inj hr
  exact ⟨_, rfl, .inl rfl, trivial⟩
  have hr := selF h3 hr
  refine Ok.skip (Ok.seq (Ok.region (OkOps.y (.c (.loc 0 0)) (OkOps.y (.c (.d (.sl (List.map (eInt .i64) p_s.order)))) ?_))))
  obtain ⟨x4, hx4, hr⟩ := bind_some hr
  refine OkOps.q (triIdx (enc := (eInt .i64)) (L := p_s.order) (row := [dI x4]) hx4 rfl rfl rfl rfl (fun _ => rfl) trivial rfl) (OkOps.y (aI x4) (OkOps.w (triStore (cs' := [cI x4]) rfl rfl rfl rfl rfl rfl rfl rfl rfl) (OkOps.nil (Ok.ret ?_))))
  obtain rfl := Option.some.inj hr
  exact ⟨_, rfl, .inl rfl, trivial⟩
  clear hk2
  refine Ok.seq (Ok.region (OkOps.y (.c (.loc 0 0)) (OkOps.y (.c (.d (.sl (List.map (eInt .i64) p_s.order)))) (OkOps.m 0 (triCall (tau [(0, 2)]) (.s (.c (.fn 92 [(2, 0)]))) [(2, .blk [.d (.sl (List.map (eInt .i64) p_s.order))] 22)] (slices_Backward_Sl_int_int_c p_s.order) rfl ⟨.inl rfl, trivial⟩ trivial entry72 trivial rfl rfl rfl rfl ⟨rfl, trivial⟩ rfl rfl rfl) (OkOps.nil (Ok.block ?_))))))
  refine Ok.rangeB (jl := 3) (nx := 0) (nx1 := 0) (caps := [(2, 0)]) rfl rfl trivial Tryd.func92 rfl rfl rfl rfl rfl rfl (fun l ρ1 M1 ob hT1 E => ?_)
  refine Ok.seq (Ok.region (OkOps.y (.c (.d (.sl (List.map (eInt .i64) p_s.order)))) (OkOps.q (triLen (enc := (eInt .i64)) p_s.order rfl rfl trivial rfl) (OkOps.y (aI (IntKind.i64.wrap ((p_s.order.length : Int) - 1))) (OkOps.y (aI (IntKind.i64.wrap ((p_s.order.length : Int) - 1))) (OkOps.nil ?_))))))
  obtain ⟨k6, hk6, hr⟩ := jn_some hr
  refine Ok.joinEnd (fun (s5 : Unit) => ⟨[], [(0, .blk [.d (.sl (List.map (eInt .i64) p_s.order)), .d (.mp true (encM (kInt .i64) Node.cs p_s.nodes)), .d (.mp false (encM (kInt .i64) eBool p_s.visible)), .d (.mp false (encM (kInt .i64) eBool p_s.disabled))] 109), (1, .blk [cI 0] 3), (2, .blk [.d (.sl (List.map (eInt .i64) p_s.order))] 22), (3, .obj (ob .ready none))], 0⟩) k6 r (fun s5 hr => ?_) ?_
  rw [hk6] at hr
  refine ⟨.inr rfl, .inl ⟨rfl, ?_⟩⟩
  exact ⟨(), hr, (Conv.mk (tau []) ⟨⟨_, rfl, .inl rfl⟩, ⟨_, rfl, .inl rfl⟩, trivial⟩ ⟨rfl, rfl, trivial⟩ rfl rfl rfl rfl)⟩
  clear hk6
  refine Ok.block (Ok.loopK (fun (s7 : Int) => ⟨[(0, .s (.c (.d (.v (yl l))))), (1, .s (.c (.loc 2 0))), (3, .s (aI s7))], [(0, .blk [.d (.sl (List.map (eInt .i64) p_s.order)), .d (.mp true (encM (kInt .i64) Node.cs p_s.nodes)), .d (.mp false (encM (kInt .i64) eBool p_s.visible)), .d (.mp false (encM (kInt .i64) eBool p_s.disabled))] 109), (1, .blk [cI 0] 3), (2, .blk [.d (.sl (List.map (eInt .i64) p_s.order))] 22), (3, .obj (ob .ready none))], 0⟩) hr (Conv.mk (tau []) ⟨⟨_, rfl, .inl rfl⟩, ⟨_, rfl, .inl rfl⟩, ⟨_, rfl, .inl rfl⟩, trivial⟩ ⟨rfl, rfl, rfl, rfl, trivial⟩ rfl rfl rfl rfl) ?_)
  clear hr
  intro again8 s7 hr
  unfold fo_sight_scope_L1 at hr
  refine Ok.seq (Ok.seq (Ok.region (OkOps.y (aI s7) (OkOps.y (aB (decide (s7 ≥ 0))) (OkOps.nil ?_)))))
  refine Ok.cond (b := decide (s7 ≥ 0)) rfl (fun h9 => ?_) (fun h9 => ?_)
  have hr := selT h9 hr
  refine Ok.skip (Ok.seq (Ok.block (Ok.seq (Ok.region (OkOps.y (.c (.d (.v (yl l)))) (OkOps.y (aI s7) (OkOps.y (.c (.d (.sl (List.map (eInt .i64) p_s.order)))) (OkOps.y (aI s7) ?_))))))))
  obtain ⟨x10, hx10, hr⟩ := bind_some hr
  refine OkOps.q (triIdx (enc := (eInt .i64)) (L := p_s.order) (row := [dI x10]) hx10 rfl rfl rfl rfl (fun _ => rfl) trivial rfl) (OkOps.y (aI x10) ?_)
  refine OkOps.yield (jl := 3) (v1 := aI s7) (v2 := aI x10) (nx := 0) E (by decide) rfl rfl rfl rfl trivial rfl rfl dom_cons dom_self (fun ρc Mc hT2 => ?_)
  refine Ok.region (OkOps.y (aI x10) (OkOps.nil ?_))
  refine ⟨rfl, rfl, ?_⟩
  refine Ok.block (Ok.seq (Ok.region (OkOps.y (.c (.loc 0 1)) (OkOps.y (.c (.d (.mp true (encM (kInt .i64) Node.cs p_s.nodes)))) (OkOps.y (aI x10) ?_)))))
  obtain ⟨x11, hx11, hr⟩ := bind_some hr
  refine OkOps.q (triLook (agg := true) (ek := (kInt .i64)) (ev := Node.cs) (L := p_s.nodes) (r := .agg [cI x11.1.ID, cI x11.1.Parent, cI x11.1.Kind, cS x11.1.Key, .d (.sl (List.map Attr.cs x11.1.Attrs)), .d (.sl (List.map Action.cs x11.1.Actions)), .d (.sl (List.map (eInt .i64) x11.1.Kids))]) hx11 rfl rfl rfl (keyInt Tryd.underlying3) rfl rfl (fun h => by cases h) rfl trivial rfl) ?_
  refine OkOps.y (aI x11.1.Kind) (OkOps.y (aB (x11.1.Kind == 12)) (OkOps.y (aB (x11.1.Kind == 12)) (OkOps.q (triQG (x := .c (.loc 0 2)) rfl rfl trivial rfl) (OkOps.q (triQG (x := .c (.d (.mp false (encM (kInt .i64) eBool p_s.visible)))) rfl rfl ⟨fun h => h, trivial⟩ rfl) (OkOps.q (triQG (x := aI x10) rfl rfl trivial rfl) ?_)))))
  obtain ⟨x12, hx12, hr⟩ := bind_some hr
  refine OkOps.q (triLookG (agg := false) (ek := (kInt .i64)) (ev := eBool) (L := p_s.visible) (r := aB x12.1) (gO_t hx12) rfl rfl rfl rfl (keyInt Tryd.underlying3) rfl rfl (fun _ _ => rfl) rfl ⟨fun h => h, ⟨fun h => h, trivial⟩⟩ rfl) (OkOps.q (triAnd rfl rfl (fun h => h) rfl) (OkOps.nil ?_))
  refine Ok.cond (b := (x11.1.Kind == 12) && x12.1) rfl (fun h13 => ?_) (fun h13 => ?_)
  have hr := selT h13 hr
  refine Ok.seq (Ok.region (OkOps.y (aI x10) (OkOps.w (triStore (cs' := [cI x10]) rfl rfl rfl rfl rfl rfl rfl rfl rfl) (OkOps.nil (Ok.ret ?_)))))
  refine ⟨rfl, ?_⟩
  refine OkOps.y (aB (!false)) (OkOps.nil ?_)
  refine Ok.cond (b := !false) rfl (fun _ => ?_) (fun h => by cases h)
  refine Ok.ret ?_
  refine ⟨.inl rfl, .inr ⟨.ret, _, rfl, rfl, ?_⟩⟩
  obtain rfl := Option.some.inj hr
  exact ⟨_, rfl, .inl rfl, trivial⟩
  have hr := selF h13 hr
  refine Ok.skip ?_
  refine ⟨rfl, ?_⟩
  refine OkOps.y (aB (!true)) (OkOps.nil ?_)
  refine Ok.cond (b := !true) rfl (fun h => by cases h) (fun _ => ?_)
  refine Ok.skip (Ok.region (OkOps.y (aI s7) (OkOps.y (aI (IntKind.i64.wrap (s7 - 1))) (OkOps.y (aI (IntKind.i64.wrap (s7 - 1))) (OkOps.nil ?_)))))
  exact ⟨IntKind.i64.wrap (s7 - 1), hr, (Conv.mk (tau []) ⟨⟨_, rfl, .inl rfl⟩, ⟨_, rfl, .inl rfl⟩, ⟨_, rfl, .inl rfl⟩, trivial⟩ ⟨rfl, rfl, rfl, rfl, trivial⟩ rfl rfl rfl rfl)⟩
  have hr := selF h9 hr
  refine Ok.exit ?_
  exact ⟨(), hr, (Conv.mk (tau []) trivial ⟨rfl, rfl, rfl, rfl, trivial⟩ rfl rfl rfl rfl)⟩
theorem fo_sight_below_B_c (self0 : focus_sight → Int → Option (List Int)) (hself0 : ∀ (p_s : focus_sight) (id : Int) {r : (List Int)}, self0 p_s id = some r → Con Tryd.prog 63 [.agg [.d (.sl (List.map (eInt .i64) p_s.order)), .d (.mp true (encM (kInt .i64) Node.cs p_s.nodes)), .d (.mp false (encM (kInt .i64) eBool p_s.visible)), .d (.mp false (encM (kInt .i64) eBool p_s.disabled))], aI id] [] (.s (.c (.d (.sl (List.map (eInt .i64) r))))) []) (p_s : focus_sight) (id : Int) {r : (List Int)} (hr : fo_sight_below_B self0 p_s id = some r) : Con Tryd.prog 63 [.agg [.d (.sl (List.map (eInt .i64) p_s.order)), .d (.mp true (encM (kInt .i64) Node.cs p_s.nodes)), .d (.mp false (encM (kInt .i64) eBool p_s.visible)), .d (.mp false (encM (kInt .i64) eBool p_s.disabled))], aI id] [] (.s (.c (.d (.sl (List.map (eInt .i64) r))))) [] := by
  unfold fo_sight_below_B at hr
  refine Con.of_ok 27 0 [.tmp 4] [(0, .s (.agg [.d (.sl (List.map (eInt .i64) p_s.order)), .d (.mp true (encM (kInt .i64) Node.cs p_s.nodes)), .d (.mp false (encM (kInt .i64) eBool p_s.visible)), .d (.mp false (encM (kInt .i64) eBool p_s.disabled))])), (1, .s (aI id))] Tryd.func63 rfl rfl rfl rfl rfl rfl rfl rfl fun w g M ρ _ => (Ok.seq (Ok.region (OkOps.m 0 (triBox (j := 0) (cs := [.d (.sl (List.map (eInt .i64) p_s.order)), .d (.mp true (encM (kInt .i64) Node.cs p_s.nodes)), .d (.mp false (encM (kInt .i64) eBool p_s.visible)), .d (.mp false (encM (kInt .i64) eBool p_s.disabled))]) rfl rfl rfl rfl rfl) (OkOps.y (.c (.d (.v (.slice none 0 0)))) (OkOps.nil (Ok.seq (Ok.region (OkOps.y (aI id) (OkOps.m 0 (triBST (sz := 1) (enc := (eInt .i64)) (j := 1) ([id]) rfl rfl rfl rfl rfl rfl rfl rfl (fun _ => rfl) trivial rfl rfl) (OkOps.y (.c (.tl 1 (List.map (eInt .i64) ([id])))) (OkOps.nil ?_)))))))))))
  obtain ⟨k2, hk2, hr⟩ := jn_some hr
  refine Ok.join (fun (s1 : (List Int)) => ⟨[(5, .s (.c (.tl 1003 (List.map (eInt .i64) s1))))], [(1003, .tail 1)], 0⟩) k2 r (fun s1 hr => ?_) ?_
  rw [hk2] at hr
  refine Ok.seq (Ok.region (OkOps.y (.c (.tl 1003 (List.map (eInt .i64) s1))) (OkOps.y (.c (.tl 1003 (List.map (eInt .i64) s1))) (OkOps.nil (Ok.ret ?_)))))
  obtain rfl := Option.some.inj hr
  exact ⟨_, rfl, .inr rfl, trivial⟩
  clear hk2
  refine Ok.seq (Ok.region (OkOps.y (.c (.loc 0 1)) (OkOps.y (.c (.d (.mp true (encM (kInt .i64) Node.cs p_s.nodes)))) (OkOps.y (aI id) ?_))))
  obtain ⟨x3, hx3, hr⟩ := bind_some hr
  refine OkOps.q (triLook (agg := true) (ek := (kInt .i64)) (ev := Node.cs) (L := p_s.nodes) (r := .agg [cI x3.1.ID, cI x3.1.Parent, cI x3.1.Kind, cS x3.1.Key, .d (.sl (List.map Attr.cs x3.1.Attrs)), .d (.sl (List.map Action.cs x3.1.Actions)), .d (.sl (List.map (eInt .i64) x3.1.Kids))]) hx3 rfl rfl rfl (keyInt Tryd.underlying3) rfl rfl (fun h => by cases h) rfl trivial rfl) ?_
  refine OkOps.y (.c (.d (.sl (List.map (eInt .i64) x3.1.Kids)))) (OkOps.q (triLen (enc := (eInt .i64)) x3.1.Kids rfl rfl trivial rfl) (OkOps.y (aI 0) (OkOps.nil (Ok.block (Ok.loopK (fun (s4 : (List Int) × Int) => ⟨[(2, .s (.c (.loc 0 0))), (5, .s (.c (.tl 1005 (List.map (eInt .i64) s4.1)))), (14, .s (.c (.d (.sl (List.map (eInt .i64) x3.1.Kids))))), (15, .s (aI (x3.1.Kids.length : Int))), (16, .s (aI s4.2))], [(0, .blk [.d (.sl (List.map (eInt .i64) p_s.order)), .d (.mp true (encM (kInt .i64) Node.cs p_s.nodes)), .d (.mp false (encM (kInt .i64) eBool p_s.visible)), .d (.mp false (encM (kInt .i64) eBool p_s.disabled))] 109), (1005, .tail 1)], 0⟩) hr (Conv.mk (tau [(1005, 1)]) ⟨⟨_, rfl, .inl rfl⟩, ⟨_, rfl, .inl rfl⟩, ⟨_, rfl, .inl rfl⟩, ⟨_, rfl, .inl rfl⟩, ⟨_, rfl, .inl rfl⟩, trivial⟩ ⟨rfl, rfl, trivial⟩ rfl rfl rfl rfl) ?_)))))
  clear hr
  intro again5 s4 hr
  unfold fo_sight_below_L1 at hr
  refine Ok.seq (Ok.region (OkOps.y (aB (decide (s4.2 < (x3.1.Kids.length : Int)))) (OkOps.nil (Ok.seq ?_))))
  refine Ok.cond (b := decide (s4.2 < (x3.1.Kids.length : Int))) rfl (fun h6 => ?_) (fun h6 => ?_)
  have hr := selT h6 hr
  refine Ok.skip (Ok.seq (Ok.block (Ok.seq (Ok.region ?_))))
  obtain ⟨x7, hx7, hr⟩ := bind_some hr
  refine OkOps.q (triIdx (enc := (eInt .i64)) (L := x3.1.Kids) (row := [dI x7]) hx7 rfl rfl rfl rfl (fun _ => rfl) trivial rfl) (OkOps.y (aI x7) (OkOps.y (aI x7) (OkOps.nil (Ok.region (OkOps.y (.c (.tl 1005 (List.map (eInt .i64) s4.1))) (OkOps.y (.agg [.d (.sl (List.map (eInt .i64) p_s.order)), .d (.mp true (encM (kInt .i64) Node.cs p_s.nodes)), .d (.mp false (encM (kInt .i64) eBool p_s.visible)), .d (.mp false (encM (kInt .i64) eBool p_s.disabled))]) (OkOps.y (aI x7) ?_)))))))
  obtain ⟨x8, hx8, hr⟩ := bind_some hr
  refine OkOps.q (triCl (tau []) (.s (.c (.d (.sl (List.map (eInt .i64) x8))))) [] (hself0 _ _ hx8) rfl ⟨.inl rfl, .inl rfl, trivial⟩ trivial entry63 trivial) ?_
  obtain ⟨x9, hx9, hr⟩ := bind_some hr
  refine OkOps.m2 0 (triApp (enc := (eInt .i64)) (L := s4.1) (X := x8) (j := 1005) (j' := 2) hx9 rfl rfl rfl rfl rfl rfl (fun _ => rfl) (fun _ => rfl) (by decide) trivial rfl rfl) (OkOps.y (.c (.tl 2 (List.map (eInt .i64) x9))) (OkOps.nil (Ok.region (OkOps.y (aI (IntKind.i64.wrap (s4.2 + 1))) (OkOps.y (aI (IntKind.i64.wrap (s4.2 + 1))) (OkOps.nil ?_))))))
  exact ⟨(x9, IntKind.i64.wrap (s4.2 + 1)), hr, (Conv.mk (tau [(1005, 2)]) ⟨⟨_, rfl, .inl rfl⟩, ⟨_, rfl, .inl rfl⟩, ⟨_, rfl, .inl rfl⟩, ⟨_, rfl, .inl rfl⟩, ⟨_, rfl, .inl rfl⟩, trivial⟩ ⟨rfl, rfl, trivial⟩ rfl rfl rfl rfl)⟩
  have hr := selF h6 hr
  refine Ok.exit ?_
  exact ⟨s4.1, hr, (Conv.mk (tau [(1003, 1005)]) ⟨⟨_, rfl, .inl rfl⟩, trivial⟩ ⟨rfl, trivial⟩ rfl rfl rfl rfl)⟩
theorem fo_sight_below_all : ∀ n : Nat, (∀ (p_s : focus_sight) (id : Int) {r : (List Int)}, fo_sight_below n p_s id = some r → Con Tryd.prog 63 [.agg [.d (.sl (List.map (eInt .i64) p_s.order)), .d (.mp true (encM (kInt .i64) Node.cs p_s.nodes)), .d (.mp false (encM (kInt .i64) eBool p_s.visible)), .d (.mp false (encM (kInt .i64) eBool p_s.disabled))], aI id] [] (.s (.c (.d (.sl (List.map (eInt .i64) r))))) []) ∧ True := by
  intro n
  induction n with
  | zero => exact ⟨(by intros; rename_i hr; cases hr), trivial⟩
  | succ n ih => exact ⟨(by intros; rename_i hr; exact fo_sight_below_B_c _ ih.1 _ _ hr), trivial⟩
theorem fo_sight_below_c (n : Nat) (p_s : focus_sight) (id : Int) {r : (List Int)} (hr : fo_sight_below n p_s id = some r) : Con Tryd.prog 63 [.agg [.d (.sl (List.map (eInt .i64) p_s.order)), .d (.mp true (encM (kInt .i64) Node.cs p_s.nodes)), .d (.mp false (encM (kInt .i64) eBool p_s.visible)), .d (.mp false (encM (kInt .i64) eBool p_s.disabled))], aI id] [] (.s (.c (.d (.sl (List.map (eInt .i64) r))))) [] := (fo_sight_below_all n).1 p_s id hr
theorem fo_pressable_1_c (a : Action) {r : Bool} (hr : fo_pressable_1 a = some r) : Con Tryd.prog 106 [.agg [cS a.Event, cS a.Instance, cS a.Handler, .d (.sl (List.map AValue.cs a.Args))]] [] (.s (aB r)) [] := by
  unfold fo_pressable_1 at hr
  refine Con.of_ok 6 0 [.tmp 2] [(0, .s (.agg [cS a.Event, cS a.Instance, cS a.Handler, .d (.sl (List.map AValue.cs a.Args))]))] Tryd.func106 rfl rfl rfl rfl rfl rfl rfl rfl fun w g M ρ _ => (Ok.seq (Ok.region (OkOps.m 0 (triBox (j := 0) (cs := [cS a.Event, cS a.Instance, cS a.Handler, .d (.sl (List.map AValue.cs a.Args))]) rfl rfl rfl rfl rfl) (OkOps.y (aB false) (OkOps.nil (Ok.seq (Ok.region (OkOps.y (.c (.loc 0 0)) (OkOps.y (aS a.Event) (OkOps.y (aB (a.Event.toList == (ByteArray.mk #[112, 114, 101, 115, 115]).toList)) (OkOps.y (aB (a.Event.toList == (ByteArray.mk #[112, 114, 101, 115, 115]).toList)) (OkOps.nil (Ok.ret ?_)))))))))))))
  obtain rfl := Option.some.inj hr
  exact ⟨_, rfl, .inl rfl, trivial⟩
theorem sl_IndexFunc_press_c (p_s : (List Action)) {r : Int} (hr : sl_IndexFunc_press p_s = some r) : Con Tryd.prog 116 [.c (.d (.sl (List.map Action.cs p_s))), .c (.fn 106 [])] [] (.s (aI r)) [] := by
  unfold sl_IndexFunc_press at hr
  refine Con.of_ok 19 0 [.tmp 4] [(0, .s (.c (.d (.sl (List.map Action.cs p_s))))), (1, .s (.c (.fn 106 [])))] Tryd.func116 rfl rfl rfl rfl rfl rfl rfl rfl fun w g M ρ _ => (Ok.seq (Ok.region (OkOps.y (aI 0) (OkOps.nil ?_))))
  obtain ⟨k2, hk2, hr⟩ := jn_some hr
  refine Ok.join (fun (s1 : Unit) => ⟨[], [], 0⟩) k2 r (fun s1 hr => ?_) ?_
  rw [hk2] at hr
  refine Ok.seq (Ok.region (OkOps.y (aI (-1)) (OkOps.nil (Ok.ret ?_))))
  obtain rfl := Option.some.inj hr
  exact ⟨_, rfl, .inl rfl, trivial⟩
  clear hk2
  refine Ok.seq (Ok.region (OkOps.y (.c (.d (.sl (List.map Action.cs p_s)))) (OkOps.q (triLen (enc := Action.cs) p_s rfl rfl trivial rfl) (OkOps.y (aI 0) (OkOps.nil (Ok.block (Ok.loopK (fun (s3 : Int) => ⟨[(0, .s (.c (.d (.sl (List.map Action.cs p_s))))), (1, .s (.c (.fn 106 []))), (7, .s (aI (p_s.length : Int))), (8, .s (aI s3))], [], 0⟩) hr (Conv.mk (tau []) ⟨⟨_, rfl, .inl rfl⟩, ⟨_, rfl, .inl rfl⟩, ⟨_, rfl, .inl rfl⟩, ⟨_, rfl, .inl rfl⟩, trivial⟩ trivial rfl rfl rfl rfl) ?_)))))))
  clear hr
  intro again4 s3 hr
  unfold sl_IndexFunc_press_L1 at hr
  refine Ok.seq (Ok.region (OkOps.y (aB (decide (s3 < (p_s.length : Int)))) (OkOps.nil (Ok.seq ?_))))
  refine Ok.cond (b := decide (s3 < (p_s.length : Int))) rfl (fun h5 => ?_) (fun h5 => ?_)
  have hr := selT h5 hr
  refine Ok.skip (Ok.seq (Ok.block (Ok.seq (Ok.region (OkOps.y (aI s3) (OkOps.y (aI s3) (OkOps.nil (Ok.seq (Ok.region (OkOps.y (.c (.fn 106 [])) (OkOps.y (.c (.d (.sl (List.map Action.cs p_s)))) (OkOps.y (aI s3) ?_))))))))))))
  obtain ⟨x6, hx6, hr⟩ := bind_some hr
  refine OkOps.q (triIdx (enc := Action.cs) (L := p_s) (row := [dS x6.Event, dS x6.Instance, dS x6.Handler, .sl (List.map AValue.cs x6.Args)]) hx6 rfl rfl rfl rfl (fun _ => rfl) trivial rfl) (OkOps.y (.agg [cS x6.Event, cS x6.Instance, cS x6.Handler, .d (.sl (List.map AValue.cs x6.Args))]) ?_)
  obtain ⟨x7, hx7, hr⟩ := bind_some hr
  refine OkOps.q (triCallF (caps := []) (tau []) (.s (aB x7)) [] rfl (fo_pressable_1_c _ hx7) rfl ⟨.inl rfl, trivial⟩ trivial entry106 trivial rfl rfl rfl rfl trivial rfl rfl rfl) (OkOps.nil ?_)
  refine Ok.cond (b := x7) rfl (fun h8 => ?_) (fun h8 => ?_)
  have hr := selT h8 hr
  refine Ok.seq (Ok.region (OkOps.y (aI s3) (OkOps.y (aI s3) (OkOps.nil (Ok.ret ?_)))))
  obtain rfl := Option.some.inj hr
  exact ⟨_, rfl, .inl rfl, trivial⟩
  have hr := selF h8 hr
  refine Ok.skip (Ok.region (OkOps.y (aI (IntKind.i64.wrap (s3 + 1))) (OkOps.y (aI (IntKind.i64.wrap (s3 + 1))) (OkOps.nil ?_))))
  exact ⟨IntKind.i64.wrap (s3 + 1), hr, (Conv.mk (tau []) ⟨⟨_, rfl, .inl rfl⟩, ⟨_, rfl, .inl rfl⟩, ⟨_, rfl, .inl rfl⟩, ⟨_, rfl, .inl rfl⟩, trivial⟩ trivial rfl rfl rfl rfl)⟩
  have hr := selF h5 hr
  refine Ok.exit ?_
  exact ⟨(), hr, (Conv.mk (tau []) trivial trivial rfl rfl rfl rfl)⟩
theorem sl_ContainsFunc_press_c (p_s : (List Action)) {r : Bool} (hr : sl_ContainsFunc_press p_s = some r) : Con Tryd.prog 105 [.c (.d (.sl (List.map Action.cs p_s))), .c (.fn 106 [])] [] (.s (aB r)) [] := by
  unfold sl_ContainsFunc_press at hr
  refine Con.of_ok 9 0 [.tmp 4] [(0, .s (.c (.d (.sl (List.map Action.cs p_s))))), (1, .s (.c (.fn 106 [])))] Tryd.func105 rfl rfl rfl rfl rfl rfl rfl rfl fun w g M ρ _ => (Ok.seq (Ok.region (OkOps.y (aB false) (OkOps.nil (Ok.seq (Ok.region (OkOps.y (.c (.d (.sl (List.map Action.cs p_s)))) (OkOps.y (.c (.fn 106 [])) ?_))))))))
  obtain ⟨x1, hx1, hr⟩ := bind_some hr
  refine OkOps.q (triCl (tau []) (.s (aI x1)) [] (sl_IndexFunc_press_c _ hx1) rfl ⟨.inl rfl, .inl rfl, trivial⟩ trivial entry116 trivial) (OkOps.y (aB (decide (x1 ≥ 0))) (OkOps.y (aB (decide (x1 ≥ 0))) (OkOps.nil (Ok.ret ?_))))
  obtain rfl := Option.some.inj hr
  exact ⟨_, rfl, .inl rfl, trivial⟩
theorem fo_pressable_c (p_n : Node) {r : Bool} (hr : fo_pressable p_n = some r) : Con Tryd.prog 87 [.agg [cI p_n.ID, cI p_n.Parent, cI p_n.Kind, cS p_n.Key, .d (.sl (List.map Attr.cs p_n.Attrs)), .d (.sl (List.map Action.cs p_n.Actions)), .d (.sl (List.map (eInt .i64) p_n.Kids))]] [] (.s (aB r)) [] := by
  unfold fo_pressable at hr
  refine Con.of_ok 25 0 [.tmp 2] [(0, .s (.agg [cI p_n.ID, cI p_n.Parent, cI p_n.Kind, cS p_n.Key, .d (.sl (List.map Attr.cs p_n.Attrs)), .d (.sl (List.map Action.cs p_n.Actions)), .d (.sl (List.map (eInt .i64) p_n.Kids))]))] Tryd.func87 rfl rfl rfl rfl rfl rfl rfl rfl fun w g M ρ _ => (Ok.seq (Ok.region (OkOps.m 0 (triBox (j := 0) (cs := [cI p_n.ID, cI p_n.Parent, cI p_n.Kind, cS p_n.Key, .d (.sl (List.map Attr.cs p_n.Attrs)), .d (.sl (List.map Action.cs p_n.Actions)), .d (.sl (List.map (eInt .i64) p_n.Kids))]) rfl rfl rfl rfl rfl) (OkOps.y (aB false) (OkOps.nil (Ok.seq (Ok.seq (Ok.region (OkOps.y (.c (.loc 0 2)) (OkOps.y (aI p_n.Kind) (OkOps.nil (Ok.block ?_))))))))))))
  obtain ⟨k2, hk2, hr⟩ := jn_some hr
  refine Ok.join (fun (s1 : Bool) => ⟨[(1, .s (.c (.loc 0 0))), (6, .s (aB s1))], [(0, .blk [cI p_n.ID, cI p_n.Parent, cI p_n.Kind, cS p_n.Key, .d (.sl (List.map Attr.cs p_n.Attrs)), .d (.sl (List.map Action.cs p_n.Actions)), .d (.sl (List.map (eInt .i64) p_n.Kids))] 96)], 0⟩) k2 r (fun s1 hr => ?_) ?_
  rw [hk2] at hr
  refine Ok.cond (b := s1) rfl (fun h3 => ?_) (fun h3 => ?_)
  have hr := selT h3 hr
  refine Ok.seq (Ok.region (OkOps.y (aB true) (OkOps.nil (Ok.ret ?_))))
  obtain rfl := Option.some.inj hr
  exact ⟨_, rfl, .inl rfl, trivial⟩
  have hr := selF h3 hr
  refine Ok.skip (Ok.seq (Ok.region (OkOps.y (.c (.loc 0 2)) (OkOps.y (aI p_n.Kind) (OkOps.y (aB (p_n.Kind == 4)) (OkOps.y (aB (p_n.Kind == 4)) (OkOps.q (triQG (x := .c (.loc 0 2)) rfl rfl trivial rfl) (OkOps.q (triQG (x := aI p_n.Kind) rfl rfl ⟨fun h => h, trivial⟩ rfl) (OkOps.q (triQG (x := aB (p_n.Kind == 13)) rfl rfl ⟨fun h => h, trivial⟩ rfl) ?_)))))))))
  refine OkOps.q (triOr rfl rfl (fun h => by rw [h]; rfl) rfl) ?_
  refine OkOps.y (aB ((p_n.Kind == 4) || (p_n.Kind == 13))) (OkOps.nil (Ok.seq (Ok.region (OkOps.y (aB ((p_n.Kind == 4) || (p_n.Kind == 13))) (OkOps.y (aB (!((p_n.Kind == 4) || (p_n.Kind == 13)))) (OkOps.y (aB (!((p_n.Kind == 4) || (p_n.Kind == 13)))) (OkOps.q (triQG (x := .c (.loc 0 5)) rfl rfl trivial rfl) (OkOps.q (triQG (x := .c (.d (.sl (List.map Action.cs p_n.Actions)))) rfl rfl ⟨fun h => h, trivial⟩ rfl) ?_))))))))
  obtain ⟨x4, hx4, hr⟩ := bind_some hr
  refine OkOps.q (triCallG (x := aB x4) (fun hg => sl_ContainsFunc_press_c _ (gO_t hx4 hg)) rfl rfl ⟨.inl rfl, .inl rfl, trivial⟩ ⟨fun h => h, trivial⟩ entry105 rfl rfl rfl) (OkOps.q (triAnd rfl rfl (fun h => h) rfl) (OkOps.y (aB ((!((p_n.Kind == 4) || (p_n.Kind == 13))) && x4)) (OkOps.nil (Ok.ret ?_))))
  obtain rfl := Option.some.inj hr
  exact ⟨_, rfl, .inl rfl, trivial⟩
  clear hk2
  refine Ok.seq (Ok.region (OkOps.y (aB (p_n.Kind == 3)) (OkOps.y (aB (p_n.Kind == 3)) (OkOps.nil ?_))))
  refine Ok.cond (b := p_n.Kind == 3) rfl (fun h5 => ?_) (fun h5 => ?_)
  have hr := selT h5 hr
  refine Ok.skip ?_
  exact ⟨p_n.Kind == 3, hr, (Conv.mk (tau []) ⟨⟨_, rfl, .inl rfl⟩, ⟨_, rfl, .inl rfl⟩, trivial⟩ ⟨rfl, trivial⟩ rfl rfl rfl rfl)⟩
  have hr := selF h5 hr
  refine Ok.seq (Ok.region (OkOps.y (aB (p_n.Kind == 6)) (OkOps.y (aB (p_n.Kind == 6)) (OkOps.nil ?_))))
  refine Ok.cond (b := p_n.Kind == 6) rfl (fun h6 => ?_) (fun h6 => ?_)
  have hr := selT h6 hr
  refine Ok.skip ?_
  exact ⟨p_n.Kind == 6, hr, (Conv.mk (tau []) ⟨⟨_, rfl, .inl rfl⟩, ⟨_, rfl, .inl rfl⟩, trivial⟩ ⟨rfl, trivial⟩ rfl rfl rfl rfl)⟩
  have hr := selF h6 hr
  refine Ok.region (OkOps.y (aB (p_n.Kind == 7)) (OkOps.y (aB (p_n.Kind == 7)) (OkOps.nil ?_)))
  exact ⟨p_n.Kind == 7, hr, (Conv.mk (tau []) ⟨⟨_, rfl, .inl rfl⟩, ⟨_, rfl, .inl rfl⟩, trivial⟩ ⟨rfl, trivial⟩ rfl rfl rfl rfl)⟩
theorem fo_sight_focusable_c (p_s : focus_sight) (id : Int) {r : Bool} (hr : fo_sight_focusable p_s id = some r) : Con Tryd.prog 64 [.agg [.d (.sl (List.map (eInt .i64) p_s.order)), .d (.mp true (encM (kInt .i64) Node.cs p_s.nodes)), .d (.mp false (encM (kInt .i64) eBool p_s.visible)), .d (.mp false (encM (kInt .i64) eBool p_s.disabled))], aI id] [] (.s (aB r)) [] := by
  unfold fo_sight_focusable at hr
  refine Con.of_ok 38 0 [.tmp 4] [(0, .s (.agg [.d (.sl (List.map (eInt .i64) p_s.order)), .d (.mp true (encM (kInt .i64) Node.cs p_s.nodes)), .d (.mp false (encM (kInt .i64) eBool p_s.visible)), .d (.mp false (encM (kInt .i64) eBool p_s.disabled))])), (1, .s (aI id))] Tryd.func64 rfl rfl rfl rfl rfl rfl rfl rfl fun w g M ρ _ => (Ok.seq (Ok.region (OkOps.m 0 (triBox (j := 0) (cs := [.d (.sl (List.map (eInt .i64) p_s.order)), .d (.mp true (encM (kInt .i64) Node.cs p_s.nodes)), .d (.mp false (encM (kInt .i64) eBool p_s.visible)), .d (.mp false (encM (kInt .i64) eBool p_s.disabled))]) rfl rfl rfl rfl rfl) (OkOps.y (aB false) (OkOps.nil (Ok.seq (Ok.region (OkOps.y (.c (.loc 0 1)) (OkOps.y (.c (.d (.mp true (encM (kInt .i64) Node.cs p_s.nodes)))) (OkOps.y (aI id) ?_))))))))))
  obtain ⟨x1, hx1, hr⟩ := bind_some hr
  refine OkOps.q (triLook (agg := true) (ek := (kInt .i64)) (ev := Node.cs) (L := p_s.nodes) (r := .agg [cI x1.1.ID, cI x1.1.Parent, cI x1.1.Kind, cS x1.1.Key, .d (.sl (List.map Attr.cs x1.1.Attrs)), .d (.sl (List.map Action.cs x1.1.Actions)), .d (.sl (List.map (eInt .i64) x1.1.Kids))]) hx1 rfl rfl rfl (keyInt Tryd.underlying3) rfl rfl (fun h => by cases h) rfl trivial rfl) ?_
  refine OkOps.m 0 (triAlloc (j := 1) (cs := [cI 0, cI 0, cI 0, cS ByteArray.empty, .d (.v (.slice none 0 0)), .d (.v (.slice none 0 0)), .d (.v (.slice none 0 0))]) rfl rfl rfl rfl) (OkOps.w (triStore (cs' := [cI x1.1.ID, cI x1.1.Parent, cI x1.1.Kind, cS x1.1.Key, .d (.sl (List.map Attr.cs x1.1.Attrs)), .d (.sl (List.map Action.cs x1.1.Actions)), .d (.sl (List.map (eInt .i64) x1.1.Kids))]) rfl rfl rfl rfl rfl rfl rfl rfl rfl) (OkOps.nil (Ok.seq (Ok.seq (Ok.region (OkOps.y (.c (.loc 0 2)) (OkOps.y (.c (.d (.mp false (encM (kInt .i64) eBool p_s.visible)))) (OkOps.y (aI id) ?_))))))))
  obtain ⟨x2, hx2, hr⟩ := bind_some hr
  refine OkOps.q (triLook (agg := false) (ek := (kInt .i64)) (ev := eBool) (L := p_s.visible) (r := aB x2.1) hx2 rfl rfl rfl (keyInt Tryd.underlying3) rfl rfl (fun _ _ => rfl) rfl trivial rfl) (OkOps.y (aB (!x2.1)) (OkOps.y (aB (!x2.1)) (OkOps.q (triQG (x := .c (.loc 0 3)) rfl rfl trivial rfl) (OkOps.q (triQG (x := .c (.d (.mp false (encM (kInt .i64) eBool p_s.disabled)))) rfl rfl ⟨fun h => h, trivial⟩ rfl) (OkOps.q (triQG (x := aI id) rfl rfl trivial rfl) ?_)))))
  obtain ⟨x3, hx3, hr⟩ := bind_some hr
  refine OkOps.q (triLookG (agg := false) (ek := (kInt .i64)) (ev := eBool) (L := p_s.disabled) (r := aB x3.1) (gO_t hx3) rfl rfl rfl rfl (keyInt Tryd.underlying3) rfl rfl (fun _ _ => rfl) rfl ⟨fun h => h, ⟨fun h => h, trivial⟩⟩ rfl) ?_
  refine OkOps.q (triOr rfl rfl (fun h => by rw [h]; rfl) rfl) ?_
  refine OkOps.nil ?_
  refine Ok.cond (b := (!x2.1) || x3.1) rfl (fun h4 => ?_) (fun h4 => ?_)
  have hr := selT h4 hr
  refine Ok.seq (Ok.region (OkOps.y (aB false) (OkOps.nil (Ok.ret ?_))))
  obtain rfl := Option.some.inj hr
  exact ⟨_, rfl, .inl rfl, trivial⟩
  have hr := selF h4 hr
  refine Ok.skip (Ok.seq (Ok.region (OkOps.y (.agg [cI x1.1.ID, cI x1.1.Parent, cI x1.1.Kind, cS x1.1.Key, .d (.sl (List.map Attr.cs x1.1.Attrs)), .d (.sl (List.map Action.cs x1.1.Actions)), .d (.sl (List.map (eInt .i64) x1.1.Kids))]) ?_)))
  obtain ⟨x5, hx5, hr⟩ := bind_some hr
  refine OkOps.q (triCl (tau []) (.s (aB x5)) [] (fo_pressable_c _ hx5) rfl ⟨.inl rfl, trivial⟩ trivial entry87 trivial) (OkOps.y (aB x5) (OkOps.q (triQG (x := .c (.loc 1 2)) rfl rfl trivial rfl) (OkOps.q (triQG (x := aI x1.1.Kind) rfl rfl ⟨fun h => h, trivial⟩ rfl) (OkOps.q (triQG (x := aB (x1.1.Kind == 4)) rfl rfl ⟨fun h => h, trivial⟩ rfl) ?_))))
  refine OkOps.q (triOr rfl rfl (fun h => by rw [h]; rfl) rfl) ?_
  refine OkOps.y (aB (x5 || (x1.1.Kind == 4))) (OkOps.q (triQG (x := .c (.loc 1 2)) rfl rfl trivial rfl) (OkOps.q (triQG (x := aI x1.1.Kind) rfl rfl ⟨fun h => h, trivial⟩ rfl) (OkOps.q (triQG (x := aB (x1.1.Kind == 13)) rfl rfl ⟨fun h => h, trivial⟩ rfl) ?_)))
  refine OkOps.q (triOr rfl rfl (fun h => by rw [h]; rfl) rfl) ?_
  refine OkOps.y (aB ((x5 || (x1.1.Kind == 4)) || (x1.1.Kind == 13))) (OkOps.q (triQG (x := .c (.loc 1 4)) rfl rfl trivial rfl) (OkOps.q (triQG (x := .c (.d (.sl (List.map Attr.cs x1.1.Attrs)))) rfl rfl ⟨fun h => h, trivial⟩ rfl) ?_))
  obtain ⟨x6, hx6, hr⟩ := bind_some hr
  refine OkOps.q (triCallG (x := aB x6) (fun hg => vw_Flag_c _ _ (gO_t hx6 hg)) rfl rfl ⟨.inl rfl, .inl rfl, trivial⟩ ⟨fun h => h, trivial⟩ entry62 rfl rfl rfl) ?_
  refine OkOps.q (triOr rfl rfl (fun h => by rw [h]; rfl) rfl) ?_
  refine OkOps.y (aB (((x5 || (x1.1.Kind == 4)) || (x1.1.Kind == 13)) || x6)) (OkOps.nil (Ok.ret ?_))
  obtain rfl := Option.some.inj hr
  exact ⟨_, rfl, .inl rfl, trivial⟩
theorem fo_Candidates_c (t : Tree) (st : (List Styled)) {r : (List Int)} (hr : fo_Candidates t st = some r) : Con Tryd.prog 31 [.agg [cI t.Root, cI t.Next, .d (.sl (List.map Node.cs t.Nodes))], .c (.d (.sl (List.map Styled.cs st)))] [] (.s (.c (.own 2000))) [(2000, .vec 1 (List.map (eInt .i64) r))] := by
  unfold fo_Candidates at hr
  refine Con.of_ok 34 0 [.tmp 4] [(0, .s (.agg [cI t.Root, cI t.Next, .d (.sl (List.map Node.cs t.Nodes))])), (1, .s (.c (.d (.sl (List.map Styled.cs st)))))] Tryd.func31 rfl rfl rfl rfl rfl rfl rfl rfl fun w g M ρ _ => (Ok.seq (Ok.region (OkOps.m 0 (triBox (j := 0) (cs := [cI t.Root, cI t.Next, .d (.sl (List.map Node.cs t.Nodes))]) rfl rfl rfl rfl rfl) (OkOps.y (.c (.d (.v (.slice none 0 0)))) (OkOps.nil (Ok.seq (Ok.region (OkOps.y (.agg [cI t.Root, cI t.Next, .d (.sl (List.map Node.cs t.Nodes))]) (OkOps.y (.c (.d (.sl (List.map Styled.cs st)))) ?_)))))))))
  obtain ⟨x1, hx1, hr⟩ := bind_some hr
  refine OkOps.q (triCl (tau []) (.s (.agg [.d (.sl (List.map (eInt .i64) x1.order)), .d (.mp true (encM (kInt .i64) Node.cs x1.nodes)), .d (.mp false (encM (kInt .i64) eBool x1.visible)), .d (.mp false (encM (kInt .i64) eBool x1.disabled))])) [] (fo_look_c _ _ hx1) rfl ⟨.inl rfl, .inl rfl, trivial⟩ trivial entry46 trivial) (OkOps.m 0 (triAlloc (j := 1) (cs := [.d (.v (.slice none 0 0)), .d (.v (.map none)), .d (.v (.map none)), .d (.v (.map none))]) rfl rfl rfl rfl) (OkOps.w (triStore (cs' := [.d (.sl (List.map (eInt .i64) x1.order)), .d (.mp true (encM (kInt .i64) Node.cs x1.nodes)), .d (.mp false (encM (kInt .i64) eBool x1.visible)), .d (.mp false (encM (kInt .i64) eBool x1.disabled))]) rfl rfl rfl rfl rfl rfl rfl rfl rfl) (OkOps.nil (Ok.seq (Ok.seq (Ok.region (OkOps.y (.c (.loc 1 0)) (OkOps.y (.c (.d (.sl (List.map (eInt .i64) x1.order)))) (OkOps.q (triLen (enc := (eInt .i64)) x1.order rfl rfl trivial rfl) (OkOps.y (aB ((x1.order.length : Int) == 0)) (OkOps.nil ?_)))))))))))
  refine Ok.cond (b := (x1.order.length : Int) == 0) rfl (fun h2 => ?_) (fun h2 => ?_)
  have hr := selT h2 hr
  refine Ok.seq (Ok.region (OkOps.y (.c (.d (.v (.slice none 0 0)))) (OkOps.nil (Ok.conv (Conv.nilV (enc := (eInt .i64)) 4 2 1 0 rfl rfl) (Ok.conv (T := ⟨[(4, .s (.c (.own 2000)))], [(2000, .vec 1 (List.map (eInt .i64) ([] : (List Int))))], 0⟩) (Conv.mk (tau [(2000, 2)]) ⟨⟨_, rfl, .inl rfl⟩, trivial⟩ ⟨rfl, trivial⟩ rfl rfl rfl rfl) (Ok.ret ?_))))))
  obtain rfl := Option.some.inj hr
  exact ⟨_, rfl, .inl rfl, ⟨rfl, trivial⟩⟩
  have hr := selF h2 hr
  refine Ok.skip (Ok.seq (Ok.region (OkOps.y (.c (.d (.v (.slice none 0 0)))) (OkOps.conv (Conv.nilV (enc := (eInt .i64)) 6 3 1 0 rfl rfl) (OkOps.nil ?_)))))
  obtain ⟨k4, hk4, hr⟩ := jn_some hr
  refine Ok.join (fun (s3 : (List Int)) => ⟨[(6, .s (.c (.own 1006)))], [(1006, .vec 1 (List.map (eInt .i64) s3))], 0⟩) k4 r (fun s3 hr => ?_) ?_
  rw [hk4] at hr
  refine Ok.seq (Ok.region (OkOps.y (.c (.own 1006)) (OkOps.y (.c (.own 1006)) (OkOps.nil (Ok.conv (T := ⟨[(4, .s (.c (.own 2000)))], [(2000, .vec 1 (List.map (eInt .i64) s3))], 0⟩) (Conv.mk (tau [(2000, 1006)]) ⟨⟨_, rfl, .inl rfl⟩, trivial⟩ ⟨rfl, trivial⟩ rfl rfl rfl rfl) (Ok.ret ?_))))))
  obtain rfl := Option.some.inj hr
  exact ⟨_, rfl, .inl rfl, ⟨rfl, trivial⟩⟩
  clear hk4
  refine Ok.seq (Ok.regionD (by kernel_rfl) (OkD.x (.agg [.d (.sl (List.map (eInt .i64) x1.order)), .d (.mp true (encM (kInt .i64) Node.cs x1.nodes)), .d (.mp false (encM (kInt .i64) eBool x1.visible)), .d (.mp false (encM (kInt .i64) eBool x1.disabled))]) rfl trivial rfl (OkD.x (.agg [.d (.sl (List.map (eInt .i64) x1.order)), .d (.mp true (encM (kInt .i64) Node.cs x1.nodes)), .d (.mp false (encM (kInt .i64) eBool x1.visible)), .d (.mp false (encM (kInt .i64) eBool x1.disabled))]) rfl trivial rfl ?_)))
  obtain ⟨x5, hx5, hr⟩ := bind_some hr
  refine OkD.q (triCl (tau []) (.s (aI x5)) [] (fo_sight_scope_c _ hx5) rfl ⟨.inl rfl, trivial⟩ trivial entry47 trivial) ?_
  obtain ⟨x6, hx6, hr⟩ := bind_some hr
  refine OkD.q (triCl (tau []) (.s (.c (.d (.sl (List.map (eInt .i64) x6))))) [] (fo_sight_below_c _ _ _ hx6) rfl ⟨.inl rfl, .inl rfl, trivial⟩ trivial entry63 trivial) (OkD.q (triLen (enc := (eInt .i64)) x6 rfl rfl trivial rfl) (OkD.x (aI 0) rfl trivial rfl (OkD.nil (by kernel_rfl) (Ok.block (Ok.loopK (fun (s7 : (List Int) × Int) => ⟨[(5, .s (.c (.loc 1 0))), (6, .s (.c (.own 1009))), (19, .s (.c (.d (.sl (List.map (eInt .i64) x6))))), (20, .s (aI (x6.length : Int))), (21, .s (aI s7.2))], [(1, .blk [.d (.sl (List.map (eInt .i64) x1.order)), .d (.mp true (encM (kInt .i64) Node.cs x1.nodes)), .d (.mp false (encM (kInt .i64) eBool x1.visible)), .d (.mp false (encM (kInt .i64) eBool x1.disabled))] 109), (1009, .vec 1 (List.map (eInt .i64) s7.1))], 0⟩) hr (Conv.mk (tau [(1009, 3)]) ⟨⟨_, rfl, .inl rfl⟩, ⟨_, rfl, .inl rfl⟩, ⟨_, rfl, .inl rfl⟩, ⟨_, rfl, .inl rfl⟩, ⟨_, rfl, .inl rfl⟩, trivial⟩ ⟨rfl, rfl, trivial⟩ rfl rfl rfl rfl) ?_)))))
  clear hr
  intro again8 s7 hr
  unfold fo_Candidates_L1 at hr
  refine Ok.seq (Ok.region (OkOps.y (aB (decide (s7.2 < (x6.length : Int)))) (OkOps.nil (Ok.seq ?_))))
  refine Ok.cond (b := decide (s7.2 < (x6.length : Int))) rfl (fun h9 => ?_) (fun h9 => ?_)
  have hr := selT h9 hr
  refine Ok.skip ?_
  obtain ⟨k11, hk11, hr⟩ := jn_some hr
  refine Ok.join (fun (s10 : (List Int)) => ⟨[(5, .s (.c (.loc 1 0))), (6, .s (.c (.own 1012))), (19, .s (.c (.d (.sl (List.map (eInt .i64) x6))))), (20, .s (aI (x6.length : Int))), (21, .s (aI s7.2))], [(1, .blk [.d (.sl (List.map (eInt .i64) x1.order)), .d (.mp true (encM (kInt .i64) Node.cs x1.nodes)), .d (.mp false (encM (kInt .i64) eBool x1.visible)), .d (.mp false (encM (kInt .i64) eBool x1.disabled))] 109), (1012, .vec 1 (List.map (eInt .i64) s10))], 0⟩) k11 r (fun s10 hr => ?_) ?_
  rw [hk11] at hr
  refine Ok.region (OkOps.y (aI (IntKind.i64.wrap (s7.2 + 1))) (OkOps.y (aI (IntKind.i64.wrap (s7.2 + 1))) (OkOps.nil ?_)))
  exact ⟨(s10, IntKind.i64.wrap (s7.2 + 1)), hr, (Conv.mk (tau [(1009, 1012)]) ⟨⟨_, rfl, .inl rfl⟩, ⟨_, rfl, .inl rfl⟩, ⟨_, rfl, .inl rfl⟩, ⟨_, rfl, .inl rfl⟩, ⟨_, rfl, .inl rfl⟩, trivial⟩ ⟨rfl, rfl, trivial⟩ rfl rfl rfl rfl)⟩
  clear hk11
  refine Ok.block (Ok.seq (Ok.region ?_))
  obtain ⟨x12, hx12, hr⟩ := bind_some hr
  refine OkOps.q (triIdx (enc := (eInt .i64)) (L := x6) (row := [dI x12]) hx12 rfl rfl rfl rfl (fun _ => rfl) trivial rfl) (OkOps.y (aI x12) (OkOps.y (aI x12) (OkOps.nil (Ok.seq (Ok.region (OkOps.y (.agg [.d (.sl (List.map (eInt .i64) x1.order)), .d (.mp true (encM (kInt .i64) Node.cs x1.nodes)), .d (.mp false (encM (kInt .i64) eBool x1.visible)), .d (.mp false (encM (kInt .i64) eBool x1.disabled))]) (OkOps.y (aI x12) ?_)))))))
  obtain ⟨x13, hx13, hr⟩ := bind_some hr
  refine OkOps.q (triCl (tau []) (.s (aB x13)) [] (fo_sight_focusable_c _ _ hx13) rfl ⟨.inl rfl, .inl rfl, trivial⟩ trivial entry64 trivial) (OkOps.nil ?_)
  refine Ok.cond (b := x13) rfl (fun h14 => ?_) (fun h14 => ?_)
  have hr := selT h14 hr
  refine Ok.region (OkOps.y (.c (.own 1009)) (OkOps.y (aI x12) (OkOps.m 0 (triBST (sz := 1) (enc := (eInt .i64)) (j := 4) ([x12]) rfl rfl rfl rfl rfl rfl rfl rfl (fun _ => rfl) trivial rfl rfl) ?_)))
  obtain ⟨x15, hx15, hr⟩ := bind_some hr
  refine OkOps.m2 0 (triAppV (enc := (eInt .i64)) (L := s7.1) (X := [x12]) (j := 1009) (j' := 5) hx15 rfl rfl rfl rfl rfl rfl (fun _ => rfl) (fun _ => rfl) trivial rfl rfl) (OkOps.y (.c (.own 5)) (OkOps.nil ?_))
  exact ⟨x15, hr, (Conv.mk (tau [(1012, 5)]) ⟨⟨_, rfl, .inl rfl⟩, ⟨_, rfl, .inl rfl⟩, ⟨_, rfl, .inl rfl⟩, ⟨_, rfl, .inl rfl⟩, ⟨_, rfl, .inl rfl⟩, trivial⟩ ⟨rfl, rfl, trivial⟩ rfl rfl rfl rfl)⟩
  have hr := selF h14 hr
  refine Ok.skip ?_
  exact ⟨s7.1, hr, (Conv.mk (tau [(1012, 1009)]) ⟨⟨_, rfl, .inl rfl⟩, ⟨_, rfl, .inl rfl⟩, ⟨_, rfl, .inl rfl⟩, ⟨_, rfl, .inl rfl⟩, ⟨_, rfl, .inl rfl⟩, trivial⟩ ⟨rfl, rfl, trivial⟩ rfl rfl rfl rfl)⟩
  have hr := selF h9 hr
  refine Ok.exit ?_
  exact ⟨s7.1, hr, (Conv.mk (tau [(1006, 1009)]) ⟨⟨_, rfl, .inl rfl⟩, trivial⟩ ⟨rfl, trivial⟩ rfl rfl rfl rfl)⟩
end Go.Proofs.YtfoigppmcelgfaaDoor
end
section
set_option maxRecDepth 100000
namespace Go.Proofs.YtfoigppmcelgfaaDoor
open Go Go.E2
theorem cmp_isNaN_int_c (p_x : Int) {r : Bool} (hr : cmp_isNaN_int p_x = some r) : Con Tryd.prog 68 [aI p_x] [] (.s (aB r)) [] := by
  unfold cmp_isNaN_int at hr
  refine Con.of_ok 6 0 [.tmp 2] [(0, .s (aI p_x))] Tryd.func68 rfl rfl rfl rfl rfl rfl rfl rfl fun w g M ρ _ => (Ok.seq (Ok.region (OkOps.y (aB false) (OkOps.nil (Ok.seq (Ok.region (OkOps.y (aI p_x) (OkOps.y (aI p_x) (OkOps.y (aB (p_x != p_x)) (OkOps.y (aB (p_x != p_x)) (OkOps.nil (Ok.ret ?_))))))))))))
  obtain rfl := Option.some.inj hr
  exact ⟨_, rfl, .inl rfl, trivial⟩
theorem cmp_Compare_int_c (p_x : Int) (y : Int) {r : Int} (hr : cmp_Compare_int p_x y = some r) : Con Tryd.prog 37 [aI p_x, aI y] [] (.s (aI r)) [] := by
  unfold cmp_Compare_int at hr
  refine Con.of_ok 20 0 [.tmp 4] [(0, .s (aI p_x)), (1, .s (aI y))] Tryd.func37 rfl rfl rfl rfl rfl rfl rfl rfl fun w g M ρ _ => (Ok.seq (Ok.region (OkOps.y (aI 0) (OkOps.nil (Ok.seq (Ok.region (OkOps.y (aI p_x) ?_)))))))
  obtain ⟨x1, hx1, hr⟩ := bind_some hr
  refine OkOps.q (triCl (tau []) (.s (aB x1)) [] (cmp_isNaN_int_c _ hx1) rfl ⟨.inl rfl, trivial⟩ trivial entry68 trivial) (OkOps.y (aB x1) (OkOps.nil (Ok.seq (Ok.region (OkOps.y (aI y) ?_)))))
  obtain ⟨x2, hx2, hr⟩ := bind_some hr
  refine OkOps.q (triCl (tau []) (.s (aB x2)) [] (cmp_isNaN_int_c _ hx2) rfl ⟨.inl rfl, trivial⟩ trivial entry68 trivial) (OkOps.y (aB x2) (OkOps.nil (Ok.seq (Ok.seq (Ok.region (OkOps.y (aB x1) (OkOps.nil ?_)))))))
  refine Ok.cond (b := x1) rfl (fun h3 => ?_) (fun h3 => ?_)
  have hr := selT h3 hr
  refine Ok.seq (Ok.seq (Ok.region (OkOps.y (aB x2) (OkOps.nil ?_))))
  refine Ok.cond (b := x2) rfl (fun h4 => ?_) (fun h4 => ?_)
  have hr := selT h4 hr
  refine Ok.seq (Ok.region (OkOps.y (aI 0) (OkOps.nil (Ok.ret ?_))))
  obtain rfl := Option.some.inj hr
  exact ⟨_, rfl, .inl rfl, trivial⟩
  have hr := selF h4 hr
  refine Ok.skip (Ok.seq (Ok.region (OkOps.y (aI (-1)) (OkOps.nil (Ok.ret ?_)))))
  obtain rfl := Option.some.inj hr
  exact ⟨_, rfl, .inl rfl, trivial⟩
  have hr := selF h3 hr
  refine Ok.skip (Ok.seq (Ok.seq (Ok.region (OkOps.y (aB x2) (OkOps.nil ?_)))))
  refine Ok.cond (b := x2) rfl (fun h5 => ?_) (fun h5 => ?_)
  have hr := selT h5 hr
  refine Ok.seq (Ok.region (OkOps.y (aI 1) (OkOps.nil (Ok.ret ?_))))
  obtain rfl := Option.some.inj hr
  exact ⟨_, rfl, .inl rfl, trivial⟩
  have hr := selF h5 hr
  refine Ok.skip (Ok.seq (Ok.seq (Ok.region (OkOps.y (aI p_x) (OkOps.y (aI y) (OkOps.y (aB (decide (p_x < y))) (OkOps.nil ?_)))))))
  refine Ok.cond (b := decide (p_x < y)) rfl (fun h6 => ?_) (fun h6 => ?_)
  have hr := selT h6 hr
  refine Ok.seq (Ok.region (OkOps.y (aI (-1)) (OkOps.nil (Ok.ret ?_))))
  obtain rfl := Option.some.inj hr
  exact ⟨_, rfl, .inl rfl, trivial⟩
  have hr := selF h6 hr
  refine Ok.skip (Ok.seq (Ok.seq (Ok.region (OkOps.y (aI p_x) (OkOps.y (aI y) (OkOps.y (aB (decide (p_x > y))) (OkOps.nil ?_)))))))
  refine Ok.cond (b := decide (p_x > y)) rfl (fun h7 => ?_) (fun h7 => ?_)
  have hr := selT h7 hr
  refine Ok.seq (Ok.region (OkOps.y (aI 1) (OkOps.nil (Ok.ret ?_))))
  obtain rfl := Option.some.inj hr
  exact ⟨_, rfl, .inl rfl, trivial⟩
  have hr := selF h7 hr
  refine Ok.skip (Ok.seq (Ok.region (OkOps.y (aI 0) (OkOps.nil (Ok.ret ?_)))))
  obtain rfl := Option.some.inj hr
  exact ⟨_, rfl, .inl rfl, trivial⟩
theorem fo_Order_1_c (id : Int) (c0 : Tree) {r : Int} (hr : fo_Order_1 id c0 = some r) : Con Tryd.prog 32 [aI id, .c (.loc 0 0)] [(0, .blk [cI c0.Root, cI c0.Next, .d (.sl (List.map Node.cs c0.Nodes))] 46)] (.s (aI r)) [(0, .blk [cI c0.Root, cI c0.Next, .d (.sl (List.map Node.cs c0.Nodes))] 46)] := by
  unfold fo_Order_1 at hr
  refine Con.of_ok 16 0 [.tmp 3] [(0, .s (aI id)), (1, .s (.c (.loc 0 0)))] Tryd.func32 rfl rfl rfl rfl rfl rfl rfl rfl fun w g M ρ _ => (Ok.seq (Ok.region (OkOps.y (aI 0) (OkOps.nil (Ok.seq (Ok.region (OkOps.y (.agg [cI c0.Root, cI c0.Next, .d (.sl (List.map Node.cs c0.Nodes))]) (OkOps.y (aI id) ?_))))))))
  obtain ⟨x1, hx1, hr⟩ := bind_some hr
  refine OkOps.q (triCl (tau []) (.tup [.agg [cI x1.1.ID, cI x1.1.Parent, cI x1.1.Kind, cS x1.1.Key, .d (.sl (List.map Attr.cs x1.1.Attrs)), .d (.sl (List.map Action.cs x1.1.Actions)), .d (.sl (List.map (eInt .i64) x1.1.Kids))], aB x1.2]) [] (vw_Find_c _ _ hx1) rfl ⟨.inl rfl, .inl rfl, trivial⟩ trivial entry33 trivial) (OkOps.q (triMv (v := .tup [.agg [cI x1.1.ID, cI x1.1.Parent, cI x1.1.Kind, cS x1.1.Key, .d (.sl (List.map Attr.cs x1.1.Attrs)), .d (.sl (List.map Action.cs x1.1.Actions)), .d (.sl (List.map (eInt .i64) x1.1.Kids))], aB x1.2]) rfl rfl) (OkOps.y (.agg [cI x1.1.ID, cI x1.1.Parent, cI x1.1.Kind, cS x1.1.Key, .d (.sl (List.map Attr.cs x1.1.Attrs)), .d (.sl (List.map Action.cs x1.1.Actions)), .d (.sl (List.map (eInt .i64) x1.1.Kids))]) (OkOps.y (aB x1.2) (OkOps.m 0 (triAlloc (j := 1) (cs := [cI 0, cI 0, cI 0, cS ByteArray.empty, .d (.v (.slice none 0 0)), .d (.v (.slice none 0 0)), .d (.v (.slice none 0 0))]) rfl rfl rfl rfl) (OkOps.w (triStore (cs' := [cI x1.1.ID, cI x1.1.Parent, cI x1.1.Kind, cS x1.1.Key, .d (.sl (List.map Attr.cs x1.1.Attrs)), .d (.sl (List.map Action.cs x1.1.Actions)), .d (.sl (List.map (eInt .i64) x1.1.Kids))]) rfl rfl rfl rfl rfl rfl rfl rfl rfl) (OkOps.y (aB x1.2) (OkOps.nil (Ok.seq (Ok.region (OkOps.y (.c (.loc 1 4)) (OkOps.y (.c (.d (.sl (List.map Attr.cs x1.1.Attrs)))) ?_)))))))))))
  obtain ⟨x2, hx2, hr⟩ := bind_some hr
  refine OkOps.q (triCl (tau []) (.s (aI x2)) [] (vw_Number_c _ _ _ hx2) rfl ⟨.inl rfl, .inl rfl, .inl rfl, trivial⟩ trivial entry34 trivial) (OkOps.y (aI (mxI x2 0)) (OkOps.y (aI (mxI x2 0)) (OkOps.nil (Ok.ret ?_))))
  obtain rfl := Option.some.inj hr
  exact ⟨_, rfl, .inl rfl, ⟨rfl, trivial⟩⟩
theorem fo_Order_2_c (a : Int) (b : Int) (c1 : Tree) {r : Int} (hr : fo_Order_2 a b c1 = some r) : Con Tryd.prog 36 [aI a, aI b, .c (.loc 0 0)] [(0, .blk [.fn 32 [(1, 0)]] 43), (1, .blk [cI c1.Root, cI c1.Next, .d (.sl (List.map Node.cs c1.Nodes))] 46)] (.s (aI r)) [(0, .blk [.fn 32 [(1, 0)]] 43), (1, .blk [cI c1.Root, cI c1.Next, .d (.sl (List.map Node.cs c1.Nodes))] 46)] := by
  unfold fo_Order_2 at hr
  refine Con.of_ok 26 0 [.tmp 5] [(0, .s (aI a)), (1, .s (aI b)), (2, .s (.c (.loc 0 0)))] Tryd.func36 rfl rfl rfl rfl rfl rfl rfl rfl fun w g M ρ _ => (Ok.seq (Ok.region (OkOps.y (aI 0) (OkOps.nil (Ok.seq (Ok.regionD (by kernel_rfl) (OkD.x (.c (.fn 32 [(1, 0)])) rfl trivial rfl (OkD.x (aI a) rfl trivial rfl ?_))))))))
  obtain ⟨x1, hx1, hr⟩ := bind_some hr
  refine OkD.q (TriL.keep (triCallF (caps := [(1, 0)]) (tau [(0, 1)]) (.s (aI x1)) [(1, .blk [cI c1.Root, cI c1.Next, .d (.sl (List.map Node.cs c1.Nodes))] 46)] rfl (fo_Order_1_c _ _ hx1) rfl ⟨.inl rfl, .inl rfl, trivial⟩ trivial entry32 ⟨rfl, trivial⟩ rfl rfl rfl rfl trivial rfl rfl rfl) ⟨rfl, trivial⟩) (OkD.x (.c (.fn 32 [(1, 0)])) rfl trivial rfl (OkD.x (aI b) rfl trivial rfl ?_))
  obtain ⟨x2, hx2, hr⟩ := bind_some hr
  refine OkD.q (TriL.keep (triCallF (caps := [(1, 0)]) (tau [(0, 1)]) (.s (aI x2)) [(1, .blk [cI c1.Root, cI c1.Next, .d (.sl (List.map Node.cs c1.Nodes))] 46)] rfl (fo_Order_1_c _ _ hx2) rfl ⟨.inl rfl, .inl rfl, trivial⟩ trivial entry32 ⟨rfl, trivial⟩ rfl rfl rfl rfl trivial rfl rfl rfl) ⟨rfl, trivial⟩) (OkD.x (aI x1) rfl trivial rfl (OkD.x (aI x2) rfl trivial rfl (OkD.nil (by kernel_rfl) (Ok.seq (Ok.seq (Ok.region (OkOps.y (aI x1) (OkOps.y (aB (x1 == 0)) (OkOps.y (aB (x1 == 0)) (OkOps.q (triQG (x := aI x2) rfl rfl trivial rfl) (OkOps.q (triQG (x := aB (x2 == 0)) rfl rfl ⟨fun h => h, trivial⟩ rfl) ?_)))))))))))
  refine OkOps.q (triOr rfl rfl (fun h => by rw [h]; rfl) rfl) ?_
  refine OkOps.nil ?_
  refine Ok.cond (b := (x1 == 0) || (x2 == 0)) rfl (fun h3 => ?_) (fun h3 => ?_)
  have hr := selT h3 hr
  refine Ok.seq (Ok.region (OkOps.y (aI x2) (OkOps.y (aI x1) ?_)))
  obtain ⟨x4, hx4, hr⟩ := bind_some hr
  refine OkOps.q (triCl (tau []) (.s (aI x4)) [] (cmp_Compare_int_c _ _ hx4) rfl ⟨.inl rfl, .inl rfl, trivial⟩ trivial entry37 trivial) (OkOps.y (aI x4) (OkOps.nil (Ok.ret ?_)))
  obtain rfl := Option.some.inj hr
  exact ⟨_, rfl, .inl rfl, ⟨rfl, rfl, trivial⟩⟩
  have hr := selF h3 hr
  refine Ok.skip (Ok.seq (Ok.region (OkOps.y (aI x1) (OkOps.y (aI x2) ?_))))
  obtain ⟨x5, hx5, hr⟩ := bind_some hr
  refine OkOps.q (triCl (tau []) (.s (aI x5)) [] (cmp_Compare_int_c _ _ hx5) rfl ⟨.inl rfl, .inl rfl, trivial⟩ trivial entry37 trivial) (OkOps.y (aI x5) (OkOps.nil (Ok.ret ?_)))
  obtain rfl := Option.some.inj hr
  exact ⟨_, rfl, .inl rfl, ⟨rfl, rfl, trivial⟩⟩
theorem slices_insertionSortCmpFunc_int_c (data : (List Int)) (a : Int) (b : Int) (cmp_1 : Tree) {r : (List Int)} (hr : slices_insertionSortCmpFunc_int data a b cmp_1 = some r) : Con Tryd.prog 90 [.c (.own 0), aI a, aI b, .c (.fn 36 [(1, 0)])] [(0, .vec 1 (List.map (eInt .i64) data)), (1, .blk [.fn 32 [(2, 0)]] 43), (2, .blk [cI cmp_1.Root, cI cmp_1.Next, .d (.sl (List.map Node.cs cmp_1.Nodes))] 46)] (.tup []) [(0, .vec 1 (List.map (eInt .i64) r)), (1, .blk [.fn 32 [(2, 0)]] 43), (2, .blk [cI cmp_1.Root, cI cmp_1.Next, .d (.sl (List.map Node.cs cmp_1.Nodes))] 46)] := by
  unfold slices_insertionSortCmpFunc_int at hr
  refine Con.of_ok 53 0 [] [(0, .s (.c (.own 0))), (1, .s (aI a)), (2, .s (aI b)), (3, .s (.c (.fn 36 [(1, 0)])))] Tryd.func90 rfl rfl rfl rfl rfl rfl rfl rfl fun w g M ρ _ => (Ok.seq (Ok.region (OkOps.y (aI a) (OkOps.y (aI (IntKind.i64.wrap (a + 1))) (OkOps.y (aI (IntKind.i64.wrap (a + 1))) (OkOps.nil ?_))))))
  obtain ⟨k2, hk2, hr⟩ := jn_some hr
  refine Ok.joinEnd (fun (s1 : (List Int)) => ⟨[], [(0, .vec 1 (List.map (eInt .i64) s1)), (1, .blk [.fn 32 [(2, 0)]] 43), (2, .blk [cI cmp_1.Root, cI cmp_1.Next, .d (.sl (List.map Node.cs cmp_1.Nodes))] 46)], 0⟩) k2 r (fun s1 hr => ?_) ?_
  rw [hk2] at hr
  obtain rfl := Option.some.inj hr
  exact ⟨_, rfl, .inl rfl, ⟨rfl, rfl, rfl, trivial⟩⟩
  clear hk2
  refine Ok.block (Ok.loopK (fun (s3 : Int × (List Int)) => ⟨[(0, .s (.c (.own 0))), (1, .s (aI a)), (2, .s (aI b)), (3, .s (.c (.fn 36 [(1, 0)]))), (8, .s (aI s3.1))], [(0, .vec 1 (List.map (eInt .i64) s3.2)), (1, .blk [.fn 32 [(2, 0)]] 43), (2, .blk [cI cmp_1.Root, cI cmp_1.Next, .d (.sl (List.map Node.cs cmp_1.Nodes))] 46)], 0⟩) hr (Conv.mk (tau []) ⟨⟨_, rfl, .inl rfl⟩, ⟨_, rfl, .inl rfl⟩, ⟨_, rfl, .inl rfl⟩, ⟨_, rfl, .inl rfl⟩, ⟨_, rfl, .inl rfl⟩, trivial⟩ ⟨rfl, rfl, rfl, trivial⟩ rfl rfl rfl rfl) ?_)
  clear hr
  intro again4 s3 hr
  unfold slices_insertionSortCmpFunc_int_L2 at hr
  refine Ok.seq (Ok.seq (Ok.region (OkOps.y (aI s3.1) (OkOps.y (aI b) (OkOps.y (aB (decide (s3.1 < b))) (OkOps.nil ?_))))))
  refine Ok.cond (b := decide (s3.1 < b)) rfl (fun h5 => ?_) (fun h5 => ?_)
  have hr := selT h5 hr
  refine Ok.skip ?_
  obtain ⟨k7, hk7, hr⟩ := jn_some hr
  refine Ok.join (fun (s6 : (List Int)) => ⟨[(0, .s (.c (.own 0))), (1, .s (aI a)), (2, .s (aI b)), (3, .s (.c (.fn 36 [(1, 0)]))), (8, .s (aI s3.1))], [(0, .vec 1 (List.map (eInt .i64) s6)), (1, .blk [.fn 32 [(2, 0)]] 43), (2, .blk [cI cmp_1.Root, cI cmp_1.Next, .d (.sl (List.map Node.cs cmp_1.Nodes))] 46)], 0⟩) k7 r (fun s6 hr => ?_) ?_
  rw [hk7] at hr
  refine Ok.region (OkOps.y (aI s3.1) (OkOps.y (aI (IntKind.i64.wrap (s3.1 + 1))) (OkOps.y (aI (IntKind.i64.wrap (s3.1 + 1))) (OkOps.nil ?_))))
  exact ⟨(IntKind.i64.wrap (s3.1 + 1), s6), hr, (Conv.mk (tau []) ⟨⟨_, rfl, .inl rfl⟩, ⟨_, rfl, .inl rfl⟩, ⟨_, rfl, .inl rfl⟩, ⟨_, rfl, .inl rfl⟩, ⟨_, rfl, .inl rfl⟩, trivial⟩ ⟨rfl, rfl, rfl, trivial⟩ rfl rfl rfl rfl)⟩
  clear hk7
  refine Ok.block (Ok.seq (Ok.region (OkOps.y (aI s3.1) (OkOps.y (aI s3.1) (OkOps.nil ?_)))))
  obtain ⟨k9, hk9, hr⟩ := jn_some hr
  refine Ok.joinEnd (fun (s8 : (List Int)) => ⟨[(0, .s (.c (.own 0))), (1, .s (aI a)), (2, .s (aI b)), (3, .s (.c (.fn 36 [(1, 0)]))), (8, .s (aI s3.1))], [(0, .vec 1 (List.map (eInt .i64) s8)), (1, .blk [.fn 32 [(2, 0)]] 43), (2, .blk [cI cmp_1.Root, cI cmp_1.Next, .d (.sl (List.map Node.cs cmp_1.Nodes))] 46)], 0⟩) k9 r (fun s8 hr => ?_) ?_
  rw [hk9] at hr
  exact ⟨s8, hr, (Conv.mk (tau []) ⟨⟨_, rfl, .inl rfl⟩, ⟨_, rfl, .inl rfl⟩, ⟨_, rfl, .inl rfl⟩, ⟨_, rfl, .inl rfl⟩, ⟨_, rfl, .inl rfl⟩, trivial⟩ ⟨rfl, rfl, rfl, trivial⟩ rfl rfl rfl rfl)⟩
  clear hk9
  refine Ok.block (Ok.loopK (fun (s10 : Int × (List Int)) => ⟨[(0, .s (.c (.own 0))), (1, .s (aI a)), (2, .s (aI b)), (3, .s (.c (.fn 36 [(1, 0)]))), (8, .s (aI s3.1)), (9, .s (aI s10.1))], [(0, .vec 1 (List.map (eInt .i64) s10.2)), (1, .blk [.fn 32 [(2, 0)]] 43), (2, .blk [cI cmp_1.Root, cI cmp_1.Next, .d (.sl (List.map Node.cs cmp_1.Nodes))] 46)], 0⟩) hr (Conv.mk (tau []) ⟨⟨_, rfl, .inl rfl⟩, ⟨_, rfl, .inl rfl⟩, ⟨_, rfl, .inl rfl⟩, ⟨_, rfl, .inl rfl⟩, ⟨_, rfl, .inl rfl⟩, ⟨_, rfl, .inl rfl⟩, trivial⟩ ⟨rfl, rfl, rfl, trivial⟩ rfl rfl rfl rfl) ?_)
  clear hr
  intro again11 s10 hr
  unfold slices_insertionSortCmpFunc_int_L1 at hr
  refine Ok.seq (Ok.seq (Ok.regionD (by kernel_rfl) (OkD.x (aI s10.1) rfl trivial rfl (OkD.x (aI a) rfl trivial rfl (OkD.x (aB (decide (s10.1 > a))) rfl trivial rfl (OkD.x (aB (decide (s10.1 > a))) rfl trivial rfl (OkD.q (triQG (x := .c (.fn 36 [(1, 0)])) rfl rfl trivial rfl) (OkD.q (triQG (x := .c (.own 0)) rfl rfl trivial rfl) (OkD.q (triQG (x := aI s10.1) rfl rfl trivial rfl) ?_)))))))))
  obtain ⟨x12, hx12, hr⟩ := bind_some hr
  refine OkD.q (triIdxVG (enc := (eInt .i64)) (L := s10.2) (gO_t hx12) rfl rfl rfl rfl rfl ⟨fun h => h, ⟨fun h => h, trivial⟩⟩ rfl) ?_
  obtain ⟨x13, hx13, hr⟩ := bind_some hr
  refine OkD.q (triLoadVG (enc := (eInt .i64)) (L := s10.2) (row := [dI x13]) (r := aI x13) (gO_t hx13) rfl rfl rfl rfl (fun _ => rfl) rfl ⟨fun h => h, trivial⟩ rfl) (OkD.q (triQG (x := .c (.own 0)) rfl rfl trivial rfl) (OkD.q (triQG (x := aI s10.1) rfl rfl trivial rfl) (OkD.q (triQG (x := aI (IntKind.i64.wrap (s10.1 - 1))) rfl rfl ⟨fun h => h, trivial⟩ rfl) ?_)))
  obtain ⟨x14, hx14, hr⟩ := bind_some hr
  refine OkD.q (triIdxVG (enc := (eInt .i64)) (L := s10.2) (gO_t hx14) rfl rfl rfl rfl rfl ⟨fun h => h, ⟨fun h => h, trivial⟩⟩ rfl) ?_
  obtain ⟨x15, hx15, hr⟩ := bind_some hr
  refine OkD.q (triLoadVG (enc := (eInt .i64)) (L := s10.2) (row := [dI x15]) (r := aI x15) (gO_t hx15) rfl rfl rfl rfl (fun _ => rfl) rfl ⟨fun h => h, trivial⟩ rfl) ?_
  obtain ⟨x16, hx16, hr⟩ := bind_some hr
  refine OkD.q (TriL.guard (x := aI x16) rfl rfl (fun hg => TriL.keep (triCallF (caps := [(1, 0)]) (tau [(0, 1), (1, 2)]) (.s (aI x16)) [(1, .blk [.fn 32 [(2, 0)]] 43), (2, .blk [cI cmp_1.Root, cI cmp_1.Next, .d (.sl (List.map Node.cs cmp_1.Nodes))] 46)] rfl (fo_Order_2_c _ _ _ (gO_t hx16 hg)) rfl ⟨.inl rfl, .inl rfl, .inl rfl, trivial⟩ ⟨fun _ => hg, ⟨fun _ => hg, ⟨fun _ => hg, trivial⟩⟩⟩ entry36 ⟨rfl, rfl, trivial⟩ rfl rfl rfl rfl trivial rfl rfl rfl) ⟨rfl, rfl, trivial⟩)) (OkD.q (triQG (x := aB (decide (x16 < 0))) rfl rfl ⟨fun h => h, trivial⟩ rfl) (OkD.q (triAnd rfl rfl (fun h => h) rfl) (OkD.nil (by kernel_rfl) ?_)))
  refine Ok.cond (b := (decide (s10.1 > a)) && (decide (x16 < 0))) rfl (fun h17 => ?_) (fun h17 => ?_)
  have hr := selT h17 hr
  refine Ok.skip (Ok.seq (Ok.block (Ok.regionD (by kernel_rfl) (OkD.x (.c (.own 0)) rfl trivial rfl (OkD.x (aI s10.1) rfl trivial rfl (OkD.x (.c (.own 0)) rfl trivial rfl (OkD.x (aI s10.1) rfl trivial rfl (OkD.x (aI (IntKind.i64.wrap (s10.1 - 1))) rfl trivial rfl (OkD.x (.c (.own 0)) rfl trivial rfl (OkD.x (aI s10.1) rfl trivial rfl (OkD.x (aI (IntKind.i64.wrap (s10.1 - 1))) rfl trivial rfl ?_)))))))))))
  obtain ⟨x18, hx18, hr⟩ := bind_some hr
  refine OkD.q (triIdxV (enc := (eInt .i64)) (L := s10.2) hx18 rfl rfl rfl rfl trivial rfl) ?_
  obtain ⟨x19, hx19, hr⟩ := bind_some hr
  refine OkD.q (triLoadV (enc := (eInt .i64)) (L := s10.2) (row := [dI x19]) (r := aI x19) hx19 rfl rfl rfl (fun _ => rfl) rfl  rfl) (OkD.x (.c (.own 0)) rfl trivial rfl (OkD.x (aI s10.1) rfl trivial rfl ?_))
  obtain ⟨x20, hx20, hr⟩ := bind_some hr
  refine OkD.q (triIdxV (enc := (eInt .i64)) (L := s10.2) hx20 rfl rfl rfl rfl trivial rfl) ?_
  obtain ⟨x21, hx21, hr⟩ := bind_some hr
  refine OkD.q (triLoadV (enc := (eInt .i64)) (L := s10.2) (row := [dI x21]) (r := aI x21) hx21 rfl rfl rfl (fun _ => rfl) rfl  rfl) ?_
  obtain ⟨x22, hx22, hr⟩ := bind_some hr
  refine OkD.q (triIdxV (enc := (eInt .i64)) (L := s10.2) hx22 rfl rfl rfl rfl trivial rfl) (OkD.w (triStoreV (enc := (eInt .i64)) (L := s10.2) x19 (.inr (ixO_spec hx22).2) rfl rfl rfl rfl rfl rfl (fun _ => rfl) rfl) ?_)
  obtain ⟨x23, hx23, hr⟩ := bind_some hr
  refine OkD.q (triIdxV (enc := (eInt .i64)) (L := List.set s10.2 x22 x19) hx23 rfl rfl rfl rfl trivial rfl) (OkD.w (triStoreV (enc := (eInt .i64)) (L := List.set s10.2 x22 x19) x21 (.inr (ixO_spec hx23).2) rfl rfl rfl rfl rfl rfl (fun _ => rfl) rfl) (OkD.nil (by kernel_rfl) (Ok.region (OkOps.y (aI s10.1) (OkOps.y (aI (IntKind.i64.wrap (s10.1 - 1))) (OkOps.y (aI (IntKind.i64.wrap (s10.1 - 1))) (OkOps.nil ?_)))))))
  exact ⟨(IntKind.i64.wrap (s10.1 - 1), List.set (List.set s10.2 x22 x19) x23 x21), hr, (Conv.mk (tau []) ⟨⟨_, rfl, .inl rfl⟩, ⟨_, rfl, .inl rfl⟩, ⟨_, rfl, .inl rfl⟩, ⟨_, rfl, .inl rfl⟩, ⟨_, rfl, .inl rfl⟩, ⟨_, rfl, .inl rfl⟩, trivial⟩ ⟨rfl, rfl, rfl, trivial⟩ rfl rfl rfl rfl)⟩
  have hr := selF h17 hr
  refine Ok.exit ?_
  exact ⟨s10.2, hr, (Conv.mk (tau []) ⟨⟨_, rfl, .inl rfl⟩, ⟨_, rfl, .inl rfl⟩, ⟨_, rfl, .inl rfl⟩, ⟨_, rfl, .inl rfl⟩, ⟨_, rfl, .inl rfl⟩, trivial⟩ ⟨rfl, rfl, rfl, trivial⟩ rfl rfl rfl rfl)⟩
  have hr := selF h5 hr
  refine Ok.exit ?_
  exact ⟨s3.2, hr, (Conv.mk (tau []) trivial ⟨rfl, rfl, rfl, trivial⟩ rfl rfl rfl rfl)⟩
theorem slices_stableCmpFunc_int_c (data : (List Int)) (p_n : Int) (cmp_1 : Tree) {r : (List Int)} (hr : slices_stableCmpFunc_int data p_n cmp_1 = some r) : Con Tryd.prog 67 [.c (.own 0), aI p_n, .c (.fn 36 [(1, 0)])] [(0, .vec 1 (List.map (eInt .i64) data)), (1, .blk [.fn 32 [(2, 0)]] 43), (2, .blk [cI cmp_1.Root, cI cmp_1.Next, .d (.sl (List.map Node.cs cmp_1.Nodes))] 46)] (.tup []) [(0, .vec 1 (List.map (eInt .i64) r)), (1, .blk [.fn 32 [(2, 0)]] 43), (2, .blk [cI cmp_1.Root, cI cmp_1.Next, .d (.sl (List.map Node.cs cmp_1.Nodes))] 46)] := by
  unfold slices_stableCmpFunc_int at hr
  refine Con.of_ok 63 0 [] [(0, .s (.c (.own 0))), (1, .s (aI p_n)), (2, .s (.c (.fn 36 [(1, 0)])))] Tryd.func67 rfl rfl rfl rfl rfl rfl rfl rfl fun w g M ρ _ => (Ok.seq (Ok.region (OkOps.y (aI 20) (OkOps.nil (Ok.seq (Ok.region (OkOps.y (aI 20) (OkOps.y (aI 0) (OkOps.y (aI 20) (OkOps.nil ?_))))))))))
  obtain ⟨k2, hk2, hr⟩ := jn_some hr
  refine Ok.join (fun (s1 : Int × (List Int)) => ⟨[(0, .s (.c (.own 0))), (1, .s (aI p_n)), (2, .s (.c (.fn 36 [(1, 0)]))), (6, .s (aI 20)), (7, .s (aI s1.1))], [(0, .vec 1 (List.map (eInt .i64) s1.2)), (1, .blk [.fn 32 [(2, 0)]] 43), (2, .blk [cI cmp_1.Root, cI cmp_1.Next, .d (.sl (List.map Node.cs cmp_1.Nodes))] 46)], 0⟩) k2 r (fun s1 hr => ?_) ?_
  rw [hk2] at hr
  refine Ok.seq (Ok.region (OkOps.y (.c (.own 0)) (OkOps.y (aI s1.1) (OkOps.y (aI p_n) (OkOps.y (.c (.fn 36 [(1, 0)])) ?_)))))
  obtain ⟨x3, hx3, hr⟩ := bind_some hr
  refine OkOps.m3 0 (triCl (tau [(0, 0), (1, 1), (2, 2)]) (.tup []) [(0, .vec 1 (List.map (eInt .i64) x3)), (1, .blk [.fn 32 [(2, 0)]] 43), (2, .blk [cI cmp_1.Root, cI cmp_1.Next, .d (.sl (List.map Node.cs cmp_1.Nodes))] 46)] (slices_insertionSortCmpFunc_int_c _ _ _ _ hx3) rfl ⟨.inl rfl, .inl rfl, .inl rfl, .inl rfl, trivial⟩ trivial entry90 ⟨rfl, rfl, rfl, trivial⟩) (OkOps.nil ?_)
  obtain ⟨k5, hk5, hr⟩ := jn_some hr
  refine Ok.joinEnd (fun (s4 : Unit) => ⟨[], [(0, .vec 1 (List.map (eInt .i64) x3)), (1, .blk [.fn 32 [(2, 0)]] 43), (2, .blk [cI cmp_1.Root, cI cmp_1.Next, .d (.sl (List.map Node.cs cmp_1.Nodes))] 46)], 0⟩) k5 r (fun s4 hr => ?_) ?_
  rw [hk5] at hr
  obtain rfl := Option.some.inj hr
  exact ⟨_, rfl, .inl rfl, ⟨rfl, rfl, rfl, trivial⟩⟩
  clear hk5
  refine Ok.block (Ok.loopK (fun (s6 : Int) => ⟨[(0, .s (.c (.own 0))), (1, .s (aI p_n)), (2, .s (.c (.fn 36 [(1, 0)]))), (6, .s (aI s6))], [(0, .vec 1 (List.map (eInt .i64) x3)), (1, .blk [.fn 32 [(2, 0)]] 43), (2, .blk [cI cmp_1.Root, cI cmp_1.Next, .d (.sl (List.map Node.cs cmp_1.Nodes))] 46)], 0⟩) hr (Conv.mk (tau []) ⟨⟨_, rfl, .inl rfl⟩, ⟨_, rfl, .inl rfl⟩, ⟨_, rfl, .inl rfl⟩, ⟨_, rfl, .inl rfl⟩, trivial⟩ ⟨rfl, rfl, rfl, trivial⟩ rfl rfl rfl rfl) ?_)
  clear hr
  intro again7 s6 hr
  unfold slices_stableCmpFunc_int_L2 at hr
  refine Ok.seq (Ok.seq (Ok.region (OkOps.y (aI s6) (OkOps.y (aI p_n) (OkOps.y (aB (decide (s6 < p_n))) (OkOps.nil ?_))))))
  refine Ok.cond (b := decide (s6 < p_n)) rfl (fun h8 => ?_) (fun h8 => ?_)
  have hr := selT h8 hr
  refine Ok.skip ?_
  obtain ⟨k10, hk10, hr⟩ := jn_some hr
  refine Ok.joinEnd (fun (s9 : Unit) => ⟨[(0, .s (.c (.own 0))), (1, .s (aI p_n)), (2, .s (.c (.fn 36 [(1, 0)]))), (6, .s (aI (IntKind.i64.wrap (s6 * 2))))], [(0, .vec 1 (List.map (eInt .i64) x3)), (1, .blk [.fn 32 [(2, 0)]] 43), (2, .blk [cI cmp_1.Root, cI cmp_1.Next, .d (.sl (List.map Node.cs cmp_1.Nodes))] 46)], 0⟩) k10 r (fun s9 hr => ?_) ?_
  rw [hk10] at hr
  exact ⟨IntKind.i64.wrap (s6 * 2), hr, (Conv.mk (tau []) ⟨⟨_, rfl, .inl rfl⟩, ⟨_, rfl, .inl rfl⟩, ⟨_, rfl, .inl rfl⟩, ⟨_, rfl, .inl rfl⟩, trivial⟩ ⟨rfl, rfl, rfl, trivial⟩ rfl rfl rfl rfl)⟩
  clear hk10
  refine Ok.block (Ok.seq (Ok.region (OkOps.y (aI s6) (OkOps.y (aI (IntKind.i64.wrap (2 * s6))) (OkOps.y (aI 0) (OkOps.y (aI (IntKind.i64.wrap (2 * s6))) (OkOps.nil ?_)))))))
  obtain ⟨k12, hk12, hr⟩ := jn_some hr
  refine Ok.join (fun (s11 : Unit) => ⟨[(0, .s (.c (.own 0))), (1, .s (aI p_n)), (2, .s (.c (.fn 36 [(1, 0)]))), (6, .s (aI s6)), (7, .s (aI 0))], [(0, .vec 1 (List.map (eInt .i64) x3)), (1, .blk [.fn 32 [(2, 0)]] 43), (2, .blk [cI cmp_1.Root, cI cmp_1.Next, .d (.sl (List.map Node.cs cmp_1.Nodes))] 46)], 0⟩) k12 r (fun s11 hr => ?_) ?_
  rw [hk12] at hr
  obtain ⟨k14, hk14, hr⟩ := jn_some hr
  refine Ok.join (fun (s13 : Unit) => ⟨[(0, .s (.c (.own 0))), (1, .s (aI p_n)), (2, .s (.c (.fn 36 [(1, 0)]))), (6, .s (aI s6))], [(0, .vec 1 (List.map (eInt .i64) x3)), (1, .blk [.fn 32 [(2, 0)]] 43), (2, .blk [cI cmp_1.Root, cI cmp_1.Next, .d (.sl (List.map Node.cs cmp_1.Nodes))] 46)], 0⟩) k14 r (fun s13 hr => ?_) ?_
  rw [hk14] at hr
  refine Ok.region (OkOps.y (aI s6) (OkOps.y (aI (IntKind.i64.wrap (s6 * 2))) (OkOps.y (aI (IntKind.i64.wrap (s6 * 2))) (OkOps.nil ?_))))
  exact ⟨(), hr, (Conv.mk (tau []) ⟨⟨_, rfl, .inl rfl⟩, ⟨_, rfl, .inl rfl⟩, ⟨_, rfl, .inl rfl⟩, ⟨_, rfl, .inl rfl⟩, trivial⟩ ⟨rfl, rfl, rfl, trivial⟩ rfl rfl rfl rfl)⟩
  clear hk14
  refine Ok.seq (Ok.region (OkOps.y (aI 0) (OkOps.y (aI s6) (OkOps.y (aI (IntKind.i64.wrap (0 + s6))) (OkOps.y (aI (IntKind.i64.wrap (0 + s6))) (OkOps.nil (Ok.seq (Ok.region (OkOps.y (aI (IntKind.i64.wrap (0 + s6))) (OkOps.y (aI p_n) (OkOps.y (aB (decide ((IntKind.i64.wrap (0 + s6)) < p_n))) (OkOps.nil ?_))))))))))))
  refine Ok.cond (b := decide ((IntKind.i64.wrap (0 + s6)) < p_n)) rfl (fun h15 => ?_) (fun h15 => ?_)
  have hr := selT h15 hr
  refine Ok.region (OkOps.y (.c (.own 0)) (OkOps.y (aI 0) (OkOps.y (aI (IntKind.i64.wrap (0 + s6))) (OkOps.y (aI p_n) (OkOps.y (.c (.fn 36 [(1, 0)])) ?_)))))
  cases hr
  have hr := selF h15 hr
  refine Ok.skip ?_
  exact ⟨(), hr, (Conv.mk (tau []) ⟨⟨_, rfl, .inl rfl⟩, ⟨_, rfl, .inl rfl⟩, ⟨_, rfl, .inl rfl⟩, ⟨_, rfl, .inl rfl⟩, trivial⟩ ⟨rfl, rfl, rfl, trivial⟩ rfl rfl rfl rfl)⟩
  clear hk12
  refine Ok.block (Ok.loopK (fun (s16 : Unit) => ⟨[(0, .s (.c (.own 0))), (1, .s (aI p_n)), (2, .s (.c (.fn 36 [(1, 0)]))), (6, .s (aI s6)), (7, .s (aI 0)), (8, .s (aI (IntKind.i64.wrap (2 * s6))))], [(0, .vec 1 (List.map (eInt .i64) x3)), (1, .blk [.fn 32 [(2, 0)]] 43), (2, .blk [cI cmp_1.Root, cI cmp_1.Next, .d (.sl (List.map Node.cs cmp_1.Nodes))] 46)], 0⟩) hr (Conv.mk (tau []) ⟨⟨_, rfl, .inl rfl⟩, ⟨_, rfl, .inl rfl⟩, ⟨_, rfl, .inl rfl⟩, ⟨_, rfl, .inl rfl⟩, ⟨_, rfl, .inl rfl⟩, ⟨_, rfl, .inl rfl⟩, trivial⟩ ⟨rfl, rfl, rfl, trivial⟩ rfl rfl rfl rfl) ?_)
  clear hr
  intro again17 s16 hr
  unfold slices_stableCmpFunc_int_L1 at hr
  refine Ok.seq (Ok.seq (Ok.region (OkOps.y (aI (IntKind.i64.wrap (2 * s6))) (OkOps.y (aI p_n) (OkOps.y (aB (decide ((IntKind.i64.wrap (2 * s6)) ≤ p_n))) (OkOps.nil ?_))))))
  refine Ok.cond (b := decide ((IntKind.i64.wrap (2 * s6)) ≤ p_n)) rfl (fun h18 => ?_) (fun h18 => ?_)
  have hr := selT h18 hr
  refine Ok.skip (Ok.block (Ok.seq (Ok.region (OkOps.y (.c (.own 0)) (OkOps.y (aI 0) (OkOps.y (aI 0) (OkOps.y (aI s6) (OkOps.y (aI (IntKind.i64.wrap (0 + s6))) (OkOps.y (aI (IntKind.i64.wrap (2 * s6))) (OkOps.y (.c (.fn 36 [(1, 0)])) ?_))))))))))
  cases hr
  have hr := selF h18 hr
  refine Ok.exit ?_
  exact ⟨(), hr, (Conv.mk (tau []) ⟨⟨_, rfl, .inl rfl⟩, ⟨_, rfl, .inl rfl⟩, ⟨_, rfl, .inl rfl⟩, ⟨_, rfl, .inl rfl⟩, ⟨_, rfl, .inl rfl⟩, trivial⟩ ⟨rfl, rfl, rfl, trivial⟩ rfl rfl rfl rfl)⟩
  have hr := selF h8 hr
  refine Ok.exit ?_
  exact ⟨(), hr, (Conv.mk (tau []) trivial ⟨rfl, rfl, rfl, trivial⟩ rfl rfl rfl rfl)⟩
  clear hk2
  refine Ok.block (Ok.loopK (fun (s19 : Int × Int × (List Int)) => ⟨[(0, .s (.c (.own 0))), (1, .s (aI p_n)), (2, .s (.c (.fn 36 [(1, 0)]))), (6, .s (aI 20)), (7, .s (aI s19.1)), (8, .s (aI s19.2.1))], [(0, .vec 1 (List.map (eInt .i64) s19.2.2)), (1, .blk [.fn 32 [(2, 0)]] 43), (2, .blk [cI cmp_1.Root, cI cmp_1.Next, .d (.sl (List.map Node.cs cmp_1.Nodes))] 46)], 0⟩) hr (Conv.mk (tau []) ⟨⟨_, rfl, .inl rfl⟩, ⟨_, rfl, .inl rfl⟩, ⟨_, rfl, .inl rfl⟩, ⟨_, rfl, .inl rfl⟩, ⟨_, rfl, .inl rfl⟩, ⟨_, rfl, .inl rfl⟩, trivial⟩ ⟨rfl, rfl, rfl, trivial⟩ rfl rfl rfl rfl) ?_)
  clear hr
  intro again20 s19 hr
  unfold slices_stableCmpFunc_int_L3 at hr
  refine Ok.seq (Ok.seq (Ok.region (OkOps.y (aI s19.2.1) (OkOps.y (aI p_n) (OkOps.y (aB (decide (s19.2.1 ≤ p_n))) (OkOps.nil ?_))))))
  refine Ok.cond (b := decide (s19.2.1 ≤ p_n)) rfl (fun h21 => ?_) (fun h21 => ?_)
  have hr := selT h21 hr
  refine Ok.skip (Ok.block (Ok.seq (Ok.region (OkOps.y (.c (.own 0)) (OkOps.y (aI s19.1) (OkOps.y (aI s19.2.1) (OkOps.y (.c (.fn 36 [(1, 0)])) ?_)))))))
  obtain ⟨x22, hx22, hr⟩ := bind_some hr
  refine OkOps.m3 0 (triCl (tau [(0, 0), (1, 1), (2, 2)]) (.tup []) [(0, .vec 1 (List.map (eInt .i64) x22)), (1, .blk [.fn 32 [(2, 0)]] 43), (2, .blk [cI cmp_1.Root, cI cmp_1.Next, .d (.sl (List.map Node.cs cmp_1.Nodes))] 46)] (slices_insertionSortCmpFunc_int_c _ _ _ _ hx22) rfl ⟨.inl rfl, .inl rfl, .inl rfl, .inl rfl, trivial⟩ trivial entry90 ⟨rfl, rfl, rfl, trivial⟩) (OkOps.nil (Ok.seq (Ok.region (OkOps.y (aI s19.2.1) (OkOps.y (aI s19.2.1) (OkOps.nil (Ok.region (OkOps.y (aI s19.2.1) (OkOps.y (aI 20) (OkOps.y (aI (IntKind.i64.wrap (s19.2.1 + 20))) (OkOps.y (aI (IntKind.i64.wrap (s19.2.1 + 20))) (OkOps.nil ?_))))))))))))
  exact ⟨(s19.2.1, IntKind.i64.wrap (s19.2.1 + 20), x22), hr, (Conv.mk (tau []) ⟨⟨_, rfl, .inl rfl⟩, ⟨_, rfl, .inl rfl⟩, ⟨_, rfl, .inl rfl⟩, ⟨_, rfl, .inl rfl⟩, ⟨_, rfl, .inl rfl⟩, ⟨_, rfl, .inl rfl⟩, trivial⟩ ⟨rfl, rfl, rfl, trivial⟩ rfl rfl rfl rfl)⟩
  have hr := selF h21 hr
  refine Ok.exit ?_
  exact ⟨(s19.1, s19.2.2), hr, (Conv.mk (tau []) ⟨⟨_, rfl, .inl rfl⟩, ⟨_, rfl, .inl rfl⟩, ⟨_, rfl, .inl rfl⟩, ⟨_, rfl, .inl rfl⟩, ⟨_, rfl, .inl rfl⟩, trivial⟩ ⟨rfl, rfl, rfl, trivial⟩ rfl rfl rfl rfl)⟩
theorem slices_SortStableFunc_Sl_int_int_c (p_x : (List Int)) (cmp_1 : Tree) {r : (List Int)} (hr : slices_SortStableFunc_Sl_int_int p_x cmp_1 = some r) : Con Tryd.prog 35 [.c (.own 0), .c (.fn 36 [(1, 0)])] [(0, .vec 1 (List.map (eInt .i64) p_x)), (1, .blk [.fn 32 [(2, 0)]] 43), (2, .blk [cI cmp_1.Root, cI cmp_1.Next, .d (.sl (List.map Node.cs cmp_1.Nodes))] 46)] (.tup []) [(0, .vec 1 (List.map (eInt .i64) r)), (1, .blk [.fn 32 [(2, 0)]] 43), (2, .blk [cI cmp_1.Root, cI cmp_1.Next, .d (.sl (List.map Node.cs cmp_1.Nodes))] 46)] := by
  unfold slices_SortStableFunc_Sl_int_int at hr
  refine Con.of_ok 9 0 [] [(0, .s (.c (.own 0))), (1, .s (.c (.fn 36 [(1, 0)])))] Tryd.func35 rfl rfl rfl rfl rfl rfl rfl rfl fun w g M ρ _ => (Ok.region (OkOps.y (.c (.own 0)) (OkOps.y (.c (.own 0)) (OkOps.q (triLenV (enc := (eInt .i64)) p_x rfl rfl rfl rfl) (OkOps.y (.c (.fn 36 [(1, 0)])) ?_)))))
  obtain ⟨x1, hx1, hr⟩ := bind_some hr
  refine OkOps.m3 0 (triCl (tau [(0, 0), (1, 1), (2, 2)]) (.tup []) [(0, .vec 1 (List.map (eInt .i64) x1)), (1, .blk [.fn 32 [(2, 0)]] 43), (2, .blk [cI cmp_1.Root, cI cmp_1.Next, .d (.sl (List.map Node.cs cmp_1.Nodes))] 46)] (slices_stableCmpFunc_int_c _ _ _ hx1) rfl ⟨.inl rfl, .inl rfl, .inl rfl, trivial⟩ trivial entry67 ⟨rfl, rfl, rfl, trivial⟩) (OkOps.nil ?_)
  obtain rfl := Option.some.inj hr
  exact ⟨_, rfl, .inl rfl, ⟨rfl, rfl, rfl, trivial⟩⟩
theorem fo_Order_c (t : Tree) (st : (List Styled)) {r : (List Int)} (hr : fo_Order t st = some r) : Con Tryd.prog 16 [.agg [cI t.Root, cI t.Next, .d (.sl (List.map Node.cs t.Nodes))], .c (.d (.sl (List.map Styled.cs st)))] [] (.s (.c (.d (.sl (List.map (eInt .i64) r))))) [] := by
  unfold fo_Order at hr
  refine Con.of_ok 15 0 [.tmp 4] [(0, .s (.agg [cI t.Root, cI t.Next, .d (.sl (List.map Node.cs t.Nodes))])), (1, .s (.c (.d (.sl (List.map Styled.cs st)))))] Tryd.func16 rfl rfl rfl rfl rfl rfl rfl rfl fun w g M ρ _ => (Ok.seq (Ok.region (OkOps.m 0 (triBox (j := 0) (cs := [cI t.Root, cI t.Next, .d (.sl (List.map Node.cs t.Nodes))]) rfl rfl rfl rfl rfl) (OkOps.y (.c (.d (.v (.slice none 0 0)))) (OkOps.nil (Ok.seq (Ok.region (OkOps.y (.agg [cI t.Root, cI t.Next, .d (.sl (List.map Node.cs t.Nodes))]) (OkOps.y (.c (.d (.sl (List.map Styled.cs st)))) ?_)))))))))
  obtain ⟨x1, hx1, hr⟩ := bind_some hr
  refine OkOps.m 0 (triCall (tau [(2000, 1)]) (.s (.c (.own 1))) [(1, .vec 1 (List.map (eInt .i64) x1))] (fo_Candidates_c _ _ hx1) rfl ⟨.inl rfl, .inl rfl, trivial⟩ trivial entry31 trivial rfl rfl rfl rfl ⟨rfl, trivial⟩ rfl rfl rfl) (OkOps.y (.c (.own 1)) (OkOps.nil (Ok.seq (Ok.region (OkOps.q (triMkF [(0, 0)] rfl trivial rfl) (OkOps.m 0 (triAlloc (j := 2) (cs := [.d (.v .nilFunc)]) rfl rfl rfl rfl) (OkOps.w (triStore (cs' := [.fn 32 [(0, 0)]]) rfl rfl rfl rfl rfl rfl rfl rfl rfl) (OkOps.nil (Ok.seq (Ok.region (OkOps.y (.c (.own 1)) (OkOps.q (triMkF [(2, 0)] rfl trivial rfl) ?_))))))))))))
  obtain ⟨x2, hx2, hr⟩ := bind_some hr
  refine OkOps.m3 0 (triCl (tau [(0, 1), (1, 2), (2, 0)]) (.tup []) [(1, .vec 1 (List.map (eInt .i64) x2)), (2, .blk [.fn 32 [(0, 0)]] 43), (0, .blk [cI t.Root, cI t.Next, .d (.sl (List.map Node.cs t.Nodes))] 46)] (slices_SortStableFunc_Sl_int_int_c _ _ hx2) rfl ⟨.inl rfl, .inl rfl, trivial⟩ trivial entry35 ⟨rfl, rfl, rfl, trivial⟩) (OkOps.nil (Ok.seq (Ok.region (OkOps.y (.c (.own 1)) (OkOps.y (.c (.own 1)) (OkOps.nil (Ok.conv (Conv.freeze (enc := (eInt .i64)) (L := x2) [4, 5, 9, 11, 14] 1 3 1 0 ⟨rfl, rfl, rfl, rfl, rfl, trivial⟩ rfl (fun _ => rfl) rfl) (Ok.ret ?_))))))))
  obtain rfl := Option.some.inj hr
  exact ⟨_, rfl, .inr rfl, trivial⟩
end Go.Proofs.YtfoigppmcelgfaaDoor
end

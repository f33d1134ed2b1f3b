/-
  Maps: made, looked up, written, counted, given up.
-/
import Derived.Test.YtcfegecdlbbeaaaDoorXw
namespace Go.E2
variable {P : Program} {C : Ctx} {F : FS} {ops : Array Oper} {dst : Nat} {op : Op} {ty : TypeId} {pos : String} {after : Array Edge}

/-! ### plain -/
section plain
variable {K V : Type} [BEq K]
def midx : List (K × V) → K → Option Nat
  | [], _ => none
  | (a, _) :: r, k => match k == a with
    | true => some 0
    | false => (midx r k).map (· + 1)
def mget1 : List (K × V) → K → Option V
  | [], _ => none
  | (a, v) :: r, k => match k == a with
    | true => some v
    | false => mget1 r k
/-- the value of a key, and whether there is one -/
def mgetO (L : List (K × V)) (k : K) (z : V) : Option (V × Bool) := some (match mget1 L k with
  | some v => (v, true)
  | none => (z, false))
def msetL : List (K × V) → K → V → List (K × V)
  | [], k, v => [(k, v)]
  | (a, u) :: r, k, v => match k == a with
    | true => (k, v) :: r
    | false => (a, u) :: msetL r k v
theorem midx_spec : ∀ {L : List (K × V)} {k : K} {n : Nat}, midx L k = some n → ∃ p, L[n]? = some p ∧ (k == p.1) = true
  | [], k, n, h => by cases h
  | (a, v) :: r, k, n, h => by
    unfold midx at h
    cases hk : (k == a) with
    | true => rw [hk] at h; cases h; exact ⟨(a, v), rfl, hk⟩
    | false =>
      rw [hk] at h
      simp only [Option.map_eq_some_iff] at h
      obtain ⟨m, hm, rfl⟩ := h
      obtain ⟨p, h1, h2⟩ := midx_spec hm
      exact ⟨p, by simpa using h1, h2⟩
theorem mget1_eq : ∀ (L : List (K × V)) (k : K), mget1 L k = (midx L k).bind fun n => (L[n]?).map (·.2)
  | [], _ => rfl
  | (a, v) :: r, k => by
    unfold mget1 midx
    cases hk : (k == a) with
    | true => rfl
    | false =>
      simp only
      rw [mget1_eq r k]
      cases midx r k with
      | none => rfl
      | some n => simp
theorem mgetO_eq (L : List (K × V)) (k : K) (z : V) : mgetO L k z = match midx L k with
    | none => some (z, false)
    | some n => match L[n]? with
      | some p => some (p.2, true)
      | none => none := by
  unfold mgetO
  rw [mget1_eq]
  cases h : midx L k with
  | none => rfl
  | some n =>
    obtain ⟨p, hp, _⟩ := midx_spec h
    simp [hp]
theorem msetL_eq : ∀ (L : List (K × V)) (k : K) (v : V), msetL L k v = match midx L k with
    | none => L ++ [(k, v)]
    | some n => L.set n (k, v)
  | [], _, _ => rfl
  | (a, u) :: r, k, v => by
    unfold msetL midx
    cases hk : (k == a) with
    | true => rfl
    | false =>
      simp only
      rw [msetL_eq r k v]
      cases midx r k with
      | none => rfl
      | some n => rfl
end plain
theorem under_run {t : TypeId} {d : TypeDesc} (h : P.underlying t = some d) (w : World) : (underlying t).run P w = .ok d w := by
  simp [underlying, program, Sem.run, h]
/-- keys that are compared at once -/
structure KeyOk (P : Program) (kt : TypeId) {K : Type} [BEq K] (ek : K → Value) : Prop where
  law : ∀ a b : K, (a == b) = true → a = b
  d : ∃ d, P.underlying kt = some d ∧ (∀ a b, Instr.sameNow d (ek a) (ek b) = some (a == b)) ∧ ∀ e a w, (Instr.checkKey e 10000 kt (ek a)).run P w = .ok () w
  bits : ∀ a b, (a == b) = true → Instr.sameBits 10000 (ek a) (ek b) = true
def kInt (k : IntKind) (a : Int) : Value := .int k a
def kStr (a : Str) : Value := .string a
theorem keyInt {kt : TypeId} {k : IntKind} (h : P.underlying kt = some (.int k)) : KeyOk P kt (kInt k) := by
  refine ⟨fun a b h => by simpa using h, ⟨_, h, fun a b => by simp [Instr.sameNow, kInt], fun e a w => ?_⟩, fun a b hab => by simp [kInt, Instr.sameBits]; simpa using hab⟩
  unfold Instr.checkKey
  rw [run_bind_ok (under_run h w)]
  rfl
theorem keyStr {kt : TypeId} (h : P.underlying kt = some .string) : KeyOk P kt kStr := by
  refine ⟨fun a b h => by
      obtain ⟨a⟩ := a
      obtain ⟨b⟩ := b
      have h' : (a == b) = true := h
      rw [eq_of_beq h'], ⟨_, h, fun a b => by simp [Instr.sameNow, kStr], fun e a w => ?_⟩, fun a b hab => by simp [kStr, Instr.sameBits]; simpa using hab⟩
  unfold Instr.checkKey
  rw [run_bind_ok (under_run h w)]
  rfl
def rowA (agg : Bool) (row : List D) : A1 := match agg with
  | true => .agg (dcells row)
  | false => match row with
    | d :: _ => .c (.d d)
    | [] => .agg []
def encM {K V : Type} (ek : K → Value) (ev : V → List D) (L : List (K × V)) : List (Value × List D) := L.map fun p => (ek p.1, ev p.2)
theorem encM_get {K V : Type} {ek : K → Value} {ev : V → List D} {L : List (K × V)} {i : Nat} {a : K} {v : V} (h : L[i]? = some (a, v)) : (encM ek ev L)[i]? = some (ek a, ev v) := by
  unfold encM; rw [List.getElem?_map, h]; rfl
theorem encM_inv {K V : Type} {ek : K → Value} {ev : V → List D} {L : List (K × V)} {i : Nat} {a : Value} {v : List D} (h : (encM ek ev L)[i]? = some (a, v)) : ∃ p, L[i]? = some p ∧ a = ek p.1 ∧ v = ev p.2 := by
  unfold encM at h
  rw [List.getElem?_map] at h
  cases hl : L[i]? with
  | none => rw [hl] at h; cases h
  | some p => rw [hl] at h; cases h; exact ⟨p, rfl, rfl, rfl⟩
/-- what a map's value says of memory -/
def MpAt (M : Mem) (w : World) (agg : Bool) (l : List (Value × List D)) (v : Value) : Prop :=
  (v = .map none ∧ l = []) ∨ ∃ (r : Nat) (es : Array MapEntry) (clock : Nat) (f : Nat → Nat → Value), v = .map (some r) ∧ w.heap[r]? = some (.map es clock) ∧ es.size = l.length ∧ (∀ (i : Nat) k row, l[i]? = some (k, row) → ∃ born, es[i]? = some ⟨k, mkVal agg row.length (f i), born⟩) ∧
      (∀ (i : Nat) k row (j : Nat) d, l[i]? = some (k, row) → row[j]? = some d → Rep M d (f i j))
def mpOf (F : FS) (x : Operand) : Option (Bool × List (Value × List D)) :=
  match rd F x with
  | some (.c (.own j)) => match F.bl j with
    | some (.mp agg l) => some (agg, l)
    | _ => none
  | some (.c (.d (.mp agg l))) => some (agg, l)
  | _ => none
def mpBlk (F : FS) (x : Operand) : List Nat :=
  match rd F x with
  | some (.c (.own j)) => [j]
  | _ => []
theorem mpOf_same {F' : FS} {x : Operand} (h : opnd F' x = opnd F x) (hb : ∀ j ∈ mpBlk F x, F'.bl j = F.bl j) : mpOf F' x = mpOf F x := by
  unfold mpOf
  rw [rd_same h]
  unfold mpBlk at hb
  split
  · rename_i j hj
    rw [hj] at hb
    rw [hb j (by simp)]
  · rfl
  · rfl
theorem mpOf_at {ρ : Env} {M : Mem} {a : Act} {w : World} (hr : Rel0 C F ρ M a w) {xs : List Operand} (hR : Reads F a ρ M xs) {x : Operand} (hx : x ∈ xs) {agg : Bool} {l : List (Value × List D)} (h : mpOf F x = some (agg, l)) : MpAt M w agg l (a.eval x) := by
  unfold mpOf at h
  split at h
  · rename_i j hj
    split at h
    · rename_i g l' hb
      cases h
      have e : a.eval x = ρ j := hR x hx _ hj
      obtain ⟨r, es, clock, f, e1, h1, h2, h3, h4, h5⟩ := hr.heap.inv j _ hb
      exact .inr ⟨r, es, clock, f, e.trans e1, h1, h3, h4, h5⟩
    · cases h
  · rename_i g l' hx'
    cases h
    have e : Rep M (.mp agg l) (a.eval x) := hR x hx _ hx'
    generalize a.eval x = v at e
    cases e with
    | mp0 => exact .inl ⟨rfl, rfl⟩
    | @mp _ _ r clock es f ho hs hk he => exact .inr ⟨r, es, clock, f, rfl, (hr.heap.mem.obj _ _ ho).1, hs, hk, he⟩
  · cases h

/-! ### looking up -/
theorem findNow_spec {K V : Type} [BEq K] {ek : K → Value} {d : TypeDesc} (hd : ∀ a b, Instr.sameNow d (ek a) (ek b) = some (a == b)) (k : K) : ∀ (L : List (K × V)) (es : List MapEntry) (i : Nat), es.length = L.length → (∀ (n : Nat) p, L[n]? = some p → ∃ e, es[n]? = some e ∧ e.key = ek p.1) →
    Instr.findNow d (ek k) es i = some ((midx L k).bind fun n => (es[n]?).map fun e => (i + n, e.val))
  | [], [], i, _, _ => rfl
  | [], _ :: _, i, h, _ => by simp at h
  | _ :: _, [], i, h, _ => by simp at h
  | (a, v) :: r, e :: es, i, h, he => by
    obtain ⟨e', h1, h2⟩ := he 0 (a, v) rfl
    simp at h1
    subst h1
    unfold Instr.findNow midx
    rw [h2, hd]
    cases hk : (k == a) with
    | true => simp
    | false =>
      simp only
      rw [findNow_spec hd k r es (i + 1) (by simpa using h) (fun n p hp => by simpa using he (n + 1) p (by simpa using hp))]
      cases midx r k with
      | none => rfl
      | some n => simp; congr 1; funext e; congr 1; omega
theorem findKey_run {K V : Type} [BEq K] {kt : TypeId} {ek : K → Value} (hk : KeyOk P kt ek) {L : List (K × V)} {es : Array MapEntry} (hs : es.size = L.length) (he : ∀ (n : Nat) p, L[n]? = some p → ∃ e, es[n]? = some e ∧ e.key = ek p.1) (k : K) (w : World) :
    (Instr.findKey kt (ek k) es.toList).run P w = .ok ((midx L k).bind fun n => (es[n]?).map fun e => (n, e.val)) w := by
  obtain ⟨d, hu, h1, _⟩ := hk.d
  unfold Instr.findKey
  rw [run_bind_ok (under_run hu w), findNow_spec h1 k L es.toList 0 (by simpa using hs) (fun n p hp => by simpa using he n p hp)]
  simp only [Nat.zero_add, Array.getElem?_toList]
  rfl
def mapInfo (P : Program) (t : TypeId) : Option (TypeId × TypeId) := match P.underlying t with
  | some (.map k e) => some (k, e)
  | _ => none
theorem mapInfo_run {t k e : TypeId} (h : mapInfo P t = some (k, e)) (w : World) : (underlying t).run P w = .ok (.map k e) w := by
  unfold mapInfo at h
  split at h
  · rename_i hu; cases h; exact under_run hu w
  · cases h
def zeroA (P : Program) (t : TypeId) : Option A1 :=
  match P.info? t with
  | some i => match i.zero with
    | some (.agg cs) => some (.agg (cs.toList.map zcell))
    | some v => some (.c (zcell v))
    | none => none
  | none => none
theorem zeroA_run {t : TypeId} {x : A1} (h : zeroA P t = some x) (w : World) : ∃ v, (zeroValue t).run P w = .ok v w ∧ ∀ ρ M, x.rep ρ M v := by
  unfold zeroA at h
  split at h
  · rename_i i hi
    split at h
    · rename_i cs hz
      cases h
      exact ⟨.agg cs, by simp [zeroValue, typeInfo, program, Sem.bind, Sem.run, hi, hz, bind, pure], fun ρ M => ⟨cs, rfl, Reps.zero cs.toList⟩⟩
    · rename_i v hne hz
      cases h
      exact ⟨v, by simp [zeroValue, typeInfo, program, Sem.bind, Sem.run, hi, hz, bind, pure], fun ρ M => zcell_rep ρ M v⟩
    · cases h
  · cases h
theorem dcells_rep {ρ : Env} {M : Mem} : ∀ {row : List D} {vs : List Value}, RepsD M row vs → Reps ρ M (dcells row) vs
  | [], [], _ => trivial
  | _ :: _, _ :: _, h => ⟨h.1, dcells_rep h.2⟩
  | [], _ :: _, h => h.elim
  | _ :: _, [], h => h.elim
theorem repsD_of {M : Mem} (f : Nat → Value) : ∀ (row : List D) (o : Nat), (∀ (j : Nat) d, row[j]? = some d → Rep M d (f (o + j))) → RepsD M row ((List.range' o row.length).map f)
  | [], _, _ => trivial
  | d :: r, o, h => by
    simp only [List.length_cons, List.range'_succ, List.map_cons]
    exact ⟨by simpa using h 0 d rfl, repsD_of f r (o + 1) (fun j d' hj => by
      have := h (j + 1) d' (by simpa using hj)
      rw [show o + 1 + j = o + (j + 1) by omega]; exact this)⟩
theorem rowA_rep {ρ : Env} {M : Mem} {agg : Bool} {row : List D} {f : Nat → Value} (h1 : agg = false → row.length = 1) (h : ∀ (j : Nat) d, row[j]? = some d → Rep M d (f j)) : (rowA agg row).rep ρ M (mkVal agg row.length f) := by
  cases agg with
  | true =>
    refine ⟨_, rfl, ?_⟩
    have := repsD_of f row 0 (fun j d hj => by simpa using h j d hj)
    rw [← List.range_eq_range'] at this
    simpa using dcells_rep this
  | false =>
    have := h1 rfl
    match row, this with
    | [d], _ => exact h 0 d rfl
theorem lookup_run {K V : Type} [BEq K] {t kt et : TypeId} {ek : K → Value} {ev : V → List D} {L : List (K × V)} {agg : Bool} {M : Mem} {w : World} {v : Value} {z0 : A1} {k : K} {zr y : V} {ok co : Bool}
    (hm : MpAt M w agg (encM ek ev L) v) (ht : mapInfo P t = some (kt, et)) (hk : KeyOk P kt ek) (hz : zeroA P et = some z0) (hzn : z0.norm = rowA agg (ev zr)) (h1 : agg = false → ∀ x, (ev x).length = 1) (hg : mgetO L k zr = some (y, ok)) :
    ∃ u, (Instr.lookup t v (ek k) co).run P w = .ok (if co then .tuple #[u, .bool ok] else u) w ∧ ∀ ρ, (rowA agg (ev y)).rep ρ M u := by
  obtain ⟨zv, z1, z2⟩ := zeroA_run hz w
  obtain ⟨d, hu, g1, g2⟩ := hk.d
  unfold Instr.lookup
  rw [run_bind_ok (mapInfo_run ht w)]
  rcases hm with ⟨rfl, hl⟩ | ⟨r, es, clock, f, rfl, q1, q2, q3, q4⟩
  · have hL : L = [] := by
      unfold encM at hl; simpa using hl
    subst hL
    cases hg
    refine ⟨zv, ?_, fun ρ => by rw [← hzn]; exact A1.norm_rep (z2 ρ M)⟩
    simp only [pure_bind]
    rw [run_bind_ok (g2 _ _ w), run_bind_ok (findKey_run (L := ([] : List (K × V))) (es := #[]) hk rfl (fun n p hp => by simp at hp) k w)]
    simp only [midx, Option.bind_none]
    rw [run_bind_ok z1]
    cases co <;> rfl
  · have hs : es.size = L.length := by rw [q2]; simp [encM]
    have he : ∀ (n : Nat) p, L[n]? = some p → ∃ e, es[n]? = some e ∧ e.key = ek p.1 := fun n p hp => by
      obtain ⟨born, hb⟩ := q3 n _ _ (encM_get (a := p.1) (v := p.2) hp)
      exact ⟨_, hb, rfl⟩
    have hgo : (getObj r).run P w = .ok (.map es clock) w := by simp [getObj, Sem.run, q1]
    simp only []
    rw [run_bind_ok hgo]
    simp only [pure_bind]
    rw [run_bind_ok (g2 _ _ w), run_bind_ok (findKey_run hk hs he k w)]
    rw [mgetO_eq] at hg
    cases hi : midx L k with
    | none =>
      rw [hi] at hg
      cases hg
      refine ⟨zv, ?_, fun ρ => by rw [← hzn]; exact A1.norm_rep (z2 ρ M)⟩
      simp only [Option.bind_none]
      rw [run_bind_ok z1]
      cases co <;> rfl
    | some n =>
      rw [hi] at hg
      obtain ⟨p, hp, _⟩ := midx_spec hi
      obtain ⟨born, hb⟩ := q3 n _ _ (encM_get (a := p.1) (v := p.2) hp)
      simp only [hp, Option.some.injEq, Prod.mk.injEq] at hg
      obtain ⟨rfl, rfl⟩ := hg
      refine ⟨mkVal agg (ev p.2).length (f n), ?_, fun ρ => rowA_rep (fun h => h1 h _) (fun j d hj => q4 n _ _ j d (encM_get (a := p.1) (v := p.2) hp) hj)⟩
      simp only [Option.bind_some, hb, Option.map_some]
      cases co <;> rfl
theorem Tri.quietV {o : Oper} {d : Nat} {x : AV} (hg : o.guard = none) (hd : o.dst = some d) (hn : Nat.blt d C.n = true) (hq : ∀ ρ M a w, Rel0 C F ρ M a w → ∃ u, (execOp a.eval o).run P w = .ok (.value u) w ∧ x.rep ρ M u) : Tri P C ops o F (F.upd [(d, x)] []) := by
  refine Tri.val [] hg hd hn (fun _ h => by cases h) (fun k hk => by rw [over_nil]; exact hk) (fun _ h => by cases h) (fun ρ M a w hr => ?_)
  obtain ⟨u, h1, _⟩ := hq ρ M a w hr
  refine ⟨u, w, M, fun _ => undef, h1, Mem.le_refl _, fun ρ' h0 _ => ?_⟩
  obtain ⟨u', h1', h2'⟩ := hq ρ' M a w h0
  have e : u = u' := by have := h1.symm.trans h1'; simpa using this
  subst e
  exact ⟨h2', by rw [over_nil]; exact h0.heap⟩
theorem triLook {K V : Type} [BEq K] {ek : K → Value} {ev : V → List D} {L : List (K × V)} {agg : Bool} {t kt et : TypeId} {x i : Operand} {z0 r : A1} {k : K} {zr : V} {yo : V × Bool} (hg : mgetO L k zr = some yo) (hx : mpOf F x = some (agg, encM ek ev L)) (hi : rdV F i = some (ek k)) (ht : mapInfo P t = some (kt, et)) (hk : KeyOk P kt ek) (hz : zeroA P et = some z0) (hzn : z0.norm = rowA agg (ev zr)) (h1 : agg = false → ∀ x, (ev x).length = 1) (hr : rowA agg (ev yo.1) = r) (hs : sideOk F true [x, i]) (hd : Nat.blt dst C.n = true) :
    TriL P C ops ⟨some dst, .lookup t x i false, ty, pos, after, none⟩ ⟨slotsOf [x, i], mpBlk F x, [dst], []⟩ [(dst, .s r)] [] F := by
  subst hr
  refine ⟨⟨rfl, rfl⟩, fun F' hS => ?_⟩
  have h2 := opnd_same hS.1
  refine Tri.quiet rfl rfl hd (fun ρ M a w hr => ?_)
  have hR := reads_of hr rfl (sideOk_same h2 hs)
  obtain ⟨u, q1, q2⟩ := lookup_run (P := P) (co := false) (mpOf_at hr hR (by simp) ((mpOf_same (h2 x (by simp)) hS.2).trans hx)) ht hk hz hzn h1 hg
  refine ⟨u, ?_, q2 ρ⟩
  unfold execOp
  simp only
  rw [rdV_eval hR (by simp) ((rdV_same (h2 i (by simp))).trans hi)]
  exact bind_value q1
theorem triLookG {K V : Type} [BEq K] {ek : K → Value} {ev : V → List D} {L : List (K × V)} {agg : Bool} {t kt et : TypeId} {x i : Operand} {z0 r : A1} {k : K} {zr : V} {yo : V × Bool} {gk : Nat} {want g : Bool} (hg : g = true → mgetO L k zr = some yo) (hb : guardB F ops gk want = some g) (hx : mpOf F x = some (agg, encM ek ev L)) (hi : rdV F i = some (ek k)) (ht : mapInfo P t = some (kt, et)) (hk : KeyOk P kt ek) (hz : zeroA P et = some z0) (hzn : z0.norm = rowA agg (ev zr)) (h1 : agg = false → ∀ x, (ev x).length = 1) (hr : rowA agg (ev yo.1) = r) (hs : sideOk F g [x, i]) (hd : Nat.blt dst C.n = true) :
    TriL P C ops ⟨some dst, .lookup t x i false, ty, pos, after, some (gk, want)⟩ ⟨gSlot ops gk ++ slotsOf [x, i], mpBlk F x, [dst], []⟩ [(dst, .gd g r)] [] F := by
  subst hr
  refine ⟨⟨rfl, rfl⟩, fun F' hS => ?_⟩
  have h2 := opnd_same (F := F) (F' := F') (xs := [x, i]) (fun t ht => hS.1 t (by simp [ht]))
  refine Tri.quietG rfl ((guardB_same (fun t ht => hS.1 t (by simp [ht]))).trans hb) rfl hd (fun hgt ρ M a w hr => ?_)
  have hR := reads_of hr hgt (sideOk_same h2 hs)
  obtain ⟨u, q1, q2⟩ := lookup_run (P := P) (co := false) (mpOf_at hr hR (by simp) ((mpOf_same (h2 x (by simp)) hS.2).trans hx)) ht hk hz hzn h1 (hg hgt)
  refine ⟨u, ?_, q2 ρ⟩
  unfold execOp
  simp only
  rw [rdV_eval hR (by simp) ((rdV_same (h2 i (by simp))).trans hi)]
  exact bind_value q1
theorem triLookT {K V : Type} [BEq K] {ek : K → Value} {ev : V → List D} {L : List (K × V)} {agg : Bool} {t kt et : TypeId} {x i : Operand} {z0 r : A1} {k : K} {zr : V} {yo : V × Bool} (hg : mgetO L k zr = some yo) (hx : mpOf F x = some (agg, encM ek ev L)) (hi : rdV F i = some (ek k)) (ht : mapInfo P t = some (kt, et)) (hk : KeyOk P kt ek) (hz : zeroA P et = some z0) (hzn : z0.norm = rowA agg (ev zr)) (h1 : agg = false → ∀ x, (ev x).length = 1) (hr : rowA agg (ev yo.1) = r) (hs : sideOk F true [x, i]) (hd : Nat.blt dst C.n = true) :
    TriL P C ops ⟨some dst, .lookup t x i true, ty, pos, after, none⟩ ⟨slotsOf [x, i], mpBlk F x, [dst], []⟩ [(dst, .tup [r, .c (.d (.v (.bool yo.2)))])] [] F := by
  subst hr
  refine ⟨⟨rfl, rfl⟩, fun F' hS => ?_⟩
  have h2 := opnd_same hS.1
  refine Tri.quietV rfl rfl hd (fun ρ M a w hr => ?_)
  have hR := reads_of hr rfl (sideOk_same h2 hs)
  obtain ⟨u, q1, q2⟩ := lookup_run (P := P) (co := true) (mpOf_at hr hR (by simp) ((mpOf_same (h2 x (by simp)) hS.2).trans hx)) ht hk hz hzn h1 hg
  refine ⟨.tuple #[u, .bool yo.2], ?_, ⟨_, rfl, q2 ρ, Rep.v _, trivial⟩⟩
  unfold execOp
  simp only
  rw [rdV_eval hR (by simp) ((rdV_same (h2 i (by simp))).trans hi)]
  exact bind_value q1
theorem triLenM {K V : Type} {ek : K → Value} {ev : V → List D} (L : List (K × V)) {agg : Bool} {t kt et : TypeId} {x : Operand} (hx : mpOf F x = some (agg, encM ek ev L)) (ht : mapInfo P t = some (kt, et)) (hs : sideOk F true [x]) (hd : Nat.blt dst C.n = true) :
    TriL P C ops ⟨some dst, .call ⟨.builtin .len, #[x], #[t]⟩, ty, pos, after, none⟩ ⟨slotsOf [x], mpBlk F x, [dst], []⟩ [(dst, .s (.c (.d (.v (.int .i64 L.length)))))] [] F := by
  refine ⟨⟨rfl, rfl⟩, fun F' hS => ?_⟩
  have h1 := opnd_same hS.1
  refine Tri.quiet (x := .c (.d (.v (.int .i64 L.length)))) rfl rfl hd (fun ρ M a w hr => ?_)
  have hm := mpOf_at hr (reads_of hr rfl (sideOk_same h1 hs)) (by simp) ((mpOf_same (h1 x (by simp)) hS.2).trans hx)
  have hlen : (encM ek ev L).length = L.length := by simp [encM]
  have key : (Builtin.len_ #[t] ty #[a.eval x]).run P w = .ok (.int .i64 L.length) w := by
    unfold Builtin.len_
    simp only [List.getElem?_toArray, List.getElem?_cons_zero]
    rw [run_bind_ok (mapInfo_run ht w)]
    rcases hm with ⟨e, hl⟩ | ⟨r, es, clock, f, e, q1, q2, q3, q4⟩
    · rw [e]
      rw [hl] at hlen
      simp only [List.length_nil] at hlen
      rw [← hlen]; rfl
    · rw [e]
      simp only
      have : (getObj r).run P w = .ok (.map es clock) w := by simp [getObj, Sem.run, q1]
      rw [run_bind_ok this]
      simp only [q2, hlen]
      rfl
  refine ⟨_, ?_, Rep.v _⟩
  unfold execOp
  simp only [resolve, List.map_toArray, List.map_cons, List.map_nil, pure_bind, invoke]
  show (do let y ← Builtin.len_ #[t] ty #[a.eval x]; pure (Next.value y) : Sem Next).run P w = _
  exact bind_value key

/-! ### made and written -/
theorem triMkM {t : TypeId} {j : Nat} (agg : Bool) (hd : Nat.blt dst C.n = true) (hj : F.bl j = none) :
    TriL P C ops ⟨some dst, .makeMap t none, ty, pos, after, none⟩ ⟨[], [j], [dst], [j]⟩ [(dst, .s (.c (.own j)))] [(j, .mp agg [])] F := by
  refine ⟨⟨rfl, rfl⟩, fun F' hS => ?_⟩
  refine Tri.val [j] rfl rfl hd (fun k hk => by simp at hk; subst hk; exact (hS.2 k (by simp)).trans hj) (fun k hk => dom_over hk) (fun k hk => by simp at hk; subst hk; rw [over_one, if_pos rfl]; simp) (fun ρ M a w hr => ?_)
  refine ⟨.map (some w.heap.size), w.alloc (.map #[] 0), M, fun _ => .map (some w.heap.size), rfl, Mem.le_refl _, fun ρ' h0' hnv => ?_⟩
  have hnj := hnv j (by simp)
  refine ⟨hnj.symm, h0'.heap.allocO ?_ (fun b hb => ?_)⟩
  · rw [hnj]
    exact ⟨w.heap.size, #[], 0, fun _ _ => undef, rfl, alloc_new _ _, (h0'.heap.mem.none (Nat.le_refl _)).2, rfl, fun i k row h => by simp at h, fun i k row j d h _ => by simp at h⟩
  · rw [hnj] at hb; cases hb; exact Nat.le_refl _
theorem mkVal_cells {agg : Bool} {v : Value} {row : List D} {M : Mem} (h : ∃ ρ, (rowA agg row).rep ρ M v) (h1 : agg = false → row.length = 1) : ∃ f : Nat → Value, v = mkVal agg row.length f ∧ ∀ (j : Nat) d, row[j]? = some d → Rep M d (f j) := by
  obtain ⟨ρ, h⟩ := h
  cases agg with
  | true =>
    obtain ⟨arr, rfl, h2⟩ := h
    have hlen : arr.toList.length = row.length := by have := h2.len; simpa [dcells] using this
    refine ⟨fun i => (arr.toList[i]?).getD undef, ?_, fun j d hj => ?_⟩
    · simp only [mkVal, Value.agg.injEq]
      apply Array.ext'
      apply List.ext_getElem?
      intro i
      rw [List.getElem?_map]
      by_cases hi : i < row.length
      · rw [List.getElem?_range hi]
        have : i < arr.toList.length := by omega
        have h3 : arr[i]? = some arr[i] := Array.getElem?_eq_getElem (by simpa using this)
        simp [h3]
      · rw [List.getElem?_eq_none (by omega), List.getElem?_eq_none (by simp; omega)]; rfl
    · obtain ⟨u, hu, hr⟩ := h2.get j (.d d) (by simp [dcells, hj])
      show Rep M d ((arr.toList[j]?).getD undef)
      rw [hu]; exact hr
  | false =>
    have := h1 rfl
    match row, this with
    | [d], _ => exact ⟨fun _ => v, rfl, fun j d' hj => by
        cases j with
        | zero => simp at hj; subst hj; exact h
        | succ j => simp at hj⟩
theorem setObj_heap {w : World} {r clock : Nat} {es : Array MapEntry} {o' : Obj} (h : w.heap[r]? = some (.map es clock)) : ((setObj r o').run P w = .ok () { w with heap := w.heap.setIfInBounds r o' }) := by
  simp only [setObj, Sem.run, h]
def esSet {K V : Type} [BEq K] (ek : K → Value) (L : List (K × V)) (k : K) (u : Value) (clock : Nat) (es : Array MapEntry) : Array MapEntry := match midx L k with
  | some n => es.modify n fun e => { e with key := ek k, val := u }
  | none => es.push { key := ek k, val := u, born := clock }
def clSet {K V : Type} [BEq K] (L : List (K × V)) (k : K) (clock : Nat) : Nat := match midx L k with
  | some _ => clock
  | none => clock + 1
def ixSet {K V : Type} [BEq K] (L : List (K × V)) (k : K) : Nat := match midx L k with
  | some n => n
  | none => L.length
theorem esSet_size {K V : Type} [BEq K] {ek : K → Value} {L : List (K × V)} {k : K} {v : V} {u : Value} {clock : Nat} {es : Array MapEntry} (hs : es.size = L.length) : (esSet ek L k u clock es).size = (msetL L k v).length := by
  unfold esSet
  rw [msetL_eq]
  cases midx L k <;> simp [hs]
/-- what stands at a place -/
theorem esSet_get {K V : Type} [BEq K] {ek : K → Value} {L : List (K × V)} {k : K} {v : V} {u : Value} {clock : Nat} {es : Array MapEntry} (hs : es.size = L.length) {i : Nat} {p : K × V} (hp : (msetL L k v)[i]? = some p) :
    (i = ixSet L k ∧ p = (k, v) ∧ ∃ born, (esSet ek L k u clock es)[i]? = some ⟨ek k, u, born⟩) ∨ (i ≠ ixSet L k ∧ L[i]? = some p ∧ (esSet ek L k u clock es)[i]? = es[i]?) := by
  unfold esSet ixSet
  rw [msetL_eq] at hp
  cases hm : midx L k with
  | some n =>
    rw [hm] at hp
    obtain ⟨q, hq, _⟩ := midx_spec hm
    have hn : n < L.length := (List.getElem?_eq_some_iff.1 hq).1
    simp only at hp ⊢
    by_cases e : i = n
    · subst e
      rw [List.getElem?_set_self hn] at hp
      cases hp
      refine .inl ⟨rfl, rfl, ?_⟩
      have : es[i]? = some es[i] := Array.getElem?_eq_getElem (by omega)
      exact ⟨es[i].born, by rw [Array.getElem?_modify, if_pos rfl, this]; rfl⟩
    · rw [List.getElem?_set_ne (fun h => e h.symm)] at hp
      refine .inr ⟨e, hp, ?_⟩
      rw [Array.getElem?_modify, if_neg (fun h => e h.symm)]
  | none =>
    rw [hm] at hp
    simp only at hp ⊢
    by_cases e : i = L.length
    · subst e
      rw [List.getElem?_append_right (Nat.le_refl _)] at hp
      simp at hp
      subst hp
      exact .inl ⟨rfl, rfl, clock, by rw [← hs]; simp⟩
    · have hl : i < L.length := by
        have := (List.getElem?_eq_some_iff.1 hp).1
        simp at this; omega
      rw [List.getElem?_append_left hl] at hp
      refine .inr ⟨e, hp, ?_⟩
      rw [Array.getElem?_push, if_neg (by omega)]
theorem update_run {K V : Type} [BEq K] {t kt et : TypeId} {ek : K → Value} {L : List (K × V)} {es : Array MapEntry} {clock r : Nat} {w : World} {k : K} {u : Value}
    (ht : mapInfo P t = some (kt, et)) (hk : KeyOk P kt ek) (hh : w.heap[r]? = some (.map es clock)) (hs : es.size = L.length) (he : ∀ (n : Nat) p, L[n]? = some p → ∃ e, es[n]? = some e ∧ e.key = ek p.1) :
    (Instr.mapUpdate t (.map (some r)) (ek k) u).run P w = .ok () { w with heap := w.heap.setIfInBounds r (.map (esSet ek L k u clock es) (clSet L k clock)) } := by
  obtain ⟨d, hu, g1, g2⟩ := hk.d
  unfold Instr.mapUpdate
  rw [run_bind_ok (mapInfo_run ht w)]
  simp only
  have : (getObj r).run P w = .ok (.map es clock) w := by simp [getObj, Sem.run, hh]
  rw [run_bind_ok this]
  simp only
  rw [run_bind_ok (g2 _ _ w), run_bind_ok (findKey_run hk hs he k w)]
  unfold esSet clSet
  cases hm : midx L k with
  | none =>
    simp only [Option.bind_none]
    exact setObj_heap hh
  | some n =>
    obtain ⟨p, hp, hkp⟩ := midx_spec hm
    obtain ⟨e, h1, h2⟩ := he n p hp
    have hkk : k = p.1 := hk.law _ _ hkp
    simp only [Option.bind_some, h1, Option.map_some, Option.getD_some]
    have hst : (Instr.keyThatStays e.key (ek k)).run P w = .ok (ek k) w := by
      unfold Instr.keyThatStays
      rw [h2, ← hkk, hk.bits k k (by rw [← hkk] at hkp; exact hkp)]
      rfl
    rw [run_bind_ok hst]
    exact setObj_heap hh
theorem triMapUp {K V : Type} [BEq K] {ek : K → Value} {ev : V → List D} {L L' : List (K × V)} {agg : Bool} {t kt et : TypeId} {x i y : Operand} {j : Nat} {k : K} {z : V} {v : A1} (hx : opnd F x = some (.s (.c (.own j)))) (hj : F.bl j = some (.mp agg (encM ek ev L))) (hi : rdV F i = some (ek k)) (hy : opnd F y = some (.s v)) (hv : v.norm = rowA agg (ev z)) (ht : mapInfo P t = some (kt, et)) (hk : KeyOk P kt ek) (h1 : agg = false → ∀ x, (ev x).length = 1) (hL : msetL L k z = L') (hs : sideOk F true [x, i, y]) :
    TriL P C ops ⟨none, .mapUpdate t x i y, ty, pos, after, none⟩ ⟨slotsOf [x, i, y], [j], [], [j]⟩ [] [(j, .mp agg (encM ek ev L'))] F := by
  subst hL
  refine ⟨⟨rfl, rfl⟩, fun F' hS => ?_⟩
  have h2 := opnd_same hS.1
  have hj' : F'.bl j = some (.mp agg (encM ek ev L)) := (hS.2 j (by simp)).trans hj
  have hx' := (h2 x (by simp)).trans hx
  have hy' := (h2 y (by simp)).trans hy
  refine Tri.eff rfl rfl (fun k hk => dom_over hk) (fun ρ M a w hr => ?_)
  have hR := reads_of hr rfl (sideOk_same h2 hs)
  have ex : a.eval x = ρ j := opnd_rep hr hx'
  have ei := rdV_eval hR (x := i) (by simp) ((rdV_same (h2 i (by simp))).trans hi)
  obtain ⟨r, es, clock, f, e1, q1, q2, q3, q4, q5⟩ := hr.heap.inv j _ hj'
  have hlen : (encM ek ev L).length = L.length := by simp [encM]
  have hs' : es.size = L.length := q3.trans hlen
  have he : ∀ (n : Nat) p, L[n]? = some p → ∃ e, es[n]? = some e ∧ e.key = ek p.1 := fun n p hp => by
    obtain ⟨born, hb⟩ := q4 n _ _ (encM_get (a := p.1) (v := p.2) hp)
    exact ⟨_, hb, rfl⟩
  have hrl : r < w.heap.size := (Array.getElem?_eq_some_iff.1 q1).1
  refine ⟨{ w with heap := w.heap.setIfInBounds r (.map (esSet ek L k (a.eval y) clock es) (clSet L k clock)) }, M, ?_, Mem.le_refl _, fun ρ' h0 => ?_⟩
  · unfold execOp
    simp only
    rw [ex, e1, ei]
    have := update_run (P := P) (u := a.eval y) ht hk q1 hs' he (k := k)
    show (do Instr.mapUpdate t (.map (some r)) (ek k) (a.eval y); pure Next.skip : Sem Next).run P w = _
    rw [run_bind_ok this]
    rfl
  · have ex' : a.eval x = ρ' j := opnd_rep h0 hx'
    have hρ : ρ' j = .map (some r) := by rw [← ex', ex, e1]
    obtain ⟨r', es', clock', f', e1', q1', q2', q3', q4', q5'⟩ := h0.heap.inv j _ hj'
    have er : r' = r := by rw [hρ] at e1'; cases e1'; rfl
    subst er
    have ee : es' = es ∧ clock' = clock := by have := q1'.symm.trans q1; simpa using this
    obtain ⟨rfl, rfl⟩ := ee
    have ey : v.rep ρ' M (a.eval y) := opnd_rep h0 hy'
    obtain ⟨fu, hfu, hfr⟩ := mkVal_cells (row := ev z) (agg := agg) (M := M) (v := a.eval y) ⟨ρ', by rw [← hv]; exact A1.norm_rep ey⟩ (fun h => h1 h z)
    refine h0.heap.change j (fun b => b = r') ?_ ⟨rfl, rfl, rfl, by simp⟩ (fun b _ hb => ?_) (Mem.le_refl _) (fun _ _ _ => ⟨fun _ => rfl, rfl⟩) ?_ ?_
    · rintro b rfl _
      exact h0.heap.priv j _ _ hj' (by rw [hρ]; rfl)
    · simp only [Array.getElem?_setIfInBounds]
      rw [if_neg (fun e => hb e.symm)]
    · rintro b (rfl | hb)
      · refine ⟨fun o v' hv' => ?_, fun o ho => (by rw [q2'] at ho; cases ho)⟩
        have := h0.heap.mem.cell _ o v' hv'
        simp only [World.cell?, q1'] at this; cases this
      · have := h0.heap.mem.none (b := b) (by simpa using hb)
        exact ⟨fun o v' hv' => (by rw [this.1 o] at hv'; cases hv'), fun o ho => (by rw [this.2] at ho; cases ho)⟩
    · intro k' ob hk'
      rw [over_one] at hk'
      split at hk'
      · rename_i e
        subst e
        cases hk'
        refine .inr (.inr ⟨rfl, ⟨r', esSet ek L k (a.eval y) clock' es', clSet L k clock', fun i => if i = ixSet L k then fu else f' i, hρ, by simp [hrl], q2', ?_, fun i a0 row hrow => ?_, fun i a0 row jj d hrow hd => ?_⟩, fun b hb => .inl (by rw [hρ] at hb; cases hb; rfl)⟩)
        · rw [esSet_size (v := z) hs']; simp [encM]
        · obtain ⟨p, hp, rfl, rfl⟩ := encM_inv hrow
          rcases esSet_get (ek := ek) (u := a.eval y) (clock := clock') hs' hp with ⟨g1, g2, born, g3⟩ | ⟨g1, g2, g3⟩
          · refine ⟨born, ?_⟩
            show _ = some (MapEntry.mk _ (mkVal agg _ (if i = ixSet L k then fu else f' i)) _)
            rw [g3, if_pos g1, g2, hfu]
          · obtain ⟨born, hb⟩ := q4' i _ _ (encM_get (a := p.1) (v := p.2) g2)
            refine ⟨born, ?_⟩
            show _ = some (MapEntry.mk _ (mkVal agg _ (if i = ixSet L k then fu else f' i)) _)
            rw [g3, if_neg g1]; exact hb
        · obtain ⟨p, hp, rfl, rfl⟩ := encM_inv hrow
          rcases esSet_get (ek := ek) (u := a.eval y) (clock := clock') hs' hp with ⟨g1, g2, born, g3⟩ | ⟨g1, g2, g3⟩
          · show Rep M d ((if i = ixSet L k then fu else f' i) jj)
            rw [if_pos g1]
            rw [g2] at hd
            exact hfr jj d hd
          · show Rep M d ((if i = ixSet L k then fu else f' i) jj)
            rw [if_neg g1]
            exact q5' i _ _ jj d (encM_get (a := p.1) (v := p.2) g2) hd
      · rename_i e
        refine .inr (.inl ⟨hk', fun b hb hbe => ?_⟩)
        subst hbe
        exact e ((h0.heap.dist k' j _ _ _ hk' hj' hb (by rw [hρ]; rfl)).symm)

theorem triMapIns {K V : Type} [BEq K] {ek : K → Value} {ev : V → List D} {L L' : List (K × V)} {agg : Bool} {t kt et : TypeId} {x i y : Operand} {j : Nat} {k : K} {z : V} {v : A1} (hx : opnd F x = some (.s (.c (.own j)))) (hj : F.bl j = some (.mp agg (encM ek ev L))) (hi : rdV F i = some (ek k)) (hy : opnd F y = some (.s v)) (hv : v.norm = rowA agg (ev z)) (ht : mapInfo P t = some (kt, et)) (hk : KeyOk P kt ek) (h1 : agg = false → ∀ x, (ev x).length = 1) (hL : msetL L k z = L') (hs : sideOk F true [x, i, y]) :
    TriL P C ops ⟨none, .insert t x i y, ty, pos, after, none⟩ ⟨slotsOf [x, i, y], [j], [], [j]⟩ [] [(j, .mp agg (encM ek ev L'))] F := by
  subst hL
  refine ⟨⟨rfl, rfl⟩, fun F' hS => ?_⟩
  have h2 := opnd_same hS.1
  have hj' : F'.bl j = some (.mp agg (encM ek ev L)) := (hS.2 j (by simp)).trans hj
  have hx' := (h2 x (by simp)).trans hx
  have hy' := (h2 y (by simp)).trans hy
  refine Tri.eff rfl rfl (fun k hk => dom_over hk) (fun ρ M a w hr => ?_)
  have hR := reads_of hr rfl (sideOk_same h2 hs)
  have ex : a.eval x = ρ j := opnd_rep hr hx'
  have ei := rdV_eval hR (x := i) (by simp) ((rdV_same (h2 i (by simp))).trans hi)
  obtain ⟨r, es, clock, f, e1, q1, q2, q3, q4, q5⟩ := hr.heap.inv j _ hj'
  have hlen : (encM ek ev L).length = L.length := by simp [encM]
  have hs' : es.size = L.length := q3.trans hlen
  have he : ∀ (n : Nat) p, L[n]? = some p → ∃ e, es[n]? = some e ∧ e.key = ek p.1 := fun n p hp => by
    obtain ⟨born, hb⟩ := q4 n _ _ (encM_get (a := p.1) (v := p.2) hp)
    exact ⟨_, hb, rfl⟩
  have hrl : r < w.heap.size := (Array.getElem?_eq_some_iff.1 q1).1
  refine ⟨{ w with heap := w.heap.setIfInBounds r (.map (esSet ek L k (a.eval y) clock es) (clSet L k clock)) }, M, ?_, Mem.le_refl _, fun ρ' h0 => ?_⟩
  · unfold execOp
    simp only
    rw [ex, e1, ei]
    have := update_run (P := P) (u := a.eval y) ht hk q1 hs' he (k := k)
    show (do Instr.mapUpdate t (.map (some r)) (ek k) (a.eval y); pure Next.skip : Sem Next).run P w = _
    rw [run_bind_ok this]
    rfl
  · have ex' : a.eval x = ρ' j := opnd_rep h0 hx'
    have hρ : ρ' j = .map (some r) := by rw [← ex', ex, e1]
    obtain ⟨r', es', clock', f', e1', q1', q2', q3', q4', q5'⟩ := h0.heap.inv j _ hj'
    have er : r' = r := by rw [hρ] at e1'; cases e1'; rfl
    subst er
    have ee : es' = es ∧ clock' = clock := by have := q1'.symm.trans q1; simpa using this
    obtain ⟨rfl, rfl⟩ := ee
    have ey : v.rep ρ' M (a.eval y) := opnd_rep h0 hy'
    obtain ⟨fu, hfu, hfr⟩ := mkVal_cells (row := ev z) (agg := agg) (M := M) (v := a.eval y) ⟨ρ', by rw [← hv]; exact A1.norm_rep ey⟩ (fun h => h1 h z)
    refine h0.heap.change j (fun b => b = r') ?_ ⟨rfl, rfl, rfl, by simp⟩ (fun b _ hb => ?_) (Mem.le_refl _) (fun _ _ _ => ⟨fun _ => rfl, rfl⟩) ?_ ?_
    · rintro b rfl _
      exact h0.heap.priv j _ _ hj' (by rw [hρ]; rfl)
    · simp only [Array.getElem?_setIfInBounds]
      rw [if_neg (fun e => hb e.symm)]
    · rintro b (rfl | hb)
      · refine ⟨fun o v' hv' => ?_, fun o ho => (by rw [q2'] at ho; cases ho)⟩
        have := h0.heap.mem.cell _ o v' hv'
        simp only [World.cell?, q1'] at this; cases this
      · have := h0.heap.mem.none (b := b) (by simpa using hb)
        exact ⟨fun o v' hv' => (by rw [this.1 o] at hv'; cases hv'), fun o ho => (by rw [this.2] at ho; cases ho)⟩
    · intro k' ob hk'
      rw [over_one] at hk'
      split at hk'
      · rename_i e
        subst e
        cases hk'
        refine .inr (.inr ⟨rfl, ⟨r', esSet ek L k (a.eval y) clock' es', clSet L k clock', fun i => if i = ixSet L k then fu else f' i, hρ, by simp [hrl], q2', ?_, fun i a0 row hrow => ?_, fun i a0 row jj d hrow hd => ?_⟩, fun b hb => .inl (by rw [hρ] at hb; cases hb; rfl)⟩)
        · rw [esSet_size (v := z) hs']; simp [encM]
        · obtain ⟨p, hp, rfl, rfl⟩ := encM_inv hrow
          rcases esSet_get (ek := ek) (u := a.eval y) (clock := clock') hs' hp with ⟨g1, g2, born, g3⟩ | ⟨g1, g2, g3⟩
          · refine ⟨born, ?_⟩
            show _ = some (MapEntry.mk _ (mkVal agg _ (if i = ixSet L k then fu else f' i)) _)
            rw [g3, if_pos g1, g2, hfu]
          · obtain ⟨born, hb⟩ := q4' i _ _ (encM_get (a := p.1) (v := p.2) g2)
            refine ⟨born, ?_⟩
            show _ = some (MapEntry.mk _ (mkVal agg _ (if i = ixSet L k then fu else f' i)) _)
            rw [g3, if_neg g1]; exact hb
        · obtain ⟨p, hp, rfl, rfl⟩ := encM_inv hrow
          rcases esSet_get (ek := ek) (u := a.eval y) (clock := clock') hs' hp with ⟨g1, g2, born, g3⟩ | ⟨g1, g2, g3⟩
          · show Rep M d ((if i = ixSet L k then fu else f' i) jj)
            rw [if_pos g1]
            rw [g2] at hd
            exact hfr jj d hd
          · show Rep M d ((if i = ixSet L k then fu else f' i) jj)
            rw [if_neg g1]
            exact q5' i _ _ jj d (encM_get (a := p.1) (v := p.2) g2) hd
      · rename_i e
        refine .inr (.inl ⟨hk', fun b hb hbe => ?_⟩)
        subst hbe
        exact e ((h0.heap.dist k' j _ _ _ hk' hj' hb (by rw [hρ]; rfl)).symm)

/-! ### given up -/
def Cell.fz (j : Nat) (d : D) : Cell → Cell
  | .own i => match Nat.beq i j with
    | true => .d d
    | false => .own i
  | x => x
theorem Cell.fz_rep {j : Nat} {d : D} {ρ : Env} {M : Mem} (h : Rep M d (ρ j)) {c : Cell} {v : Value} (hc : c.rep ρ M v) : (c.fz j d).rep ρ M v := by
  cases c with
  | own i =>
    show Cell.rep ρ M (match Nat.beq i j with | true => .d d | false => .own i) v
    cases e : Nat.beq i j with
    | true =>
      have := Nat.eq_of_beq_eq_true e
      subst this
      have hc : v = ρ i := hc
      subst hc; exact h
    | false => exact hc
  | _ => exact hc
theorem Reps.fz {j : Nat} {d : D} {ρ : Env} {M : Mem} (h : Rep M d (ρ j)) : ∀ {cs : List Cell} {vs : List Value}, Reps ρ M cs vs → Reps ρ M (cs.map (Cell.fz j d)) vs
  | [], [], _ => trivial
  | _ :: _, _ :: _, hr => ⟨Cell.fz_rep h hr.1, Reps.fz h hr.2⟩
  | [], _ :: _, hr => hr.elim
  | _ :: _, [], hr => hr.elim
theorem RelW.review {bl bl' : Nat → Option Ob} {ρ : Env} {M : Mem} {w : World} (h : RelW C bl ρ M w)
    (hb : ∀ k ob', bl' k = some ob' → bl k = some ob' ∨ ∃ cs cs' ty, bl k = some (.blk cs ty) ∧ ob' = .blk cs' ty ∧ ∀ vs, Reps ρ M cs vs → Reps ρ M cs' vs) : RelW C bl' ρ M w := by
  have key : ∀ k ob', bl' k = some ob' → ∃ ob, bl k = some ob ∧ ∀ v, ob.blkOf v = ob'.blkOf v := by
    intro k ob' hk
    rcases hb k ob' hk with h1 | ⟨cs, cs', ty, h1, rfl, _⟩
    · exact ⟨ob', h1, fun _ => rfl⟩
    · exact ⟨_, h1, fun _ => rfl⟩
  refine ⟨fun j ob hj => ?_, fun i j x y b hi hj hx hy => ?_, fun j ob b hj ho => ?_, h.mem, h.base, h.fresh, h.kept, h.names⟩
  · rcases hb j ob hj with h1 | ⟨cs, cs', ty, h1, rfl, h2⟩
    · exact h.inv j ob h1
    · obtain ⟨⟨arr, g1, g2⟩, g3⟩ := h.inv j _ h1
      exact ⟨⟨arr, g1, h2 _ g2⟩, g3⟩
  · obtain ⟨x', h1, h2⟩ := key i x hi
    obtain ⟨y', h3, h4⟩ := key j y hj
    exact h.dist i j x' y' b h1 h3 ((h2 _).trans hx) ((h4 _).trans hy)
  · obtain ⟨x', h1, h2⟩ := key j ob hj
    exact h.priv j x' b h1 ((h2 _).trans ho)
def Mem.putO (M : Mem) (r : Nat) (o : Obj) : Mem := ⟨M.cell, fun b => if b = r then some o else M.obj b⟩
def allBlk (bl : List (Nat × Ob)) (j : Nat) (d : D) : List (Nat × Ob) → Prop
  | [] => True
  | (k, ob) :: r => (∃ cs ty, look bl k = some (.blk cs ty) ∧ ob = .blk (cs.map (Cell.fz j d)) ty) ∧ allBlk bl j d r
theorem allBlk_spec {bl : List (Nat × Ob)} {j : Nat} {d : D} : ∀ {l : List (Nat × Ob)}, allBlk bl j d l → ∀ k ob, look l k = some ob → ∃ cs ty, look bl k = some (.blk cs ty) ∧ ob = .blk (cs.map (Cell.fz j d)) ty
  | [], _, k, ob, h => by cases h
  | (i, o) :: r, h, k, ob, hl => by
    rw [look_cons] at hl
    split at hl
    · rename_i e; subst e; cases hl; exact h.1
    · exact allBlk_spec h.2 k ob hl
def A1.fz (j : Nat) (d : D) : A1 → A1
  | .c x => .c (x.fz j d)
  | .agg cs => .agg (cs.map (Cell.fz j d))
def AV.fz (j : Nat) (d : D) : AV → AV
  | .s x => .s (x.fz j d)
  | .gd g x => .gd g (x.fz j d)
  | .tup xs => .tup (xs.map (A1.fz j d))
theorem A1.fz_rep {j : Nat} {d : D} {ρ : Env} {M : Mem} (h : Rep M d (ρ j)) {x : A1} {v : Value} (hx : x.rep ρ M v) : (x.fz j d).rep ρ M v := by
  cases x with
  | c y => exact Cell.fz_rep h hx
  | agg cs => obtain ⟨arr, rfl, h2⟩ := hx; exact ⟨arr, rfl, h2.fz h⟩
theorem A1.reps_fz {j : Nat} {d : D} {ρ : Env} {M : Mem} (h : Rep M d (ρ j)) : ∀ {xs : List A1} {vs : List Value}, A1.reps ρ M xs vs → A1.reps ρ M (xs.map (A1.fz j d)) vs
  | [], [], _ => trivial
  | _ :: _, _ :: _, hr => ⟨A1.fz_rep h hr.1, A1.reps_fz h hr.2⟩
  | [], _ :: _, hr => hr.elim
  | _ :: _, [], hr => hr.elim
theorem AV.fz_rep {j : Nat} {d : D} {ρ : Env} {M : Mem} (h : Rep M d (ρ j)) {x : AV} {v : Value} (hx : x.rep ρ M v) : (x.fz j d).rep ρ M v := by
  cases x with
  | s y => exact A1.fz_rep h hx
  | gd g y => cases g with
    | true => exact A1.fz_rep (x := y) h hx
    | false => exact hx
  | tup xs => obtain ⟨arr, rfl, h2⟩ := hx; exact ⟨arr, rfl, A1.reps_fz h h2⟩
def allFz (sl : List (Nat × AV)) (j : Nat) (d : D) : List (Nat × AV) → Prop
  | [] => True
  | (k, v) :: r => (∃ u, look sl k = some u ∧ v = u.fz j d) ∧ allFz sl j d r
theorem allFz_spec {sl : List (Nat × AV)} {j : Nat} {d : D} : ∀ {l : List (Nat × AV)}, allFz sl j d l → ∀ k v, look l k = some v → ∃ u, look sl k = some u ∧ v = u.fz j d
  | [], _, k, v, h => by cases h
  | (i, o) :: r, h, k, v, hl => by
    rw [look_cons] at hl
    split at hl
    · rename_i e; subst e; cases hl; exact h.1
    · exact allFz_spec h.2 k v hl
theorem look_app {α : Type} (a b : List (Nat × α)) (k : Nat) : look (a ++ b) k = match look a k with | some o => some o | none => look b k := by
  induction a with
  | nil => rfl
  | cons p r ih =>
    obtain ⟨i, o⟩ := p
    rw [List.cons_append, look_cons, look_cons]
    split
    · rfl
    · exact ih
/-- an object that is written no more -/
theorem Conv.fz {ob : Ob} {d : D} {sl : List (Nat × AV)} {bl : List (Nat × Ob)} {nx : Nat} (so : List (Nat × AV)) (bo : List (Nat × Ob)) (j nx' : Nat) (hso : allFz sl j d so) (hj : look bl j = some ob) (hnb : ∀ cs ty, ob ≠ .blk cs ty) (hbo : allBlk bl j d bo)
    (key : ∀ ρ M w, RelW C (look bl) ρ M w → ∃ M', M.le M' ∧ Rep M' d (ρ j) ∧ ∀ ρ', ρ' j = ρ j → RelW C (look bl) ρ' M w → RelW C (look ((j, .dead) :: bl)) ρ' M' w) :
    Conv C ⟨sl, bl, nx⟩ ⟨so ++ sl, bo ++ ((j, .dead) :: bl), nx'⟩ := by
  intro ρ M a w hr
  obtain ⟨M', hle, hrep, hk⟩ := key ρ M w hr.at.heap
  refine ⟨ρ, M', fun ρ' ha => ?_⟩
  have hdom : ∀ i, look bl i ≠ none → look (bo ++ ((j, .dead) :: bl)) i ≠ none := fun i hi => by
    rw [look_app]
    cases look bo i with
    | some o => simp
    | none =>
      simp only
      rw [look_cons]; split
      · simp
      · exact hi
  have hag : Agree (look bl) ρ ρ' := fun i hi => ha i (hdom i hi)
  have h0 := hr ρ' hag
  have hρj : ρ' j = ρ j := hag j (by rw [hj]; simp)
  have hrel := hk ρ' hρj h0.heap
  have hrel2 : RelW C (look (bo ++ ((j, .dead) :: bl))) ρ' M' w := by
    refine hrel.review (fun k ob' hk => ?_)
    rw [look_app] at hk
    cases hb : look bo k with
    | none => rw [hb] at hk; exact .inl hk
    | some o =>
      rw [hb] at hk
      cases hk
      obtain ⟨cs, ty, h1, rfl⟩ := allBlk_spec hbo k _ hb
      have hne : j ≠ k := fun e => by subst e; rw [hj] at h1; exact hnb _ _ (Option.some.inj h1)
      refine .inr ⟨cs, _, ty, by rw [look_cons, if_neg hne]; exact h1, rfl, fun vs hvs => Reps.fz (by rw [hρj]; exact hrep) hvs⟩
  refine ⟨h0.defers, h0.size, fun t u hu => ?_, hrel2⟩
  have hu' : look (so ++ sl) t = some u := hu
  rw [look_app] at hu'
  cases hs : look so t with
  | none => rw [hs] at hu'; exact (h0.slots t u hu').mono hle
  | some v =>
    rw [hs] at hu'
    cases hu'
    obtain ⟨u0, h1, rfl⟩ := allFz_spec hso t _ hs
    exact AV.fz_rep (by rw [hρj]; exact hrep) ((h0.slots t u0 h1).mono hle)
/-- a map that is written no more -/
theorem Conv.freezeM {agg : Bool} {l : List (Value × List D)} {sl : List (Nat × AV)} {bl : List (Nat × Ob)} {nx : Nat} (so : List (Nat × AV)) (bo : List (Nat × Ob)) (j nx' : Nat) (hj : look bl j = some (.mp agg l)) (hso : allFz sl j (.mp agg l) so) (hbo : allBlk bl j (.mp agg l) bo) :
    Conv C ⟨sl, bl, nx⟩ ⟨so ++ sl, bo ++ ((j, .dead) :: bl), nx'⟩ := by
  refine Conv.fz so bo j nx' hso hj (fun _ _ e => by cases e) hbo (fun ρ M w hr => ?_)
  obtain ⟨r, es, clock, f, e1, q1, q2, q3, q4, q5⟩ := hr.inv j _ hj
  have hle : M.le (M.putO r (.map es clock)) := ⟨fun _ _ _ h => h, fun b o h => by
    simp only [Mem.putO]
    by_cases e : b = r
    · subst e; rw [q2] at h; cases h
    · rw [if_neg e]; exact h⟩
  refine ⟨M.putO r (.map es clock), hle, ?_, fun ρ' hρ h0 => ?_⟩
  · rw [e1]
    exact .mp (f := f) (clock := clock) (by simp [Mem.putO]) q3 q4 (fun i k row jj d h1 h2 => (q5 i k row jj d h1 h2).mono hle)
  · have hρj : ρ' j = .map (some r) := by rw [hρ, e1]
    refine h0.change j (fun b => b = r) ?_ ⟨rfl, rfl, rfl, Nat.le_refl _⟩ (fun _ _ _ => rfl) hle (fun b _ hb => ⟨fun _ => rfl, by simp only [Mem.putO]; rw [if_neg hb]⟩) ?_ ?_
    · rintro b rfl _
      exact h0.priv j _ _ hj (by rw [hρj]; rfl)
    · rintro b hb
      refine ⟨fun o v hv => h0.mem.cell b o v hv, fun o ho => ?_⟩
      simp only [Mem.putO] at ho
      by_cases e : b = r
      · rw [if_pos e] at ho; cases ho; subst e; exact ⟨q1, rfl⟩
      · rw [if_neg e] at ho; exact h0.mem.obj b o ho
    · intro k ob hk
      rw [look_cons] at hk
      split at hk
      · cases hk; exact .inl rfl
      · rename_i e
        refine .inr (.inl ⟨hk, fun b hb hbe => ?_⟩)
        subst hbe
        exact e ((h0.dist k j _ _ _ hk hj hb (by rw [hρj]; rfl)).symm)
/-- a written slice that is written no more -/
theorem Conv.freezeV {α : Type} {enc : α → List D} {L : List α} {sz : Nat} {sl : List (Nat × AV)} {bl : List (Nat × Ob)} {nx : Nat} (so : List (Nat × AV)) (bo : List (Nat × Ob)) (j nx' : Nat) (hj : look bl j = some (.vec sz (L.map enc))) (hsz : allR sz enc) (hso : allFz sl j (.sl (L.map enc)) so) (hbo : allBlk bl j (.sl (L.map enc)) bo) :
    Conv C ⟨sl, bl, nx⟩ ⟨so ++ sl, bo ++ ((j, .dead) :: bl), nx'⟩ := by
  refine Conv.fz so bo j nx' hso hj (fun _ _ e => by cases e) hbo (fun ρ M w hr => ?_)
  obtain ⟨ad, cap, e1, hc, hx⟩ := vec_flat (hr.inv j _ hj)
  by_cases hcap : 0 < cap
  · obtain ⟨b, off, arr, ty', vs, rfl, g1, g2, g3, g4, g5⟩ := hx hcap
    have hle : M.le (M.put b off vs) := Mem.put_le (fun o _ => g3 o)
    refine ⟨M.put b off vs, hle, ?_, fun ρ' hρ h0 => ?_⟩
    · rw [e1]
      have := Rep.ofFlat (M := M.put b off vs) (l := L.map enc) (b := b) (off := off) (cap := cap) (sz := sz) (vs := vs) (by rw [List.length_map]; exact hc) (rows_map hsz L) (g4.mono hle) (fun k u hk => Mem.put_at hk)
      rwa [List.length_map] at this
    · have hρj : ρ' j = .slice (some ⟨b, off, none⟩) L.length cap := by rw [hρ, e1]
      have hown : (Ob.vec sz (L.map enc)).blkOf (ρ' j) = some b := by rw [hρj]; simp [Ob.blkOf, hcap]
      refine h0.change j (fun x => x = b) ?_ ⟨rfl, rfl, rfl, Nat.le_refl _⟩ (fun _ _ _ => rfl) hle (fun x _ hx => ⟨fun o => Mem.put_far hx, rfl⟩) ?_ ?_
      · rintro x rfl _
        exact h0.priv j _ _ hj hown
      · rintro x hx
        refine ⟨fun o v hv => ?_, fun o ho => h0.mem.obj x o ho⟩
        by_cases hxb : x = b
        · subst hxb
          rcases Mem.put_inv hv with ⟨h2, h3⟩ | h3
          · have := g5 _ _ h3
            simp only [World.cell?, g1]
            rw [show off + (o - off) = o by omega] at this
            simpa using this
          · rw [g3 o] at h3; cases h3
        · rw [Mem.put_far hxb] at hv; exact h0.mem.cell x o v hv
      · intro k ob hk
        rw [look_cons] at hk
        split at hk
        · cases hk; exact .inl rfl
        · rename_i e2
          refine .inr (.inl ⟨hk, fun x hxb hS' => ?_⟩)
          subst hS'
          exact e2 ((h0.dist k j _ _ _ hk hj hxb hown).symm)
  · have hL : L = [] := List.eq_nil_of_length_eq_zero (by omega)
    subst hL
    have hcap0 : cap = 0 := by omega
    subst hcap0
    refine ⟨M, Mem.le_refl _, by rw [e1]; exact Rep.nil, fun ρ' hρ h0 => ?_⟩
    have hρj : ρ' j = .slice ad ([] : List α).length 0 := by rw [hρ, e1]
    refine h0.change j (fun _ => False) (fun _ h => h.elim) ⟨rfl, rfl, rfl, Nat.le_refl _⟩ (fun _ _ _ => rfl) (Mem.le_refl _) (fun _ _ _ => ⟨fun _ => rfl, rfl⟩) (fun b _ => ⟨fun o v hv => h0.mem.cell b o v hv, fun o ho => h0.mem.obj b o ho⟩) (fun k ob hk => ?_)
    rw [look_cons] at hk
    split at hk
    · cases hk; exact .inl rfl
    · exact .inr (.inl ⟨hk, fun _ _ h => h⟩)
/-- no map at all, seen as one without entries -/
theorem Conv.nilM {sl : List (Nat × AV)} {bl : List (Nat × Ob)} {nx : Nat} (s : Nat) (agg : Bool) (hv : look sl s = some (.s (.c (.d (.v (.map none)))))) : Conv C ⟨sl, bl, nx⟩ ⟨(s, .s (.c (.d (.mp agg [])))) :: sl, bl, nx⟩ := by
  intro ρ M a w hr
  refine ⟨ρ, M, fun ρ' ha => ?_⟩
  have h0 := hr ρ' ha
  refine ⟨h0.defers, h0.size, fun t u hu => ?_, h0.heap⟩
  have hu' : look ((s, AV.s (.c (.d (.mp agg [])))) :: sl) t = some u := hu
  rw [look_cons] at hu'
  split at hu'
  · rename_i e; subst e; cases hu'
    have := Rep.v_inv (h0.slots s _ hv)
    show Rep _ _ _
    rw [this]; exact Rep.mp0
  · exact h0.slots t u hu'
end Go.E2

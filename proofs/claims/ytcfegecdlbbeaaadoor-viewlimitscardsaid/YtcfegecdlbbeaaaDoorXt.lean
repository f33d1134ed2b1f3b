/-
  The tables that the card lists lie in the memory of the call.
-/
import Derived.Test.YtcfegecdlbbeaaaDoorXz
import Derived.OpenShut
namespace Go.E2
open Go.ChangeShapes
variable {P : Program} {W : World}
theorem laidVars_mem : ∀ {laid : List (String × DataW Unit)} {ps : List MemPlace} {n : String} {d : DataW Unit}, DataW.LaidVars P W laid ps → (n, d) ∈ laid →
    ∃ g t cs fuel p, P.globalNamed n = some g ∧ (P.globals[g]?).map (·.type) = some t ∧ W.var? P n = some cs ∧ DataW.trod (fun _ => ()) P W 0 (fun _ => true) false fuel t cs.toList = some (d, p)
  | [], _, _, _, _, hm => by cases hm
  | (m, e) :: r, ps, n, d, h, hm => by
    obtain ⟨g, t, cs, fuel, p, q, h1, h2, h3, h4, h5, _⟩ := h
    rcases List.mem_cons.1 hm with e1 | e1
    · cases e1; exact ⟨g, t, cs, fuel, p, h1, h2, h3, h4⟩
    · exact laidVars_mem h5 e1
theorem var_cell {n : String} {g : Nat} {cs : Array Value} (hg : P.globalNamed n = some g) (hv : W.var? P n = some cs) {k : Nat} {v : Value} (hk : cs.toList[k]? = some v) : (M1 W).cell g k = some v := by
  refine M1_cell ?_
  unfold World.var? at hv
  rw [hg] at hv
  simp only [Option.bind_some] at hv
  unfold World.cell?
  simp only
  split at hv
  · rename_i c e f hh
    cases hv
    rw [hh]
    simpa using hk
  · cases hv
theorem chunk {cs : List Value} {i sz : Nat} {l : List Value} (h : (cs.drop (i * sz)).take sz = l) {j : Nat} (hj : j < sz) {v : Value} (hv : l[j]? = some v) : cs[i * sz + j]? = some v := by
  subst h
  rw [List.getElem?_take_of_lt hj, List.getElem?_drop] at hv
  exact hv
theorem tab_first {H : Type} {enc : TypeId × Value → H} {fuel t e : Nat} {cs : List Value} {d : DataW H} {p : List MemPlace} (h : DataW.trod enc P W 0 (fun _ => true) false fuel t cs = some (d, p)) (hu : P.underlying t = some (.array 256 e)) (he : P.underlying e = some (.int .u8)) (hc : P.cellsOf e = 1) (hd : d = .agg (utf8First.map fun n => .lit (.int .u8 n))) :
    ∀ (k : Nat) x, utf8First[k]? = some x → cs[k]? = some (.int .u8 x) := by
  obtain ⟨xs, m, _, hx, _, hl, hat⟩ := DataW.trod_array hu h
  intro k x hk
  have hkl : k < 256 := by
    have := (List.getElem?_eq_some_iff.1 hk).1
    have e : utf8First.length = 256 := by decide +kernel
    omega
  have h1 := hat k hkl
  rw [List.getElem?_eq_getElem (by omega)] at h1
  obtain ⟨n, q1, q2, _⟩ := DataW.trod_int he h1
  have h2 : xs.map (·.1) = utf8First.map fun n => .lit (.int .u8 n) := by
    have := hx.symm.trans (by rw [hd] : (d, p) = (.agg (utf8First.map fun n => .lit (.int .u8 n)), p))
    simp only [Prod.mk.injEq, DataW.agg.injEq] at this
    exact this.1
  have h3 : (xs.map (·.1))[k]? = some (.lit (.int .u8 x)) := by rw [h2, List.getElem?_map, hk]; rfl
  rw [List.getElem?_map, List.getElem?_eq_getElem (show k < xs.length by omega), q2] at h3
  simp only [Option.map_some, Option.some.injEq, DataW.lit.injEq, Lit.int.injEq, true_and] at h3
  subst h3
  rw [hc] at q1
  have := chunk q1 (j := 0) (by omega) rfl
  simpa using this
theorem tab_accept {H : Type} {enc : TypeId × Value → H} {fuel t e e1 : Nat} {cs : List Value} {d : DataW H} {p : List MemPlace} {f0 f1 : Field} (h : DataW.trod enc P W 0 (fun _ => true) false fuel t cs = some (d, p)) (hu : P.underlying t = some (.array 16 e)) (he : P.underlying e = some (.struct #[f0, f1])) (hc : P.cellsOf e = 2)
    (t0 : f0.type = e1) (o0 : f0.offset = 0) (t1 : f1.type = e1) (o1 : f1.offset = 1) (he1 : P.underlying e1 = some (.int .u8)) (hc1 : P.cellsOf e1 = 1) (hd : d = .agg (utf8Accept.map fun n => .agg [.lit (.int .u8 n.1), .lit (.int .u8 n.2)])) :
    ∀ (k : Nat) x, utf8Accept[k]? = some x → cs[k * 2]? = some (.int .u8 x.1) ∧ cs[k * 2 + 1]? = some (.int .u8 x.2) := by
  obtain ⟨xs, m, _, hx, _, hl, hat⟩ := DataW.trod_array hu h
  intro k x hk
  have hkl : k < 16 := by
    have := (List.getElem?_eq_some_iff.1 hk).1
    have e : utf8Accept.length = 16 := by decide +kernel
    omega
  have h1 := hat k hkl
  rw [List.getElem?_eq_getElem (by omega)] at h1
  obtain ⟨ys, m2, _, g1, g2, g3, g4⟩ := DataW.trod_struct he h1
  have h2 : xs.map (·.1) = utf8Accept.map fun n => .agg [.lit (.int .u8 n.1), .lit (.int .u8 n.2)] := by
    have := hx.symm.trans (by rw [hd] : (d, p) = (.agg (utf8Accept.map fun n => .agg [.lit (.int .u8 n.1), .lit (.int .u8 n.2)]), p))
    simp only [Prod.mk.injEq, DataW.agg.injEq] at this
    exact this.1
  have h3 : (xs.map (·.1))[k]? = some (.agg [.lit (.int .u8 x.1), .lit (.int .u8 x.2)]) := by rw [h2, List.getElem?_map, hk]; rfl
  rw [List.getElem?_map, List.getElem?_eq_getElem (show k < xs.length by omega), g1] at h3
  simp only [Option.map_some, Option.some.injEq, DataW.agg.injEq] at h3
  have r0 := g4 0 f0 rfl
  have r1 := g4 1 f1 rfl
  match ys, h3 with
  | [y0, y1], h3 =>
    simp only [List.map_cons, List.map_nil, List.cons.injEq, and_true] at h3
    rw [t0, o0] at r0
    rw [t1, o1] at r1
    obtain ⟨n0, q0, q0', _⟩ := DataW.trod_int he1 (r0.trans rfl)
    obtain ⟨n1, q1, q1', _⟩ := DataW.trod_int he1 (r1.trans rfl)
    rw [q0', q1'] at h3
    simp only [DataW.lit.injEq, Lit.int.injEq, true_and] at h3
    obtain ⟨e0, e1'⟩ := h3
    subst e0 e1'
    rw [hc1] at q0 q1
    rw [hc] at q0 q1
    have c0 := chunk (cs := (cs.drop (k * 2)).take 2) (i := 0) (sz := 1) (by simpa using q0) (j := 0) (by omega) rfl
    have c1 := chunk (cs := (cs.drop (k * 2)).take 2) (i := 1) (sz := 1) q1 (j := 0) (by omega) rfl
    refine ⟨?_, ?_⟩
    · have := chunk (cs := cs) (i := k) (sz := 2) rfl (j := 0) (by omega) (by simpa using c0)
      simpa using this
    · exact chunk (cs := cs) (i := k) (sz := 2) rfl (j := 1) (by omega) (by simpa using c1)
/-- the tables of the UTF-8 package out of what the row lists -/
theorem tab_of {laid : List (String × DataW Unit)} {t1 e1 t2 e2 e3 : Nat} {f0 f1 : Field} {d1 d2 : DataW Unit} (h : laidMetH P laid W) (hh : (laid.filter fun x => x.2.handleName?.isSome) = []) (m1 : ("unicode/utf8.first", d1) ∈ laid) (m2 : ("unicode/utf8.acceptRanges", d2) ∈ laid)
    (n1 : (P.globalNamed "unicode/utf8.first").bind (fun g => (P.globals[g]?).map (·.type)) = some t1) (n2 : (P.globalNamed "unicode/utf8.acceptRanges").bind (fun g => (P.globals[g]?).map (·.type)) = some t2)
    (hu1 : P.underlying t1 = some (.array 256 e1)) (he1 : P.underlying e1 = some (.int .u8)) (hc1 : P.cellsOf e1 = 1) (hd1 : d1 = .agg (utf8First.map fun n => .lit (.int .u8 n)))
    (hu2 : P.underlying t2 = some (.array 16 e2)) (he2 : P.underlying e2 = some (.struct #[f0, f1])) (hc2 : P.cellsOf e2 = 2) (ft0 : f0.type = e3) (fo0 : f0.offset = 0) (ft1 : f1.type = e3) (fo1 : f1.offset = 1) (he3 : P.underlying e3 = some (.int .u8)) (hc3 : P.cellsOf e3 = 1)
    (hd2 : d2 = .agg (utf8Accept.map fun n => .agg [.lit (.int .u8 n.1), .lit (.int .u8 n.2)])) : Tab P (M1 W) := by
  unfold laidMetH at h
  rw [hh] at h
  obtain ⟨ps, hv, _, _⟩ := h
  constructor
  · intro g hg k x hk
    obtain ⟨g', t, cs, fuel, p, a1, a2, a3, a4⟩ := laidVars_mem hv m1
    rw [hg] at a1; cases a1
    rw [hg] at n1
    simp only [Option.bind_some] at n1
    rw [a2] at n1; cases n1
    exact var_cell hg a3 (tab_first a4 hu1 he1 hc1 hd1 k x hk)
  · intro g hg k x hk
    obtain ⟨g', t, cs, fuel, p, a1, a2, a3, a4⟩ := laidVars_mem hv m2
    rw [hg] at a1; cases a1
    rw [hg] at n2
    simp only [Option.bind_some] at n2
    rw [a2] at n2; cases n2
    have := tab_accept a4 hu2 he2 hc2 ft0 fo0 ft1 fo1 he3 hc3 hd2 k x hk
    exact ⟨var_cell hg a3 this.1, var_cell hg a3 this.2⟩
end Go.E2

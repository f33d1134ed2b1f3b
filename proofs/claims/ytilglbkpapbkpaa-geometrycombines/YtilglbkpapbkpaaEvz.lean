/-
  From a walk of a law to the given statement: arguments that are numbers, bools, structs and arrays of these are opened; what came in reads as it did.
-/
import Derived.Test.YtilglbkpapbkpaaEvg
import Derived.ProofKit
import Derived.OpenShut
import Derived.ShutString
import Derived.ChangeOld
import Derived.Below
import Derived.Carry
namespace Go.Ev
open Go.RowKit (Below)
open Go.ChangeShapes Go.WideShapes Go.ChangeAt Go.RowKit
section
variable {H : Type} {enc : TypeId × Value → H} {P : Program} {w : World} {base : Nat} {spare : Nat → Bool} {held : Bool}

def Flat : List (Option IntKind) → List Value → Prop
  | [], cs => cs = []
  | some k :: ks, cs => ∃ n r, cs = .int k n :: r ∧ (Lit.int k n).wf = true ∧ Flat ks r
  | none :: ks, cs => ∃ b r, cs = .bool b :: r ∧ Flat ks r
def kindOf (P : Program) (t : TypeId) : Option (Option IntKind) :=
  match P.underlying t with
  | some (.int k) => some (some k)
  | some .bool => some none
  | _ => none
def flatFields (P : Program) : Nat → List Field → Option (List (Option IntKind))
  | _, [] => some []
  | i, f :: r => match kindOf P f.type, flatFields P (i + 1) r with
    | some k, some ks => if f.offset = i ∧ P.cellsOf f.type = 1 then some (k :: ks) else none
    | _, _ => none
def flatOf (P : Program) (t : TypeId) : Option (List (Option IntKind)) :=
  match P.underlying t with
  | some (.struct fs) => match flatFields P 0 fs.toList with
    | some ks => if P.cellsOf t = fs.size then some ks else none
    | none => none
  | some (.array n e) => match kindOf P e with
    | some k => if P.cellsOf e = 1 ∧ P.cellsOf t = n then some (List.replicate n k) else none
    | none => none
  | _ => none

theorem kind_cell {t : TypeId} {k : Option IntKind} (hk : kindOf P t = some k) {fuel : Nat} {v : Value} {x : DataW H × List MemPlace} (h : DataW.trod enc P w base spare held fuel t [v] = some x) (r : List Value) (ks : List (Option IntKind)) (hr : Flat ks r) : Flat (k :: ks) (v :: r) := by
  unfold kindOf at hk
  split at hk
  · rename_i ik hu
    cases hk
    obtain ⟨n, hc, _, hw⟩ := DataW.trod_int hu h
    simp only [List.cons.injEq, and_true] at hc
    subst hc
    exact ⟨n, r, rfl, hw, hr⟩
  · rename_i hu
    cases hk
    obtain ⟨b, hc, _⟩ := DataW.trod_bool hu h
    simp only [List.cons.injEq, and_true] at hc
    subst hc
    exact ⟨b, r, rfl, hr⟩
  · cases hk
theorem drop_take_one {cs : List Value} {i : Nat} {v : Value} {r : List Value} (h : cs.drop i = v :: r) : (cs.drop i).take 1 = [v] := by rw [h]; rfl

theorem flat_fields {n : Nat} : ∀ (fs : List Field) (i : Nat) (ks : List (Option IntKind)) (cs : List Value), flatFields P i fs = some ks → cs.length = i + fs.length →
    (∀ (j : Nat) (f : Field), fs[j]? = some f → ∃ x, DataW.trod enc P w base spare held n f.type ((cs.drop f.offset).take (P.cellsOf f.type)) = some x) → Flat ks (cs.drop i)
  | [], i, ks, cs, h, hl, _ => by
    simp [flatFields] at h; subst h
    show cs.drop i = []
    exact List.drop_eq_nil_of_le (by simpa using Nat.le_of_eq hl)
  | f :: r, i, ks, cs, h, hl, hf => by
    simp only [flatFields] at h
    split at h
    · rename_i k ks' hk hks
      split at h
      · rename_i hoc
        cases h
        obtain ⟨x, hx⟩ := hf 0 f rfl
        rw [hoc.1, hoc.2] at hx
        have hlt : i < cs.length := by simp at hl; omega
        have hd : cs.drop i = cs[i] :: cs.drop (i + 1) := List.drop_eq_getElem_cons hlt
        rw [drop_take_one hd] at hx
        rw [hd]
        exact kind_cell hk hx _ _ (flat_fields r (i + 1) ks' cs hks (by simp at hl ⊢; omega) (fun j g hj => hf (j + 1) g (by simpa using hj)))
      · cases h
    · cases h
theorem flat_array {n m : Nat} {e : TypeId} {k : Option IntKind} (hk : kindOf P e = some k) (hc : P.cellsOf e = 1) (cs : List Value) (hl : cs.length = n)
    (hf : ∀ i, i < n → ∃ x, DataW.trod enc P w base spare held m e ((cs.drop (i * P.cellsOf e)).take (P.cellsOf e)) = some x) : ∀ d i, d + i = n → Flat (List.replicate d k) (cs.drop i)
  | 0, i, hi => by
    show cs.drop i = []
    exact List.drop_eq_nil_of_le (by omega)
  | d + 1, i, hi => by
    obtain ⟨x, hx⟩ := hf i (by omega)
    rw [hc, Nat.mul_one] at hx
    have hlt : i < cs.length := by omega
    have hd : cs.drop i = cs[i] :: cs.drop (i + 1) := List.drop_eq_getElem_cons hlt
    rw [drop_take_one hd] at hx
    rw [hd]
    exact kind_cell hk hx _ _ (flat_array hk hc cs hl hf d (i + 1) (by omega))

theorem open_flat {t : TypeId} {ks : List (Option IntKind)} {r : Reach} {b0 : Nat} {v : Value} {d : DataW H} {p : List MemPlace} (hk : flatOf P t = some ks) (hv : Value.okWide P w r b0 t v) (h : DataW.Trod enc P w base spare held t v d p) :
    ∃ cs : List Value, v = .agg cs.toArray ∧ Flat ks cs := by
  obtain ⟨fuel, hf⟩ := h
  unfold flatOf at hk
  unfold Value.okWide at hv
  split at hk
  · rename_i fs hu
    rw [hu] at hv
    obtain ⟨cs, rfl, _, _⟩ := hv
    split at hk
    · rename_i ks' hks
      split at hk
      · rename_i hc
        cases hk
        obtain ⟨xs, n, _, _, hl, hxl, hat⟩ := DataW.trod_struct hu hf
        refine ⟨cs.toList, by simp, ?_⟩
        have := flat_fields (enc := enc) (w := w) (base := base) (spare := spare) (held := held) (n := n) fs.toList 0 ks cs.toList hks (by simpa [Value.cells, hc] using hl) (fun j f hj => by
          have hj' : fs[j]? = some f := by simpa using hj
          have h1 := hat j f hj'
          have hjl : j < xs.length := by rw [hxl]; exact (Array.getElem?_eq_some_iff.1 hj').1
          exact ⟨xs[j], by rw [← List.getElem?_eq_getElem hjl]; simpa [Value.cells] using h1⟩)
        simpa using this
      · cases hk
    · cases hk
  · rename_i n e hu
    rw [hu] at hv
    obtain ⟨cs, rfl, _, _⟩ := hv
    split at hk
    · rename_i k hks
      split at hk
      · rename_i hc
        cases hk
        obtain ⟨xs, m, _, _, hl, hxl, hat⟩ := DataW.trod_array hu hf
        refine ⟨cs.toList, by simp, ?_⟩
        have := flat_array (enc := enc) (w := w) (base := base) (spare := spare) (held := held) (n := n) (m := m) hks hc.1 cs.toList (by simpa [Value.cells, hc.2] using hl) (fun i hi => by
          have h1 := hat i hi
          have hil : i < xs.length := by omega
          exact ⟨xs[i], by rw [← List.getElem?_eq_getElem hil]; simpa [Value.cells] using h1⟩) n 0 (by omega)
        simpa using this
      · cases hk
    · cases hk
  · cases hk

theorem trodAll_stays (hl : laidOutB P = true) {W W' : World} (hb : Below W.heap.size W W') : ∀ (ts : List TypeId) (vs : List Value) (ds : List (DataW H)) (ps : List MemPlace), (ts.all fun t => P.readableRec t && decide (t < P.types.size)) = true →
    DataW.TrodAll enc P W 0 (fun _ => true) true ts vs ds ps → DataW.TrodAll enc P W' 0 (fun b => decide (b < W.heap.size)) true ts vs ds ps
  | [], vs, ds, ps, _, h => by
    obtain ⟨rfl, rfl, rfl⟩ := trodAll_nil h
    exact trodAll_mk0
  | t :: ts, vs, ds, ps, ht, h => by
    obtain ⟨v, vs', d, ds', p, q, rfl, rfl, rfl, h1, h2⟩ := trodAll_cons h
    simp only [List.all_cons, Bool.and_eq_true, decide_eq_true_eq] at ht
    have hlt : ∀ x ∈ p, x.block < W.heap.size := by obtain ⟨m, hm⟩ := h1; exact DataW.trod_lt m _ _ _ hm
    exact trodAll_cons_mk (Below.trod hl ht.1.1 ht.1.2 h1 hb hlt) (trodAll_stays hl hb ts vs' ds' q ht.2 h2)

theorem law_post {f : Func} {s : ChangeSpec} {W W' : World} {args : Array Value} {ds gs : List (DataW H)} {before : List MemPlace} {tb : TypeId} (hl : laidOutB P = true) (hp : (f.params.toList.all fun t => P.readableRec t && decide (t < P.types.size)) = true)
    (hr : f.resultTypes = #[tb]) (hub : P.underlying tb = some .bool) (hv : s.vars = []) (hres : (s.fn H ds).results = [.lit (.bool true)]) (hargs : (s.fn H ds).args = ds) (hvars : (s.fn H ds).vars = [])
    (hW : DataW.Whole enc P f.params.toList s.vars false W args.toList ds gs before) (bel : Below W.heap.size W W') : s.post enc P f false true false false W args (.bool true) W' := by
  have hW' := hW
  obtain ⟨p, q, hA, hV, rfl, _, _⟩ := hW
  rw [hv] at hV
  obtain ⟨rfl, rfl⟩ := trodVars_none hV
  refine ⟨ds, [], p ++ [], [], p, [], hW', ?_, ?_, ?_, bel.frame _, fun h => by cases h⟩
  · rw [List.append_nil, hres, hr]
    exact trodAll_mk1 (shut_bool hub _)
  · rw [List.append_nil, hargs]
    exact trodAll_stays hl bel _ _ _ _ hp hA
  · rw [List.append_nil, hvars, hv]
    rfl
end
end Go.Ev

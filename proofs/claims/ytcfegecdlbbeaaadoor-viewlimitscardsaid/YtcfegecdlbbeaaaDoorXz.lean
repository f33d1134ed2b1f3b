/-
  From a walk of a law to the given statement: arguments (numbers, bools, texts, slices, structs of these, nested) are opened into plain data; what came in reads as it did.
-/
import Derived.Test.YtcfegecdlbbeaaaDoorXw
import Derived.ProofKit
import Derived.OpenShut
import Derived.ShutString
import Derived.ChangeOld
import Derived.Below
import Derived.Carry
namespace Go.E2
open Go.RowKit (Below)
open Go.ChangeShapes Go.WideShapes Go.ChangeAt Go.RowKit
/-- all cells of a world -/
def M1 (W : World) : Mem := memW ⟨fun _ _ => none, fun _ => none⟩ W
theorem M1_in (W : World) : InW (M1 W) W := memW_in ⟨fun _ _ _ h => (by cases h), fun _ _ h => (by cases h)⟩
theorem M1_cell {W : World} {b o : Nat} {v : Value} (h : W.cell? ⟨b, o, none⟩ = some v) : (M1 W).cell b o = some v := by
  simp only [World.cell?] at h
  simp only [M1, memW]
  split at h
  · rename_i c t f hc; rw [hc]; simpa using h
  · cases h
def RowRep (M : Mem) : List D → List Value → Prop
  | [], [] => True
  | d :: ds, v :: vs => Rep M d v ∧ RowRep M ds vs
  | _, _ => False
theorem RowRep.len {M : Mem} : ∀ {ds : List D} {vs : List Value}, RowRep M ds vs → ds.length = vs.length
  | [], [], _ => rfl
  | _ :: _, _ :: _, h => by rw [List.length_cons, List.length_cons, RowRep.len h.2]
  | [], _ :: _, h => h.elim
  | _ :: _, [], h => h.elim
theorem RowRep.at {M : Mem} : ∀ {ds : List D} {vs : List Value}, RowRep M ds vs → ∀ (j : Nat) d, ds[j]? = some d → ∃ v, vs[j]? = some v ∧ Rep M d v
  | [], [], _, _, _, h => by cases h
  | _ :: _, _ :: _, h, j, d, hd => by
    cases j with
    | zero => cases hd; exact ⟨_, rfl, h.1⟩
    | succ j => exact RowRep.at h.2 j d hd
  | [], _ :: _, h, _, _, _ => h.elim
  | _ :: _, [], h, _, _, _ => h.elim
theorem RowRep.app {M : Mem} : ∀ {a : List D} {x : List Value} {b : List D} {y : List Value}, RowRep M a x → RowRep M b y → RowRep M (a ++ b) (x ++ y)
  | [], [], _, _, _, h => h
  | _ :: _, _ :: _, _, _, h, h' => ⟨h.1, RowRep.app h.2 h'⟩
  | [], _ :: _, _, _, h, _ => h.elim
  | _ :: _, [], _, _, h, _ => h.elim
theorem RowRep.reps {M : Mem} {ρ : Env} : ∀ {ds : List D} {vs : List Value}, RowRep M ds vs → Reps ρ M (ds.map Cell.d) vs
  | [], [], _ => trivial
  | _ :: _, _ :: _, h => ⟨h.1, RowRep.reps h.2⟩
  | [], _ :: _, h => h.elim
  | _ :: _, [], h => h.elim

/-- what is read at the type t is one of the values of α -/
def Rd (k : Nat) (P : Program) (t : TypeId) {α : Type} (e : α → List D) (Q : α → Prop) : Prop :=
  ∀ (H : Type) (enc : TypeId × Value → H) (W : World) (fuel : Nat) (cs : List Value) (x : DataW H × List MemPlace), fuel ≤ k → DataW.trod enc P W 0 (fun _ => true) true fuel t cs = some x → ∃ a, Q a ∧ RowRep (M1 W) (e a) cs
section
variable {P : Program} {t : TypeId} {α β : Type}
theorem Rd.map {k : Nat} {e : α → List D} {e' : β → List D} {Q : α → Prop} {Q' : β → Prop} (h : Rd k P t e Q) (g : α → β) (hg : ∀ a, e' (g a) = e a) (hQ : ∀ a, Q a → Q' (g a)) : Rd k P t e' Q' := fun H enc W fuel cs x hk hx => by
  obtain ⟨a, h1, h2⟩ := h H enc W fuel cs x hk hx
  exact ⟨g a, hQ a h1, by rw [hg]; exact h2⟩
theorem rd_int {m : Nat} {k : IntKind} (hu : P.underlying t = some (.int k)) : Rd m P t (eInt k) (fun n => (Lit.int k n).wf = true) := fun _ _ _ _ _ _ _ hx => by
  obtain ⟨n, rfl, _, hw⟩ := DataW.trod_int hu hx
  exact ⟨n, hw, .v _, trivial⟩
theorem rd_bool {m : Nat} (hu : P.underlying t = some .bool) : Rd m P t eBool (fun _ => True) := fun _ _ _ _ _ _ _ hx => by
  obtain ⟨n, rfl, _⟩ := DataW.trod_bool hu hx
  exact ⟨n, trivial, .v _, trivial⟩
theorem rd_str {m : Nat} (hu : P.underlying t = some .string) : Rd m P t eStr (fun s => s.size ≤ maxLen) := fun _ _ _ _ _ _ _ hx => by
  obtain ⟨n, rfl, _, h⟩ := DataW.trod_string hu hx
  exact ⟨n, h, .v _, trivial⟩
theorem add_spot {a : Addr} {n j : Nat} {W : World} {v : Value} (h : W.cell? ((a.add n).add j) = some v) : W.cell? ⟨a.block, a.off + n + j, none⟩ = some v ∧ (n = 0 → j = 0 → a.spot = none) := by
  unfold Addr.add at h
  by_cases hn : n = 0
  · subst hn
    by_cases hj : j = 0
    · subst hj
      simp only [if_true] at h
      have hs : a.spot = none := by
        unfold World.cell? at h
        split at h
        · split at h
          · cases h
          · rename_i _ hs; cases hsp : a.spot with
            | none => rfl
            | some x => rw [hsp] at hs; simp at hs
        · cases h
      obtain ⟨b, o, s⟩ := a
      cases hs
      exact ⟨h, fun _ _ => rfl⟩
    · simp only [if_true, if_neg hj] at h
      exact ⟨h, fun _ h => absurd h hj⟩
  · by_cases hj : j = 0
    · subst hj
      simp only [if_true, if_neg hn] at h
      exact ⟨h, fun h => absurd h hn⟩
    · simp only [if_neg hn, if_neg hj] at h
      exact ⟨h, fun h => absurd h hn⟩
theorem rd_slice {k : Nat} {e : TypeId} {en : α → List D} {Q : α → Prop} {sz : Nat} (hu : P.underlying t = some (.slice e)) (he : Rd k P e en Q) (hc : P.cellsOf e = sz) (h0 : 0 < sz) (hsz : ∀ a, (en a).length = sz) :
    Rd k P t (eSl en) (fun L => L.length ≤ maxLen ∧ ∀ a ∈ L, Q a) := fun H enc W fuel cs x hk hx => by
  rcases DataW.trod_slice hu hx with ⟨rfl, _⟩ | ⟨a, len, cap, elems, rest, n, hfuel, rfl, _, _, hle, hcap, hel, hat, _, _⟩
  · exact ⟨[], ⟨Nat.zero_le _, fun _ h => by cases h⟩, .nil, trivial⟩
  · have key : ∀ m, m ≤ len → ∃ L : List α, L.length = m ∧ (∀ x ∈ L, Q x) ∧ ∀ (i : Nat) y, L[i]? = some y → ∃ cs, W.cells? 0 (a.add (i * sz)) sz = some cs ∧ RowRep (M1 W) (en y) cs := by
      intro m
      induction m with
      | zero => exact fun _ => ⟨[], rfl, fun _ h => (by cases h), fun _ _ h => by cases h⟩
      | succ m ih =>
        intro hm
        obtain ⟨L, hl, hq, hL⟩ := ih (by omega)
        have h1 := hat m (by omega)
        rw [hc, List.getElem?_eq_getElem (by omega : m < elems.length)] at h1
        obtain ⟨cs, hcs, h2⟩ := Option.bind_eq_some_iff.1 h1
        obtain ⟨y, hy, hr⟩ := he _ _ _ _ _ _ (by omega) h2
        refine ⟨L ++ [y], by simp [hl], fun x hx => ?_, fun i z hz => ?_⟩
        · rcases List.mem_append.1 hx with h | h
          · exact hq x h
          · simp at h; subst h; exact hy
        · by_cases hi : i < L.length
          · rw [List.getElem?_append_left hi] at hz; exact hL i z hz
          · rw [List.getElem?_append_right (by omega)] at hz
            have : i = m := by
              have := (List.getElem?_eq_some_iff.1 hz).1
              simp at this; omega
            subst this
            rw [hl, Nat.sub_self] at hz
            cases hz
            exact ⟨cs, hcs, hr⟩
    obtain ⟨L, hl, hq, hL⟩ := key len (Nat.le_refl _)
    refine ⟨L, ⟨by omega, hq⟩, ?_, trivial⟩
    cases hL0 : L with
    | nil => rw [hL0] at hl; simp at hl; subst hl; exact .nil
    | cons y ys =>
      rw [← hL0]
      have cellAt : ∀ (i : Nat) y (j : Nat), L[i]? = some y → j < sz → ∃ v cs, W.cells? 0 (a.add (i * sz)) sz = some cs ∧ cs[j]? = some v ∧ RowRep (M1 W) (en y) cs ∧ W.cell? ⟨a.block, a.off + i * sz + j, none⟩ = some v ∧ (i = 0 → j = 0 → a.spot = none) := by
        intro i y j hy hj
        obtain ⟨cs, h1, h2⟩ := hL i y hy
        have hlen : cs.length = sz := by rw [← h2.len, hsz]
        have h3 := h1
        unfold World.cells? at h3
        rw [if_pos (Nat.zero_le _)] at h3
        have h4 := mapM_some_get h3 j j (by simp [hj])
        rw [List.getElem?_eq_getElem (by omega : j < cs.length)] at h4
        obtain ⟨h5, h6⟩ := add_spot h4
        exact ⟨_, cs, h1, List.getElem?_eq_getElem (by omega), h2, h5, fun hi hj => h6 (by rw [hi, Nat.zero_mul]) hj⟩
      have hsp : a.spot = none := by
        obtain ⟨_, _, _, _, _, _, h⟩ := cellAt 0 y 0 (by rw [hL0]; rfl) h0
        exact h rfl rfl
      obtain ⟨b, off, sp⟩ := a
      cases hsp
      have hll : (List.map en L).length = len := by rw [List.length_map, hl]
      rw [← hll]
      refine .sl (sz := sz) (f := fun i j => ((M1 W).cell b (off + i * sz + j)).getD (.bool false)) (by omega) (fun i row hr => ?_) (fun i row j d hi hj => ?_) (fun i row j d hi hj => ?_)
      · rw [List.getElem?_map] at hr
        obtain ⟨y, _, rfl⟩ := Option.map_eq_some_iff.1 hr
        exact hsz y
      · rw [List.getElem?_map] at hi
        obtain ⟨y, hy, rfl⟩ := Option.map_eq_some_iff.1 hi
        have hjz : j < sz := by rw [← hsz y]; exact (List.getElem?_eq_some_iff.1 hj).1
        obtain ⟨v, cs, _, _, _, h5, _⟩ := cellAt i y j hy hjz
        rw [M1_cell h5]; rfl
      · rw [List.getElem?_map] at hi
        obtain ⟨y, hy, rfl⟩ := Option.map_eq_some_iff.1 hi
        have hjz : j < sz := by rw [← hsz y]; exact (List.getElem?_eq_some_iff.1 hj).1
        obtain ⟨v, cs, _, h4, h3, h5, _⟩ := cellAt i y j hy hjz
        obtain ⟨u, h6, h7⟩ := h3.at j d hj
        rw [M1_cell h5]
        rw [h4] at h6; cases h6
        exact h7
def RdF (k : Nat) (P : Program) (off : Nat) (fs : List Field) (tot : Nat) {α : Type} (e : α → List D) (Q : α → Prop) : Prop :=
  ∀ (H : Type) (enc : TypeId × Value → H) (W : World) (n : Nat) (cs : List Value), n ≤ k → cs.length = tot →
    (∀ (j : Nat) (f : Field), fs[j]? = some f → ∃ x, DataW.trod enc P W 0 (fun _ => true) true n f.type ((cs.drop f.offset).take (P.cellsOf f.type)) = some x) → ∃ a, Q a ∧ RowRep (M1 W) (e a) (cs.drop off)
theorem rdF_nil {k tot : Nat} : RdF k P tot [] tot (fun _ : Unit => []) (fun _ => True) := fun _ _ _ _ _ _ hl _ => ⟨(), trivial, by rw [List.drop_eq_nil_of_le (by omega)]; trivial⟩
theorem rdF_cons {k off tot sz : Nat} {f : Field} {fs : List Field} {e1 : α → List D} {e2 : β → List D} {Q1 : α → Prop} {Q2 : β → Prop} (ho : f.offset = off) (hc : P.cellsOf f.type = sz) (h1 : Rd k P f.type e1 Q1) (h2 : RdF k P (off + sz) fs tot e2 Q2) :
    RdF k P off (f :: fs) tot (fun p : α × β => e1 p.1 ++ e2 p.2) (fun p => Q1 p.1 ∧ Q2 p.2) := fun H enc W n cs hn hl hf => by
  obtain ⟨x, hx⟩ := hf 0 f rfl
  obtain ⟨a, qa, ra⟩ := h1 _ _ _ _ _ _ hn hx
  obtain ⟨b, qb, rb⟩ := h2 H enc W n cs hn hl (fun j g hj => hf (j + 1) g hj)
  refine ⟨(a, b), ⟨qa, qb⟩, ?_⟩
  have : cs.drop off = (cs.drop off).take sz ++ cs.drop (off + sz) := by
    rw [← List.drop_drop]; exact (List.take_append_drop sz (cs.drop off)).symm
  rw [this]
  rw [ho, hc] at ra
  exact ra.app rb
theorem rd_struct1 {k : Nat} {fs : Array Field} {tot : Nat} {e : α → List D} {Q : α → Prop} (hu : P.underlying t = some (.struct fs)) (hc : P.cellsOf t = tot) (h : RdF k P 0 fs.toList tot e Q) : Rd (k + 1) P t e Q := fun H enc W fuel cs x hk hx => by
  obtain ⟨xs, n, hfuel, _, hl, hxl, hat⟩ := DataW.trod_struct hu hx
  obtain ⟨a, qa, ra⟩ := h H enc W n cs (by omega) (by rw [hl, hc]) (fun j f hj => by
    have hj' : fs[j]? = some f := by simpa using hj
    have h1 := hat j f hj'
    have hjl : j < xs.length := by rw [hxl]; exact (Array.getElem?_eq_some_iff.1 hj').1
    exact ⟨xs[j], by rw [← List.getElem?_eq_getElem hjl]; exact h1⟩)
  exact ⟨a, qa, by simpa using ra⟩
theorem rd_zero {e : α → List D} {Q : α → Prop} : Rd 0 P t e Q := fun H enc W fuel cs x hk hx => by
  have : fuel = 0 := by omega
  subst this
  simp [DataW.trod] at hx
theorem rd_struct {k : Nat} {fs : Array Field} {tot : Nat} {e : α → List D} {Q : α → Prop} (hu : P.underlying t = some (.struct fs)) (hc : P.cellsOf t = tot) (h : RdF k P 0 fs.toList tot e Q) : Rd k P t e Q := fun H enc W fuel cs x hk hx =>
  rd_struct1 hu hc h H enc W fuel cs x (by omega) hx

/-! ### arguments -/
/-- a type whose values are one cell -/
def oneCell (P : Program) (t : TypeId) : Bool := match P.underlying t with
  | some (.int _) | some .bool | some .string | some (.slice _) => true
  | _ => false
theorem oneCell_cells {W : World} {r : Reach} {b0 : Nat} {v : Value} (h : oneCell P t = true) (hv : Value.okWide P W r b0 t v) : v.cells.toList = [v] := by
  unfold oneCell at h
  split at h
  · rename_i hu; obtain ⟨n, rfl⟩ := okWide_int hu hv; rfl
  · rename_i hu; obtain ⟨n, rfl⟩ := okWide_bool hu hv; rfl
  · rename_i hu; obtain ⟨n, rfl⟩ := okWide_string hu hv; rfl
  · rename_i hu; obtain ⟨a, n, c, rfl⟩ := okWide_slice hu hv; rfl
  · cases h
theorem open_one {H : Type} {enc : TypeId × Value → H} {W : World} {r : Reach} {b0 : Nat} {v : Value} {d : DataW H} {p : List MemPlace} {e : α → List D} {Q : α → Prop} (hr : ∀ k, Rd k P t e Q) (h1 : oneCell P t = true) (hv : Value.okWide P W r b0 t v) (h : DataW.Trod enc P W 0 (fun _ => true) true t v d p) :
    ∃ a, Q a ∧ ∀ x, e a = [x] → ∀ ρ, A1.rep ρ (M1 W) (.c (.d x)) v := by
  obtain ⟨fuel, hf⟩ := h
  obtain ⟨a, qa, ra⟩ := hr fuel _ _ _ _ _ _ (Nat.le_refl _) hf
  rw [oneCell_cells h1 hv] at ra
  exact ⟨a, qa, fun x hx ρ => by rw [hx] at ra; exact ra.1⟩
theorem open_agg {H : Type} {enc : TypeId × Value → H} {W : World} {r : Reach} {b0 : Nat} {v : Value} {d : DataW H} {p : List MemPlace} {e : α → List D} {Q : α → Prop} {fs : Array Field} (hr : ∀ k, Rd k P t e Q) (hu : P.underlying t = some (.struct fs)) (hv : Value.okWide P W r b0 t v) (h : DataW.Trod enc P W 0 (fun _ => true) true t v d p) :
    ∃ a, Q a ∧ ∀ ρ, A1.rep ρ (M1 W) (.agg ((e a).map Cell.d)) v := by
  obtain ⟨fuel, hf⟩ := h
  obtain ⟨a, qa, ra⟩ := hr fuel _ _ _ _ _ _ (Nat.le_refl _) hf
  obtain ⟨cs, rfl, _⟩ := okWide_struct hu hv
  exact ⟨a, qa, fun ρ => ⟨cs, rfl, RowRep.reps ra⟩⟩
/-- the law's walk, from the world of the call -/
theorem law_walk {f : FuncId} {args : List A1} {vs : List Value} {W : World} (h : Con P f args [] (.s (.c (.d (.v (.bool true))))) []) (hT : Tab P (M1 W)) (hr : ∀ ρ, A1.reps ρ (M1 W) args vs) :
    Calls P f vs.toArray W fun e W' => e = .returned (.bool true) ∧ Below W.heap.size W W' := by
  refine (h (fun _ => .bool false) (M1 W) W (fun _ => False) vs hT (fun ρ' _ => ⟨⟨fun j ob h => (by cases h), fun i j x y b h => (by cases h), fun j ob b h => (by cases h), M1_in W, Mem.le_refl _, fun b _ _ => ⟨fun _ => rfl, rfl⟩, Kept.refl _ _, fun j hj => absurd rfl hj⟩, hr ρ'⟩)).mono ?_
  rintro e W' ⟨u, ρ1, M', rfl, h2⟩
  obtain ⟨h3, h4⟩ := h2 ρ1 (Agree.refl _ _)
  cases h3
  exact ⟨rfl, h4.kept.below⟩
end
section
variable {H : Type} {enc : TypeId × Value → H} {P : Program} {w : World} {base : Nat} {spare : Nat → Bool} {held : Bool}
theorem trodAll_stays (hl : laidOutB P = true) {W W' : World} (hb : Below W.heap.size W W') : ∀ (ts : List TypeId) (vs : List Value) (ds : List (DataW H)) (ps : List MemPlace), (ts.all fun t => P.readableRec t && decide (t < P.types.size)) = true →
    DataW.TrodAll enc P W 0 (fun _ => true) true ts vs ds ps → DataW.TrodAll enc P W' 0 (fun b => decide (b < W.heap.size)) true ts vs ds ps
  | [], vs, ds, ps, _, h => by
    obtain ⟨rfl, rfl, rfl⟩ := trodAll_nil h
    exact trodAll_mk0
  | t :: ts, vs, ds, ps, ht, h => by
    obtain ⟨v, vs', d, ds', p, q, rfl, rfl, rfl, h1, h2⟩ := trodAll_cons h
    simp only [List.all_cons, Bool.and_eq_true, decide_eq_true_eq] at ht
    have hlt : ∀ x ∈ p, x.block < W.heap.size := by obtain ⟨m, hm⟩ := h1; exact DataW.trod_lt m _ _ _ hm
    exact trodAll_cons_mk (Below.trod hl ht.1.1 ht.1.2 h1 hb hlt) (trodAll_stays hl hb ts vs' ds' q ht.2 h2)
theorem law_post {f : Func} {s : ChangeSpec} {W W' : World} {args : Array Value} {ds gs : List (DataW H)} {before : List MemPlace} {tb : TypeId} (hl : laidOutB P = true) (hp : (f.params.toList.all fun t => P.readableRec t && decide (t < P.types.size)) = true)
    (hr : f.resultTypes = #[tb]) (hub : P.underlying tb = some .bool) (hv : s.vars = []) (hres : (s.fn H ds).results = [.lit (.bool true)]) (hargs : (s.fn H ds).args = ds) (hvars : (s.fn H ds).vars = [])
    (hW : DataW.Whole enc P f.params.toList s.vars false W args.toList ds gs before) (bel : Below W.heap.size W W') : s.post enc P f false true false false W args (.bool true) W' := by
  have hW' := hW
  obtain ⟨p, q, hA, hV, rfl, _, _⟩ := hW
  rw [hv] at hV
  obtain ⟨rfl, rfl⟩ := trodVars_none hV
  refine ⟨ds, [], p ++ [], [], p, [], hW', ?_, ?_, ?_, bel.frame _, fun h => by cases h⟩
  · rw [List.append_nil, hres, hr]
    exact trodAll_mk1 (shut_bool hub _)
  · rw [List.append_nil, hargs]
    exact trodAll_stays hl bel _ _ _ _ hp hA
  · rw [List.append_nil, hvars, hv]
    rfl
end
end Go.E2

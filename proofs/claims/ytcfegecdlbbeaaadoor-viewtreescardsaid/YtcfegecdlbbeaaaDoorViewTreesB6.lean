/-
  Part 6 of the texts under the law ViewTrees: the calculus, the plain functions, their walks, plain facts.
-/
import Derived.Test.YtcfegecdlbbeaaaDoorViewTreesB5
section
/-
  The name of a node by keys: program and reference give the same. No program in sight.
-/
namespace Go.Proofs.YtcfegecdlbbeaaaDoor
open Go Go.E2
structure OkV (v : View) : Prop where
  kind : 1 ≤ v.Kind ∧ v.Kind ≤ 13
  key : keyE v.Key = true
  atts : v.Attrs.length ≤ 24
  acts : v.Actions.length ≤ 24
  kids : v.Kids.length ≤ 100
  atf : atF none v.Attrs = 0
  acf : acF none v.Actions = 0
  dup : dupF [] v.Kids = false
theorem val_parts {f : Nat} {v : View} {d m : Int} (h : (valF (f + 1) v d m).1 = 0) : d ≤ 16 ∧ m + 1 ≤ 400 ∧ OkV v ∧ (kdF (fun k m => valF f k (d + 1) m) v.Kids (m + 1)).1 = 0 := by
  change (valB (fun k m => valF f k (d + 1) m) v d m).1 = 0 at h
  unfold valB at h
  by_cases c1 : d > 16
  · rw [if_pos c1] at h; cases h
  rw [if_neg c1] at h
  by_cases c2 : m + 1 > 400
  · rw [if_pos c2] at h; cases h
  rw [if_neg c2] at h
  by_cases c3 : v.Kind < 1 ∨ v.Kind > 13
  · rw [if_pos c3] at h; cases h
  rw [if_neg c3] at h
  cases c4 : keyE v.Key with
  | false => rw [c4, if_pos rfl] at h; cases h
  | true =>
    rw [c4, if_neg (by exact Bool.noConfusion)] at h
    by_cases c5 : v.Attrs.length > 24 ∨ v.Actions.length > 24 ∨ v.Kids.length > 100
    · rw [if_pos c5] at h; cases h
    rw [if_neg c5] at h
    by_cases c6 : atF none v.Attrs = 0
    · rw [if_neg (by simp [c6])] at h
      by_cases c7 : acF none v.Actions = 0
      · rw [if_neg (by simp [c7])] at h
        cases c8 : dupF [] v.Kids with
        | true => rw [c8, if_pos rfl] at h; cases h
        | false =>
          rw [c8, if_neg (by exact Bool.noConfusion)] at h
          exact ⟨by omega, by omega, ⟨by omega, c4, by omega, by omega, by omega, c6, c7, c8⟩, h⟩
      · rw [if_pos c7] at h; exact absurd h c7
    · rw [if_pos c6] at h; exact absurd h c6
theorem kd_each {g : View → Int → Int × Int} : ∀ {l : List View} {m : Int}, (kdF g l m).1 = 0 → ∀ k ∈ l, ∃ m', (g k m').1 = 0
  | [], m, _, k, hk => by cases hk
  | x :: r, m, h, k, hk => by
    rw [kdF_cons] at h
    by_cases c : (g x m).1 = 0
    · rw [if_neg (by simp [c])] at h
      rcases List.mem_cons.1 hk with e | e
      · subst e; exact ⟨m, c⟩
      · exact kd_each h k e
    · rw [if_pos c] at h; exact absurd h c
theorem reach_valid {t : Tree} (S : Shp t) (he : errV (dscT t) = 0) : ∀ {d : Nat} {x : Int}, Reach t.Nodes t.Root d x → d ≤ 15 ∧ ∃ m, (valF (17 - d) (dsc t.Nodes (t.Nodes.length - d) x) (1 + (d : Int)) m).1 = 0
  | 0, x, hr => by
    have := reach_zero hr
    subst this
    exact ⟨by omega, 0, he⟩
  | d + 1, x, hr => by
    obtain ⟨h1, h2⟩ := reach_up S.to0 hr
    obtain ⟨h3, m, h4⟩ := reach_valid S he h1
    have hd := reach_depth S.to0 hr
    rw [show 17 - d = (16 - d) + 1 by omega, show t.Nodes.length - d = (t.Nodes.length - (d + 1)) + 1 by omega] at h4
    obtain ⟨_, _, _, h5⟩ := val_parts h4
    obtain ⟨m', h6⟩ := kd_each h5 (dsc t.Nodes (t.Nodes.length - (d + 1)) x) (List.mem_map.2 ⟨x, h2, rfl⟩)
    have e : 1 + ((d + 1 : Nat) : Int) = 1 + (d : Int) + 1 := by omega
    refine ⟨?_, m', ?_⟩
    · by_cases c : d = 15
      · subst c
        rw [show 16 - 15 = 0 + 1 by omega] at h6
        have := (val_parts h6).1
        omega
      · omega
    · rw [e, show 17 - (d + 1) = 16 - d by omega]; exact h6
theorem good_node {t : Tree} (S : Shp t) (he : errV (dscT t) = 0) {d : Nat} {x : Int} (hr : Reach t.Nodes t.Root d x) : d ≤ 15 ∧ OkV (View.mk (nd t.Nodes x).Kind (nd t.Nodes x).Key (nd t.Nodes x).Attrs (nd t.Nodes x).Actions ((nd t.Nodes x).Kids.map (dsc t.Nodes (t.Nodes.length - (d + 1))))) := by
  obtain ⟨h1, m, h2⟩ := reach_valid S he hr
  have hd := reach_depth S.to0 hr
  rw [show 17 - d = (16 - d) + 1 by omega, show t.Nodes.length - d = (t.Nodes.length - (d + 1)) + 1 by omega] at h2
  exact ⟨h1, (val_parts h2).2.2.1⟩
theorem kids100 {t : Tree} (S : Shp t) (he : errV (dscT t) = 0) {d : Nat} {x : Int} (hr : Reach t.Nodes t.Root d x) : (nd t.Nodes x).Kids.length ≤ 100 := by
  have h : ((nd t.Nodes x).Kids.map (dsc t.Nodes (t.Nodes.length - (d + 1)))).length ≤ 100 := (good_node S he hr).2.kids
  rwa [List.length_map] at h
theorem key24 {t : Tree} (S : Shp t) (he : errV (dscT t) = 0) {d : Nat} {x : Int} (hr : Reach t.Nodes t.Root d x) : (nd t.Nodes x).Key.size ≤ 24 := by
  have h : keyE (nd t.Nodes x).Key = true := (good_node S he hr).2.key
  exact (of_decide_eq_true h).1
/-- the decimal forms of small numbers -/
def decChk (i : Nat) : Bool := match r11_Decimal N0 (i : Int), strconv_Itoa (i : Int) with
  | some a, some b => a.data == b.data && decide (a.size ≤ 2)
  | _, _ => false
theorem decChk_all : ((List.range 100).all decChk) = true := by decide +kernel
theorem dec_ok {i : Int} (h0 : 0 ≤ i) (h1 : i < 100) : ∃ s, r11_Decimal N0 i = some s ∧ strconv_Itoa i = some s ∧ s.size ≤ 2 := by
  obtain ⟨n, rfl⟩ : ∃ n : Nat, i = n := ⟨i.toNat, by omega⟩
  have := List.all_eq_true.1 decChk_all n (List.mem_range.2 (by omega))
  unfold decChk at this
  split at this
  · rename_i a b ha hb
    simp only [Bool.and_eq_true, decide_eq_true_eq] at this
    have e : a = b := by
      have := eq_of_beq this.1
      cases a; cases b; simp_all
    subst e
    exact ⟨a, ha, hb, this.2⟩
  · cases this
/-- how many of the kids before x are alike -/
def cntF (p : Int → Bool) (x : Int) : List Int → Nat
  | [] => 0
  | k :: r => if k = x then 0 else (if p k = true then 1 else 0) + cntF p x r
theorem cntF_cons (p : Int → Bool) (x k : Int) (r : List Int) : cntF p x (k :: r) = if k = x then 0 else (if p k = true then 1 else 0) + cntF p x r := rfl
theorem cntF_le (p : Int → Bool) (x : Int) : ∀ l : List Int, cntF p x l ≤ l.length
  | [] => Nat.le_refl _
  | k :: r => by
    have := cntF_le p x r
    rw [cntF_cons, List.length_cons]
    split
    · omega
    · split <;> omega
theorem cntF_lt (p : Int → Bool) (x : Int) : ∀ {l : List Int}, x ∈ l → cntF p x l < l.length
  | k :: r, h => by
    rw [cntF_cons, List.length_cons]
    by_cases c : k = x
    · rw [if_pos c]; omega
    · rw [if_neg c]
      have := cntF_lt p x (l := r) (by
        rcases List.mem_cons.1 h with e | e
        · exact absurd e.symm c
        · exact e)
      split <;> omega
def alike (L : List Node) (n : Node) (k : Int) : Bool := ((nd L k).Key.toList == (ByteArray.mk #[]).toList) && ((nd L k).Kind == n.Kind)
theorem vcount {L : List Node} {b : Bool} {x : Int} {n y : Node} {c1 c2 : Bool} (hK : y.Kids.length ≤ 1000000) (k : Int → Option Str) :
    loopK (vw_PathName_L1 (mpo L, b) x (n, c1) k (y, c2)) N0 (0, 0) = k (cntF (alike L n) x y.Kids : Int) := by
  refine loopI (L := y.Kids) (fun (s : Nat) i => ((s : Int), (i : Int))) (fun i s => s + cntF (alike L n) x (y.Kids.drop i) = cntF (alike L n) x y.Kids ∧ s ≤ i) (fun r => r = k (cntF (alike L n) x y.Kids : Int)) (by unfold N0; omega) ?_ ?_ 0 ⟨by simp, Nat.le_refl _⟩
  · intro again s i z hz hi ⟨h1, h2⟩
    rw [drop_cons' hz, cntF_cons] at h1
    unfold vw_PathName_L1
    simp only [nz_lt hi, selT', idxO_nat, hz, bindN, jnN, mpo_getO]
    by_cases c : z = x
    · rw [if_pos c] at h1
      rw [show (z == x) = true by simp [c], sel_true, ← h1]
      exact .inl rfl
    · rw [if_neg c] at h1
      rw [show (z == x) = false by simp [c], sel_false, wrap_suc hi (by unfold N0; omega)]
      cases hp : alike L n z with
      | true =>
        rw [if_pos hp] at h1
        unfold alike at hp
        rw [hp, sel_true, wrap_id (by omega) (by omega)]
        exact .inr ⟨s + 1, ⟨by omega, by omega⟩, rfl⟩
      | false =>
        rw [if_neg (by rw [hp]; exact Bool.noConfusion)] at h1
        unfold alike at hp
        rw [hp, sel_false]
        exact .inr ⟨s, ⟨by omega, by omega⟩, rfl⟩
  · intro again s ⟨h1, h2⟩
    rw [List.drop_length] at h1
    unfold vw_PathName_L1
    simp only [nz_ge (Nat.le_refl _), selF']
    rw [← h1]; rfl
theorem rcount {t : Tree} {n y : Node} {x : Int} (hx : n.ID = x) (hl : t.Nodes.length ≤ 400) (hK : y.Kids.length ≤ 1000000) (k : Int → Option Str) :
    loopK (r14_PathName_L1 t n k y) N0 (0, 0) = k (cntF (alike t.Nodes n) x y.Kids : Int) := by
  refine loopI (L := y.Kids) (fun (s : Nat) i => ((s : Int), (i : Int))) (fun i s => s + cntF (alike t.Nodes n) x (y.Kids.drop i) = cntF (alike t.Nodes n) x y.Kids ∧ s ≤ i) (fun r => r = k (cntF (alike t.Nodes n) x y.Kids : Int)) (by unfold N0; omega) ?_ ?_ 0 ⟨by simp, Nat.le_refl _⟩
  · intro again s i z hz hi ⟨h1, h2⟩
    rw [drop_cons' hz, cntF_cons] at h1
    unfold r14_PathName_L1
    simp only [nz_lt hi, idxO_nat, hz, bindN, jnN, gO_true, Bool.true_and, hx]
    by_cases c : z = x
    · rw [if_pos c] at h1
      rw [show (z != x) = false by simp [c], sel_false, ← h1]
      exact .inl rfl
    · rw [if_neg c] at h1
      rw [show (z != x) = true by simp [c], sel_true, Node_ok t z (by unfold N0; omega), bind_some', wrap_suc hi (by unfold N0; omega)]
      cases hp : alike t.Nodes n z with
      | true =>
        rw [if_pos hp] at h1
        unfold alike at hp
        rw [hp, sel_true, wrap_id (by omega) (by omega)]
        exact .inr ⟨s + 1, ⟨by omega, by omega⟩, rfl⟩
      | false =>
        rw [if_neg (by rw [hp]; exact Bool.noConfusion)] at h1
        unfold alike at hp
        rw [hp, sel_false]
        exact .inr ⟨s, ⟨by omega, by omega⟩, rfl⟩
  · intro again s ⟨h1, h2⟩
    rw [List.drop_length] at h1
    unfold r14_PathName_L1
    simp only [nz_ge (Nat.le_refl _), gO_false, bindN, Bool.false_and, selF']
    rw [← h1]; rfl
theorem catO_eq {s u : Str} (h : s.size + u.size ≤ 1000000) : catO s u = some (s ++ u) := if_pos (by omega)
/-- the part of the name that a node adds -/
def seg (L : List Node) (x : Int) : Option Str :=
  if (nd L x).Key = ByteArray.mk #[] then (strconv_Itoa (nd L x).Kind).bind fun a => (strconv_Itoa (cntF (alike L (nd L x)) x (nd L (up L x)).Kids : Int)).bind fun b => some (ByteArray.mk #[47, 35] ++ a ++ ByteArray.mk #[46] ++ b)
  else some (ByteArray.mk #[47] ++ (nd L x).Key)
theorem pth_get {L : List Node} {root : Int} (S : Shp0 L root) : ∀ {d : Nat} {x : Int}, Reach L root d x → ∀ i y, (pth L d x)[i]? = some y → i ≤ d ∧ Reach L root i y ∧ (0 < i → (pth L d x)[i - 1]? = some (up L y))
  | 0, x, hr, i, y, h => by
    change [x][i]? = some y at h
    obtain ⟨hi, e⟩ := List.getElem?_eq_some_iff.1 h
    simp at hi; subst hi
    simp at e; subst e
    exact ⟨Nat.le_refl _, hr, fun h => by omega⟩
  | d + 1, x, hr, i, y, h => by
    have hu := (reach_up S hr).1
    unfold pth at h ⊢
    by_cases c : i < (pth L d (up L x)).length
    · rw [List.getElem?_append_left c] at h
      obtain ⟨h1, h2, h3⟩ := pth_get S hu i y h
      exact ⟨by omega, h2, fun h0 => by rw [List.getElem?_append_left (by omega)]; exact h3 h0⟩
    · rw [List.getElem?_append_right (by omega)] at h
      rw [pth_len] at c h
      obtain ⟨hi, e⟩ := List.getElem?_eq_some_iff.1 h
      simp at hi
      have hi' : i = d + 1 := by omega
      subst hi'
      simp at e; subst e
      exact ⟨Nat.le_refl _, hr, fun _ => by
        rw [List.getElem?_append_left (by rw [pth_len]; omega), Nat.add_sub_cancel]
        exact pth_last d _⟩
theorem seg_ok {t : Tree} (S : Shp t) (he : errV (dscT t) = 0) {d : Nat} {x : Int} (hr : Reach t.Nodes t.Root d x) : ∃ s, seg t.Nodes x = some s ∧ s.size ≤ 100 ∧
    ((nd t.Nodes x).Key = ByteArray.mk #[] → ∃ a b, strconv_Itoa (nd t.Nodes x).Kind = some a ∧ r11_Decimal N0 (nd t.Nodes x).Kind = some a ∧ strconv_Itoa (cntF (alike t.Nodes (nd t.Nodes x)) x (nd t.Nodes (up t.Nodes x)).Kids : Int) = some b ∧ r11_Decimal N0 (cntF (alike t.Nodes (nd t.Nodes x)) x (nd t.Nodes (up t.Nodes x)).Kids : Int) = some b ∧ a.size ≤ 2 ∧ b.size ≤ 2 ∧ s = ByteArray.mk #[47, 35] ++ a ++ ByteArray.mk #[46] ++ b) ∧
    ((nd t.Nodes x).Key ≠ ByteArray.mk #[] → s = ByteArray.mk #[47] ++ (nd t.Nodes x).Key) := by
  have hk := key24 S he hr
  by_cases c : (nd t.Nodes x).Key = ByteArray.mk #[]
  · have hkind : 1 ≤ (nd t.Nodes x).Kind ∧ (nd t.Nodes x).Kind ≤ 13 := (good_node S he hr).2.kind
    have hcnt : (cntF (alike t.Nodes (nd t.Nodes x)) x (nd t.Nodes (up t.Nodes x)).Kids) < 100 := by
      cases d with
      | zero =>
        have := reach_zero hr
        subst this
        rw [up_root S.to0, nd_none (look_zero S.to0)]
        exact Nat.zero_lt_succ _
      | succ d =>
        obtain ⟨h1, h2⟩ := reach_up S.to0 hr
        have := cntF_lt (alike t.Nodes (nd t.Nodes x)) x h2
        have := kids100 S he h1
        omega
    obtain ⟨a, a1, a2, a3⟩ := dec_ok (i := (nd t.Nodes x).Kind) (by omega) (by omega)
    obtain ⟨b, b1, b2, b3⟩ := dec_ok (i := (cntF (alike t.Nodes (nd t.Nodes x)) x (nd t.Nodes (up t.Nodes x)).Kids : Int)) (by omega) (by omega)
    refine ⟨_, by unfold seg; rw [if_pos c, a2, bind_some', b2, bind_some'], ?_, fun _ => ⟨a, b, a2, a1, b2, b1, a3, b3, rfl⟩, fun h => absurd c h⟩
    simp only [ByteArray.size_append]
    show 2 + a.size + 1 + b.size ≤ 100
    omega
  · refine ⟨_, by unfold seg; rw [if_neg c], ?_, fun h => absurd h c, fun _ => rfl⟩
    simp only [ByteArray.size_append]
    show 1 + _ ≤ 100
    omega
/-- a list of parts, put together -/
def segs (L : List Node) : List Int → Str
  | [] => ByteArray.mk #[]
  | x :: r => (match seg L x with
    | some s => s
    | none => ByteArray.mk #[]) ++ segs L r
def segsR (L : List Node) (s : Str) : List Int → Str
  | [] => s
  | x :: r => segsR L (s ++ (match seg L x with
    | some s => s
    | none => ByteArray.mk #[])) r
theorem segsR_snoc (L : List Node) : ∀ (l : List Int) (s : Str) (x : Int), segsR L s (l ++ [x]) = segsR L s l ++ (match seg L x with
    | some s => s
    | none => ByteArray.mk #[])
  | [], _, _ => rfl
  | _y :: l, _s, x => segsR_snoc L l _ x
theorem name_loops {t : Tree} (S : Shp t) (he : errV (dscT t) = 0) {d : Nat} {x : Int} (hr : Reach t.Nodes t.Root d x) (k : Str → Option Str) :
    loopK (vw_PathName_L2 (mpo t.Nodes, true) k (pth t.Nodes d x)) N0 (ByteArray.mk #[], 0) = k (segsR t.Nodes (ByteArray.mk #[]) (pth t.Nodes d x)) ∧
    loopK (r14_PathName_L2 t (pth t.Nodes d x) k) N0 (ByteArray.mk #[], 0) = k (segsR t.Nodes (ByteArray.mk #[]) (pth t.Nodes d x)) := by
  have hl := S.lim.2.2.2
  have hd := reach_depth S.to0 hr
  have hlen : (pth t.Nodes d x).length < N0 := by rw [pth_len]; unfold N0; omega
  constructor
  · refine loopI (L := pth t.Nodes d x) (fun (s : Str) i => (s, (i : Int))) (fun i s => s = segsR t.Nodes (ByteArray.mk #[]) ((pth t.Nodes d x).take i) ∧ s.size ≤ 100 * i) (fun r => r = k (segsR t.Nodes (ByteArray.mk #[]) (pth t.Nodes d x))) hlen ?_ ?_ _ ⟨rfl, Nat.le_refl _⟩
    · intro again s i y hy hi ⟨h1, h2⟩
      have hi4 : i < 400 := by rw [pth_len] at hi; omega
      obtain ⟨_, hry, _⟩ := pth_get S.to0 hr i y hy
      obtain ⟨z, z1, z2, z3, z4⟩ := seg_ok S he hry
      refine .inr ⟨s ++ z, ⟨?_, by rw [ByteArray.size_append]; omega⟩, ?_⟩
      · rw [take_suc hy, segsR_snoc, z1, h1]
      · unfold vw_PathName_L2
        simp only [nz_lt hi, selT', idxO_nat, hy, bindN, jnN, mpo_getO, bs_eq]
        rw [wrap_suc hi hlen]
        by_cases c : (nd t.Nodes y).Key = ByteArray.mk #[]
        · obtain ⟨a, b, a1, _, b1, _, a3, b3, e⟩ := z3 c
          rw [decide_eq_true c, Bool.not_true, sel_false]
          have hK : (nd t.Nodes (nd t.Nodes y).Parent).Kids.length ≤ 1000000 := by have := kids_len S.to0 (nd t.Nodes y).Parent; omega
          rw [vcount hK]
          rw [a1, bind_some', catO_eq (by show 2 + a.size ≤ _; omega), bind_some', catO_eq (by rw [ByteArray.size_append]; show 2 + a.size + 1 ≤ _; omega), bind_some']
          have b1' : strconv_Itoa (cntF (alike t.Nodes (nd t.Nodes y)) y (nd t.Nodes (nd t.Nodes y).Parent).Kids : Int) = some b := b1
          rw [b1', bind_some', catO_eq (by simp only [ByteArray.size_append]; show 2 + a.size + 1 + b.size ≤ _; omega), bind_some', ← e, catO_eq (by omega)]
          rfl
        · rw [decide_eq_false c, Bool.not_false, sel_true, catO_eq (by have := key24 S he hry; show 1 + _ ≤ _; omega), bind_some', ← z4 c, catO_eq (by omega)]
          rfl
    · intro again s ⟨h1, h2⟩
      rw [List.take_length] at h1
      unfold vw_PathName_L2
      simp only [nz_ge (Nat.le_refl _), selF']
      rw [h1]
  · refine loopI (L := pth t.Nodes d x) (fun (s : Str) i => (s, (i : Int))) (fun i s => s = segsR t.Nodes (ByteArray.mk #[]) ((pth t.Nodes d x).take i) ∧ s.size ≤ 100 * i) (fun r => r = k (segsR t.Nodes (ByteArray.mk #[]) (pth t.Nodes d x))) hlen ?_ ?_ _ ⟨rfl, Nat.le_refl _⟩
    · intro again s i y hy hi ⟨h1, h2⟩
      have hi4 : i < 400 := by rw [pth_len] at hi; omega
      obtain ⟨_, hry, hup⟩ := pth_get S.to0 hr i y hy
      obtain ⟨z, z1, z2, z3, z4⟩ := seg_ok S he hry
      have hyID : (nd t.Nodes y).ID = y := by
        obtain ⟨n, n1, n2, n3⟩ := reach_mem S.to0 hry
        rw [nd_look n1, n3]
      refine .inr ⟨s ++ z, ⟨?_, by rw [ByteArray.size_append]; omega⟩, ?_⟩
      · rw [take_suc hy, segsR_snoc, z1, h1]
      · unfold r14_PathName_L2
        simp only [nz_lt hi, selT', idxO_nat, hy, bindN, jnN, bs_eq, Node_ok t y (show t.Nodes.length < N0 by unfold N0; omega)]
        rw [wrap_suc hi hlen]
        by_cases c : (nd t.Nodes y).Key = ByteArray.mk #[]
        · obtain ⟨a, b, _, a1, _, b1, a3, b3, e⟩ := z3 c
          rw [decide_eq_true c, Bool.not_true, sel_false]
          have hcnt : ∀ (k' : Int → Option Str), sel (decide ((i : Int) > 0)) ((idxO (pth t.Nodes d x) (IntKind.i64.wrap ((i : Int) - 1))).bind fun x23 => (r14_Node t x23).bind fun x24 => loopK (r14_PathName_L1 t (nd t.Nodes y) k' x24) N0 (0, 0)) (k' 0) = k' (cntF (alike t.Nodes (nd t.Nodes y)) y (nd t.Nodes (up t.Nodes y)).Kids : Int) := by
            intro k'
            by_cases c0 : i = 0
            · subst c0
              have := reach_zero hry
              subst this
              rw [up_root S.to0, nd_none (look_zero S.to0)]
              rfl
            · rw [decide_eq_true (by omega : (i : Int) > 0), sel_true, wrap_id (by omega) (by omega), show (i : Int) - 1 = ((i - 1 : Nat) : Int) by omega, idxO_nat, hup (by omega), bind_some', Node_ok t _ (by unfold N0; omega), bind_some']
              exact rcount hyID hl (by have := kids_len S.to0 (up t.Nodes y); omega) k'
          rw [hcnt]
          rw [a1, bind_some', catO_eq (by show 2 + a.size ≤ _; omega), bind_some', catO_eq (by rw [ByteArray.size_append]; show 2 + a.size + 1 ≤ _; omega), bind_some', b1, bind_some', catO_eq (by simp only [ByteArray.size_append]; show 2 + a.size + 1 + b.size ≤ _; omega), bind_some', ← e, catO_eq (by omega)]
          rfl
        · rw [decide_eq_false c, Bool.not_false, sel_true, catO_eq (by have := key24 S he hry; show 1 + _ ≤ _; omega), bind_some', ← z4 c, catO_eq (by omega)]
          rfl
    · intro again s ⟨h1, h2⟩
      rw [List.take_length] at h1
      unfold r14_PathName_L2
      simp only [nz_ge (Nat.le_refl _), selF']
      rw [h1]
theorem name_same {t : Tree} (h : TB t) (a : Int) : ∃ s, vw_PathName t a = some s ∧ r14_PathName t a = some s ∧ ((vw_Check t = some 0 ∧ ∃ d, Reach t.Nodes t.Root d a ∧ s = segsR t.Nodes (ByteArray.mk #[]) (pth t.Nodes d a)) ∨ ((vw_Check t ≠ some 0 ∨ look t.Nodes a = none) ∧ s = ByteArray.mk #[])) := by
  obtain ⟨l, p1, p2, p3, p4⟩ := path_same h a
  obtain ⟨e, h1, h2, ⟨he, S, hv, h3, _⟩ | ⟨he, m, h3, _⟩⟩ := tree_ok h
  · have hvp : vw_path (mpo t.Nodes) a = some l := by
      unfold vw_Path at p1
      rw [h3, bind_some', Bool.not_true, sel_false] at p1
      obtain ⟨w, w1, w2⟩ := bind_some p1
      rw [w1]; exact w2
    unfold vw_PathName r14_PathName
    rw [h3, bind_some', Bool.not_true, sel_false, jn_eq, p2, bind_some', jn_eq, hvp, bind_some']
    rcases p4 with ⟨hc, d, hr, e2⟩ | ⟨hc, e2⟩
    · subst e2
      obtain ⟨n1, n2⟩ := name_loops S hv hr (fun s => some s)
      exact ⟨_, n1, n2, .inl ⟨hc, d, hr, rfl⟩⟩
    · subst e2
      refine ⟨ByteArray.mk #[], ?_, ?_, .inr ⟨hc, rfl⟩⟩
      · rw [loopK_first]
        generalize loopK (vw_PathName_L2 (mpo t.Nodes, true) (fun s3 => some s3) []) (N0 - 1) = again
        unfold vw_PathName_L2
        rfl
      · rw [loopK_first]
        generalize loopK (r14_PathName_L2 t [] fun s2 => some s2) (N0 - 1) = again
        unfold r14_PathName_L2
        rfl
  · have hx : l = [] := by
      unfold vw_Path at p1
      rw [h3] at p1
      exact (Option.some.inj p1).symm
    subst hx
    refine ⟨ByteArray.mk #[], by unfold vw_PathName; rw [h3]; rfl, ?_, .inr ⟨.inl (by rw [h1]; intro e0; exact he (Option.some.inj e0)), rfl⟩⟩
    unfold r14_PathName
    rw [p2, bind_some', jn_eq, loopK_first]
    generalize loopK (r14_PathName_L2 t [] fun s2 => some s2) (N0 - 1) = again
    unfold r14_PathName_L2
    rfl
end Go.Proofs.YtcfegecdlbbeaaaDoor
end
section
/-
  The sanity check of the view layer. No program in sight.
-/
namespace Go.Proofs.YtcfegecdlbbeaaaDoor
open Go Go.E2
theorem awake_true : l14_awake = some true := by kernel_rfl
end Go.Proofs.YtcfegecdlbbeaaaDoor
end
section
/-
  A value's parts counted. No program in sight.
-/
namespace Go.Proofs.YtcfegecdlbbeaaaDoor
open Go Go.E2
/-- the count of a value's parts, up to a limit -/
def LoadOk (v : AValue) (left r : Int) : Prop := ((v.wt : Int) < left → r = left - v.wt) ∧ (left ≤ v.wt → r ≤ 0)
theorem load_ok : ∀ (n : Nat) (v : AValue) (left : Int), 1 ≤ left → left < n → left ≤ 1000000 → ∃ r, l14_load n v left = some r ∧ LoadOk v left r ∧ r ≤ left := by
  intro n
  induction n with
  | zero => intro v left h1 h2; omega
  | succ n ih =>
    intro v left h1 h2 h3
    show ∃ r, l14_load_B (l14_load n) v left = some r ∧ _
    unfold l14_load_B
    rw [jn_eq, wrap_id (x := left - 1) (by omega) (by omega)]
    have key : ∀ (m i : Nat) (lf : Int), lf.toNat + 1 ≤ m → (i : Int) + lf ≤ left - 1 → i ≤ v.L.length →
        ∃ r, loopK (l14_load_L1 (l14_load n) v fun s => some s) m (lf, (i : Int)) = some r ∧ (((AValue.wtL (v.L.drop i) : Int) < lf → r = lf - AValue.wtL (v.L.drop i)) ∧ (lf ≤ AValue.wtL (v.L.drop i) → r ≤ 0)) ∧ r ≤ lf := by
      intro m
      induction m with
      | zero => intro i lf h; omega
      | succ m ihm =>
        intro i lf hm hlf hi
        show ∃ r, l14_load_L1 (l14_load n) v (fun s => some s) (loopK _ m) (lf, (i : Int)) = some r ∧ _
        generalize hag : loopK (l14_load_L1 (l14_load n) v fun s => some s) m = again at ihm ⊢
        unfold l14_load_L1
        dsimp only
        by_cases hl : i < v.L.length
        · rw [nz_lt hl, Bool.true_and]
          by_cases h0 : lf > 0
          · rw [show decide (lf > 0) = true from decide_eq_true h0, sel_true, idxO_at hl, bind_some']
            obtain ⟨r, e1, ⟨e2, e3⟩, e4⟩ := ih v.L[i] lf (by omega) (by omega) (by omega)
            rw [e1, bind_some']
            have hs : IntKind.i64.wrap ((i : Int) + 1) = ((i + 1 : Nat) : Int) := by rw [wrap_id (by omega) (by omega)]; omega
            rw [hs]
            have hp := v.L[i].wt_pos
            have hr : r < lf := by
              by_cases hx : (v.L[i].wt : Int) < lf
              · have := e2 hx; omega
              · have := e3 (by omega); omega
            obtain ⟨r', f1, ⟨f2, f3⟩, f4⟩ := ihm (i + 1) r (by omega) (by omega) (by omega)
            refine ⟨r', f1, ⟨fun hx => ?_, fun hx => ?_⟩, by omega⟩
            · rw [List.drop_eq_getElem_cons hl, AValue.wtL_cons] at hx ⊢
              have := e2 (by omega)
              have := f2 (by omega)
              omega
            · rw [List.drop_eq_getElem_cons hl, AValue.wtL_cons] at hx
              by_cases hy : (v.L[i].wt : Int) < lf
              · have := e2 hy
                exact f3 (by omega)
              · have := e3 (by omega)
                omega
          · rw [show decide (lf > 0) = false from decide_eq_false h0, sel_false]
            exact ⟨lf, rfl, ⟨fun hx => by omega, fun _ => by omega⟩, by omega⟩
        · rw [nz_ge (by omega), Bool.false_and, sel_false, List.drop_eq_nil_of_le (by omega), AValue.wtL_nil]
          exact ⟨lf, rfl, ⟨fun hx => by omega, fun hx => by omega⟩, by omega⟩
    obtain ⟨r, e1, ⟨e2, e3⟩, e4⟩ := key N0 0 (left - 1) (by unfold N0; omega) (by omega) (by omega)
    rw [List.drop_zero] at e2 e3
    have hw := v.wt_eq
    exact ⟨r, e1, ⟨fun h => by have := e2 (by omega); omega, fun h => by exact e3 (by omega)⟩, by omega⟩
theorem load_big {v : AValue} {left : Int} (h1 : 1 ≤ left) (h3 : left ≤ 1000000) : ∃ r, l14_load N0 v left = some r ∧ LoadOk v left r ∧ r ≤ left := load_ok N0 v left h1 (by unfold N0; omega) h3
end Go.Proofs.YtcfegecdlbbeaaaDoor
end
section
/-
  The law of the trees: every lookup answers as the reference. No program in sight.
-/
namespace Go.Proofs.YtcfegecdlbbeaaaDoor
open Go Go.E2
theorem find_ok {t : Tree} (h : TB t) (hl : t.Nodes.length < N0) (x : Int) : (∃ n, look t.Nodes x = some n ∧ vw_Find t x = some (n, true)) ∨ (look t.Nodes x = none ∧ vw_Find t x = some (zN, false)) := by
  unfold vw_Find
  rw [jn_eq]
  refine loopI (L := t.Nodes) (fun (_ : Unit) i => (i : Int)) (fun i _ => look t.Nodes x = look (t.Nodes.drop i) x) (fun r => (∃ n, look t.Nodes x = some n ∧ r = some (n, true)) ∨ (look t.Nodes x = none ∧ r = some (zN, false))) hl ?_ ?_ () rfl
  · intro again _ i n hn hi hp
    rw [drop_cons' hn] at hp
    have hp : look t.Nodes x = if x = n.ID then some n else look (t.Nodes.drop (i + 1)) x := hp
    unfold vw_Find_L1
    rw [nz_lt hi, sel_true, idxO_nat, hn, bind_some', wrap_suc hi hl]
    by_cases c : x = n.ID
    · rw [if_pos c] at hp
      obtain ⟨h1, h2, h3, _⟩ := h n (List.mem_of_getElem? hn)
      rw [show (n.ID != x) = false by simp [c], sel_false, copied_ok h1 h2, bind_some']
      unfold slices_Clone_Sl_int_int
      rw [appO_eq (by simp; omega), bind_some']
      exact .inl (.inl ⟨n, hp, by cases n; rfl⟩)
    · rw [if_neg c] at hp
      rw [show (n.ID != x) = true by rw [bne_iff_ne]; exact fun e => c e.symm, sel_true]
      exact .inr ⟨(), hp, rfl⟩
  · intro again _ hp
    rw [List.drop_length] at hp
    unfold vw_Find_L1
    rw [nz_ge (Nat.le_refl _), sel_false]
    exact .inr ⟨hp, rfl⟩
theorem ints_same (l : List Int) (h : l.length < N0) : r01_Equal l l = some true := by
  unfold r01_Equal
  rw [show ((l.length : Int) != (l.length : Int)) = false by simp, sel_false, jn_eq]
  obtain ⟨d, e1, e2⟩ := eqLoop (a := l) (b := l) (B := r01_Equal_L1 l l fun _ => some true) rfl h (fun again i x y hi hx hy => by
    unfold r01_Equal_L1
    rw [nz_lt hi, sel_true, idxO_nat, hx, bind_some', wrap_suc hi h, bind_some']
    constructor
    · intro e; simp
    · intro e; rw [hx] at hy; exact absurd (Option.some.inj hy) e) (fun again => by
    unfold r01_Equal_L1
    rw [nz_ge (Nat.le_refl _), sel_false])
  rw [e1, e2.2 rfl]
theorem same_true {t : Tree} (h : TB t) (hl : t.Nodes.length < N0) (a b : Int) : l14_same t a b = some true := by
  obtain ⟨e, h1, h2, h3⟩ := tree_ok h
  obtain ⟨lo, o1, o2, o3, _⟩ := order_same h
  obtain ⟨lp, p1, p2, p3, _⟩ := path_same h a
  obtain ⟨c, c1, c2⟩ := common_same h a b
  obtain ⟨s, s1, s2, _⟩ := name_same h a
  have hd : ∃ v f, vw_Describe t = some (v, f) ∧ r14_Describe t = some (v, f) ∧ v.dp ≤ N0 ∧ v.bd := by
    rcases h3 with ⟨_, S, _, _, d1, d2⟩ | ⟨_, m, _, d1, d2⟩
    · exact ⟨_, _, d1, d2, by have := dscT_dp t; have := S.lim; unfold N0; omega, dscT_bd h⟩
    · exact ⟨_, _, d1, d2, by rw [zV_dp]; unfold N0; omega, zV_bd⟩
  obtain ⟨v, f, d1, d2, d3, d4⟩ := hd
  obtain ⟨q, q1, q2⟩ := rsameV_ok N0 v v d3 d4
  rw [q2.2 rfl] at q1
  unfold l14_same
  rw [d1, bind_some', d2, bind_some']
  have hf : ∃ n ok i, vw_Find t a = some (n, ok) ∧ r14_Index t a = some i ∧ ok = decide (i ≥ 0) ∧ (ok = true → n.ID = a) := by
    rcases find_ok h hl a with ⟨n, n1, n2⟩ | ⟨n1, n2⟩
    · rcases Index_ok t a hl with ⟨i, m, i1, i2, i3⟩ | ⟨i1, i2⟩
      · exact ⟨n, true, i, n2, i1, (decide_eq_true (by omega)).symm, fun _ => (look_mem n1).2⟩
      · rw [n1] at i2; cases i2
    · rcases Index_ok t a hl with ⟨i, m, i1, i2, i3⟩ | ⟨i1, i2⟩
      · rw [n1] at i3; cases i3
      · exact ⟨zN, false, -1, n2, i1, rfl, fun e => Bool.noConfusion e⟩
  obtain ⟨n, ok, i, f1, f2, f3, f4⟩ := hf
  rw [f1, bind_some', f2, bind_some']
  simp only
  rw [show ((ok != (decide (i ≥ 0))) || (ok && (n.ID != a))) = false by
    rw [f3]
    cases hk : decide (i ≥ 0) with
    | false => rfl
    | true => rw [hk] at f3; rw [f4 f3]; simp, sel_false]
  rw [h1, bind_some', h2, bind_some']
  simp only [beq_self_eq_true, Bool.and_self, gOT', q1, bindN, o1, o2, ints_same lo (by unfold N0; omega), p1, p2, ints_same lp (by unfold N0; omega), c1, c2, s1, s2]
/-! ### how much is weighed -/
def ActsW : List Action → Nat
  | [] => 0
  | a :: r => 1 + AValue.wtL a.Args + ActsW r
def AttsW : List Attr → Nat
  | [] => 0
  | a :: r => a.Value.wt + AttsW r
theorem attsW_app : ∀ (l m : List Attr), AttsW (l ++ m) = AttsW l + AttsW m
  | [], m => by show AttsW m = 0 + AttsW m; omega
  | a :: r, m => by show a.Value.wt + AttsW (r ++ m) = a.Value.wt + AttsW r + AttsW m; rw [attsW_app r m]; omega
theorem actsW_app : ∀ (l m : List Action), ActsW (l ++ m) = ActsW l + ActsW m
  | [], m => by show ActsW m = 0 + ActsW m; omega
  | a :: r, m => by show 1 + AValue.wtL a.Args + ActsW (r ++ m) = 1 + AValue.wtL a.Args + ActsW r + ActsW m; rw [actsW_app r m]; omega
theorem wtL_app : ∀ (l m : List AValue), AValue.wtL (l ++ m) = AValue.wtL l + AValue.wtL m
  | [], m => by rw [List.nil_append, AValue.wtL_nil]; omega
  | a :: r, m => by rw [List.cons_append, AValue.wtL_cons, AValue.wtL_cons, wtL_app r m]; omega
theorem attsW_len : ∀ l, l.length ≤ AttsW l
  | [] => Nat.le_refl _
  | a :: r => by
    have := attsW_len r
    have := a.Value.wt_pos
    unfold AttsW; rw [List.length_cons]; omega
theorem actsW_len : ∀ l, l.length ≤ ActsW l
  | [] => Nat.le_refl _
  | a :: r => by
    have := actsW_len r
    unfold ActsW; rw [List.length_cons]; omega
theorem attsW_mem : ∀ {l : List Attr} {a : Attr}, a ∈ l → a.Value.wt ≤ AttsW l
  | y :: r, a, h => by
    unfold AttsW
    rcases List.mem_cons.1 h with e | e
    · subst e; omega
    · have := attsW_mem e; omega
theorem actsW_mem : ∀ {l : List Action} {a : Action}, a ∈ l → AValue.wtL a.Args ≤ ActsW l
  | y :: r, a, h => by
    unfold ActsW
    rcases List.mem_cons.1 h with e | e
    · subst e; omega
    · have := actsW_mem e; omega
theorem atts_okW {l : List Attr} (h : AttsW l ≤ 1000) : AttrsOk l := ⟨by have := attsW_len l; omega, fun a ha => by have := attsW_mem ha; omega⟩
theorem acts_okW {l : List Action} (h : ActsW l ≤ 1000) : ActsOk l := ⟨by have := actsW_len l; omega, fun a ha => by have := actsW_mem ha; omega⟩
theorem load_gt {v : AValue} {left : Int} (h1 : 0 < left) (h3 : left ≤ 1000000) : ∃ r, l14_load N0 v left = some r ∧ r ≤ left ∧ (0 < r → r = left - v.wt) := by
  obtain ⟨r, e1, ⟨e2, e3⟩, e4⟩ := load_big (v := v) (by omega : 1 ≤ left) h3
  refine ⟨r, e1, e4, fun h => ?_⟩
  by_cases c : (v.wt : Int) < left
  · exact e2 c
  · have := e3 (by omega); omega
theorem weighA {v : View} (hn : v.Attrs.length < N0) (k : Int → Option Int) {left : Int} (h1 : left ≤ 1000000) : ∃ r : Int, loopK (l14_weigh_L4 v k) N0 (left, 0) = k r ∧ r ≤ 1000000 ∧ (0 < r → r = left - AttsW v.Attrs) := by
  refine loopI (L := v.Attrs) (fun (s : Int) i => (s, (i : Int))) (fun i s => s ≤ 1000000 ∧ (0 < s → s = left - AttsW (v.Attrs.take i))) (fun o => ∃ r : Int, o = k r ∧ r ≤ 1000000 ∧ (0 < r → r = left - AttsW v.Attrs)) hn ?_ ?_ left ⟨h1, fun _ => by show left = left - ((0 : Nat) : Int); omega⟩
  · intro again s i a ha hi ⟨h2, h3⟩
    unfold l14_weigh_L4
    simp only [nz_lt hi, Bool.true_and]
    by_cases c : s > 0
    · obtain ⟨r, e1, e2, e3⟩ := load_gt (v := a.Value) c h2
      rw [decide_eq_true c, sel_true, idxO_nat, ha, bind_some', e1, bind_some', wrap_suc hi hn]
      refine .inr ⟨r, ⟨by omega, fun h => ?_⟩, rfl⟩
      rw [take_suc ha, attsW_app]
      have := e3 h
      have := h3 c
      have e : AttsW [a] = a.Value.wt := by unfold AttsW AttsW; omega
      omega
    · rw [decide_eq_false c, sel_false]
      exact .inl ⟨s, rfl, h2, fun h => absurd h c⟩
  · intro again s ⟨h2, h3⟩
    rw [List.take_length] at h3
    unfold l14_weigh_L4
    simp only [nz_ge (Nat.le_refl _), Bool.false_and, selF']
    exact ⟨s, rfl, h2, h3⟩
theorem weighB {v : View} {i : Nat} {a : Action} (ha : v.Actions[i]? = some a) (hn : a.Args.length < N0) (q : Int) (k : Int → Option Int) {left : Int} (h1 : left ≤ 1000000) : ∃ r : Int, loopK (l14_weigh_L2 v (q, (i : Int)) k) N0 (left, 0) = k r ∧ r ≤ 1000000 ∧ (0 < r → r = left - AValue.wtL a.Args) := by
  refine loopI (L := a.Args) (fun (s : Int) j => (s, (j : Int))) (fun j s => s ≤ 1000000 ∧ (0 < s → s = left - AValue.wtL (a.Args.take j))) (fun o => ∃ r : Int, o = k r ∧ r ≤ 1000000 ∧ (0 < r → r = left - AValue.wtL a.Args)) hn ?_ ?_ left ⟨h1, fun _ => by rw [List.take_zero, AValue.wtL_nil]; omega⟩
  · intro again s j x hx hj ⟨h2, h3⟩
    unfold l14_weigh_L2
    simp only [nz_lt hj, Bool.true_and, idxO_nat, ha, bindN]
    by_cases c : s > 0
    · obtain ⟨r, e1, e2, e3⟩ := load_gt (v := x) c h2
      rw [decide_eq_true c, sel_true, hx, bind_some', e1, bind_some', wrap_suc hj hn]
      refine .inr ⟨r, ⟨by omega, fun h => ?_⟩, rfl⟩
      rw [take_suc hx, wtL_app, AValue.wtL_cons, AValue.wtL_nil]
      have := e3 h
      have := h3 c
      omega
    · rw [decide_eq_false c, sel_false]
      exact .inl ⟨s, rfl, h2, fun h => absurd h c⟩
  · intro again s ⟨h2, h3⟩
    rw [List.take_length] at h3
    unfold l14_weigh_L2
    simp only [nz_ge (Nat.le_refl _), Bool.false_and, selF', idxO_nat, ha, bindN]
    exact ⟨s, rfl, h2, h3⟩
theorem weighC {v : View} (hn : v.Actions.length < N0) (hargs : ∀ a ∈ v.Actions, a.Args.length < N0) (k : Int → Option Int) {left : Int} (h1 : left ≤ 1000000) : ∃ r : Int, loopK (l14_weigh_L3 v k) N0 (left, 0) = k r ∧ r ≤ 1000000 ∧ (0 < r → r = left - ActsW v.Actions) := by
  refine loopI (L := v.Actions) (fun (s : Int) i => (s, (i : Int))) (fun i s => s ≤ 1000000 ∧ (0 < s → s = left - ActsW (v.Actions.take i))) (fun o => ∃ r : Int, o = k r ∧ r ≤ 1000000 ∧ (0 < r → r = left - ActsW v.Actions)) hn ?_ ?_ left ⟨h1, fun _ => by show left = left - ((0 : Nat) : Int); omega⟩
  · intro again s i a ha hi ⟨h2, h3⟩
    unfold l14_weigh_L3
    simp only [nz_lt hi, Bool.true_and]
    by_cases c : s > 0
    · rw [decide_eq_true c, sel_true, jn_eq, jn_eq, wrap_id (x := s - 1) (by omega) (by omega)]
      obtain ⟨r, e1, e2, e3⟩ := weighB ha (hargs a (List.mem_of_getElem? ha)) s (fun s18 => again (s18, IntKind.i64.wrap ((i : Int) + 1))) (left := s - 1) (by omega)
      refine .inr ⟨r, ⟨e2, fun h => ?_⟩, ?_⟩
      · rw [take_suc ha, actsW_app]
        have := e3 h
        have := h3 c
        have e : ActsW [a] = 1 + AValue.wtL a.Args := by unfold ActsW ActsW; omega
        omega
      · refine e1.trans ?_
        rw [wrap_suc hi hn]
    · rw [decide_eq_false c, sel_false]
      exact .inl ⟨s, rfl, h2, fun h => absurd h c⟩
  · intro again s ⟨h2, h3⟩
    rw [List.take_length] at h3
    unfold l14_weigh_L3
    simp only [nz_ge (Nat.le_refl _), Bool.false_and, selF']
    exact ⟨s, rfl, h2, h3⟩
/-- lengths that a machine can hold -/
structure NL (n : Node) : Prop where
  atts : n.Attrs.length < N0
  acts : n.Actions.length < N0
  args : ∀ a ∈ n.Actions, a.Args.length < N0
  key : n.Key.size < N0
theorem weigh_node {las : List Attr} {cs : List Action} (h1 : las.length < N0) (h2 : cs.length < N0) (h3 : ∀ a ∈ cs, a.Args.length < N0) : ∃ r, l14_weigh N0 (View.mk 0 ByteArray.empty las cs []) 500 1 = some r ∧ (0 < r → AttrsOk las ∧ ActsOk cs) := by
  have hN : N0 = (N0 - 1) + 1 := by unfold N0; omega
  rw [hN]
  show ∃ r, l14_weigh_B (l14_weigh (N0 - 1)) (View.mk 0 ByteArray.empty las cs []) 500 1 = some r ∧ _
  unfold l14_weigh_B
  generalize hv : View.mk 0 ByteArray.empty las cs [] = v
  have e1 : v.Attrs = las := by rw [← hv]
  have e2 : v.Actions = cs := by rw [← hv]
  have e3 : v.Kids = [] := by rw [← hv]
  rw [jn_eq, e3, show IntKind.i64.wrap (500 - IntKind.i64.wrap (1 + (([] : List View).length : Int))) = 499 from rfl]
  obtain ⟨r1, p1, p2, p3⟩ := weighA (v := v) (by rw [e1]; exact h1) (fun s1 => jn (fun s3 => sel (decide ((1 : Int) ≤ 0)) (some 0) (jn (fun s6 => some s6) fun k7 => loopK (l14_weigh_L1 (l14_weigh (N0 - 1)) v 1 k7) N0 (s3, 0))) fun k4 => loopK (l14_weigh_L3 v k4) N0 (s1, 0)) (left := 499) (by omega)
  rw [p1, jn_eq]
  obtain ⟨r2, q1, q2, q3⟩ := weighC (v := v) (by rw [e2]; exact h2) (by rw [e2]; exact h3) (fun s3 => sel (decide ((1 : Int) ≤ 0)) (some 0) (jn (fun s6 => some s6) fun k7 => loopK (l14_weigh_L1 (l14_weigh (N0 - 1)) v 1 k7) N0 (s3, 0))) (left := r1) p2
  rw [q1, show decide ((1 : Int) ≤ 0) = false from rfl, sel_false, jn_eq, loopK_first]
  generalize loopK (l14_weigh_L1 (l14_weigh (N0 - 1)) v 1 fun s6 => some s6) (N0 - 1) = again
  refine ⟨r2, ?_, fun h => ?_⟩
  · unfold l14_weigh_L1
    rw [e3]
    rfl
  · have := q3 h
    by_cases c : 0 < r1
    · have := p3 c
      rw [e1] at this
      rw [e2] at *
      exact ⟨atts_okW (by omega), acts_okW (by omega)⟩
    · omega
theorem ltN {x : Nat} (h : x ≤ maxLen) : x < N0 := by unfold maxLen at h; unfold N0; omega
theorem trees_true (t : Tree) (a b : Int) (hN : ∀ n ∈ t.Nodes, NL n) : l14_ViewTrees t a b = some true := by
  unfold l14_ViewTrees
  by_cases h30 : t.Nodes.length > 30
  · rw [show decide ((t.Nodes.length : Int) > 30) = true from decide_eq_true (by omega), sel_true]
  rw [show decide ((t.Nodes.length : Int) > 30) = false from decide_eq_false (by omega), sel_false, jn_eq]
  refine loopI (L := t.Nodes) (fun (_ : Unit) i => (i : Int)) (fun i _ => ∀ j n, j < i → t.Nodes[j]? = some n → NB n) (fun r => r = some true) (by unfold N0; omega) ?_ ?_ () (fun j n hj => by omega)
  · intro again _ i n hn hi hp
    unfold l14_ViewTrees_L1
    rw [nz_lt hi, sel_true, idxO_nat, hn, bind_some', wrap_suc hi (by unfold N0; omega)]
    by_cases c : n.Kids.length > 40
    · rw [show decide ((n.Kids.length : Int) > 40) = true from decide_eq_true (by omega)]
      exact .inl rfl
    · have hnl := hN n (List.mem_of_getElem? hn)
      obtain ⟨r, r1, r2⟩ := weigh_node hnl.atts hnl.acts hnl.args
      rw [show decide ((n.Kids.length : Int) > 40) = false from decide_eq_false (by omega), Bool.not_false, gO_true, r1, bind_some', Bool.false_or]
      by_cases c2 : r ≤ 0
      · rw [decide_eq_true c2]
        exact .inl rfl
      · rw [decide_eq_false c2, sel_false]
        obtain ⟨h1, h2⟩ := r2 (by omega)
        refine .inr ⟨(), fun j m hj hm => ?_, rfl⟩
        rcases (by omega : j = i ∨ j < i) with e | e
        · subst e; rw [hn] at hm; cases hm; exact ⟨h1, h2, by omega, hnl.key⟩
        · exact hp j m e hm
  · intro again _ hp
    unfold l14_ViewTrees_L1
    rw [nz_ge (Nat.le_refl _), sel_false]
    have hT : TB t := fun n hn => by
      obtain ⟨j, hj, e⟩ := List.mem_iff_getElem.1 hn
      exact hp j n hj (by rw [List.getElem?_eq_getElem hj, e])
    rw [same_true hT (by unfold N0; omega) a b, bind_some', gO_true, awake_true]
    rfl
end Go.Proofs.YtcfegecdlbbeaaaDoor
end

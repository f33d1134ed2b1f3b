/-
  Part 5 of the texts under the law ViewRaw: the calculus, the plain functions, their walks, plain facts.
-/
import Derived.Test.YtcfegecdlbbeaaaDoorViewRawB4
import Derived.KernelRfl
section
namespace Go.Proofs.YtcfegecdlbbeaaaDoor
open Go Go.E2
theorem ble : ∀ (a b : List UInt8), (Op.bytesLess b a || b == a) = !(Op.bytesLess a b)
  | [], [] => rfl
  | [], _ :: _ => rfl
  | _ :: _, [] => rfl
  | x :: a, y :: b => by
    unfold Op.bytesLess
    have ih := ble a b
    rw [show ((y :: b) == (x :: a)) = ((y == x) && (b == a)) from rfl]
    rcases Nat.lt_trichotomy x.toNat y.toNat with h | h | h
    · have h1 : x < y := h
      have h2 : ¬ y < x := fun e => by have e : y.toNat < x.toNat := e; omega
      have h3 : (y == x) = false := by
        rw [beq_eq_false_iff_ne]; intro e; subst e; omega
      simp [h1, h2, h3]
    · have h0 : x = y := UInt8.toNat_inj.1 h
      subst h0
      have h1 : ¬ x < x := fun e => by have e : x.toNat < x.toNat := e; omega
      simp only [h1, decide_false, beq_self_eq_true, Bool.true_and, Bool.false_or]
      exact ih
    · have h1 : y < x := h
      have h2 : ¬ x < y := fun e => by have e : x.toNat < y.toNat := e; omega
      have h3 : (x == y) = false := by
        rw [beq_eq_false_iff_ne]; intro e; subst e; omega
      simp [h1, h2, h3]
theorem rprv_cmp {α R : Type} [Inhabited α] {l : List α} {i : Nat} {x : α} (hx : l[i]? = some x) (hi : i < l.length) (hn : l.length < N0) (nm : α → Str) (A B : Option R) :
    ((gO (decide ((i : Int) > 0)) (idxO l (i : Int))).bind fun x8 => (gO (decide ((i : Int) > 0)) (idxO l (IntKind.i64.wrap ((i : Int) - 1)))).bind fun x9 => sel ((decide ((i : Int) > 0)) && (Op.bytesLess (nm x8).toList (nm x9).toList || (nm x8).toList == (nm x9).toList)) A B) = sel (nle ((prv l i).map nm) (nm x)) A B := by
  by_cases h0 : i = 0
  · subst h0; rfl
  · rw [show decide ((i : Int) > 0) = true from decide_eq_true (by omega), gO_true, gO_true, idxO_nat, hx, bind_some']
    obtain ⟨y, ⟨h1, h2⟩ | h⟩ := prv_at hi h0
    · rw [h1, h2, bind_some', ble]; rfl
    · omega
theorem rprv_cmp1 {α R : Type} [Inhabited α] {l : List α} {i : Nat} {x : α} (hi : i < l.length) (hn : l.length < N0) (nm : α → Str) (A B : Option R) :
    ((gO (decide ((i : Int) > 0)) (idxO l (IntKind.i64.wrap ((i : Int) - 1)))).bind fun x9 => sel ((decide ((i : Int) > 0)) && (Op.bytesLess (nm x).toList (nm x9).toList || (nm x).toList == (nm x9).toList)) A B) = sel (nle ((prv l i).map nm) (nm x)) A B := by
  by_cases h0 : i = 0
  · subst h0; rfl
  · rw [show decide ((i : Int) > 0) = true from decide_eq_true (by omega), gO_true]
    obtain ⟨y, ⟨h1, h2⟩ | h⟩ := prv_at hi h0
    · rw [h1, h2, bind_some', ble]; rfl
    · omega
theorem rattr_loop {v : View} {m : Int} (hm : IntKind.i64.wrap (m + 1) = m + 1) (hn : v.Attrs.length < N0) (k8 : Unit → Option (Int × Int)) : loopK (r14_validate_L6 v m k8) N0 0 = if atF none v.Attrs = 0 then k8 () else some (m + 1, atF none v.Attrs) := by
  refine loopI (L := v.Attrs) (fun (_ : Unit) i => (i : Int)) (fun i _ => atF none v.Attrs = atF (prv v.Attrs i) (v.Attrs.drop i)) (fun r => r = if atF none v.Attrs = 0 then k8 () else some (m + 1, atF none v.Attrs)) hn ?_ ?_ () rfl
  · intro again _ i a ha hi hp
    rw [drop_cons' ha, atF_cons] at hp
    unfold r14_validate_L6
    rw [nz_lt hi, sel_true, idxO_nat, ha, bind_some', rName_eq, bind_some', wrap_suc hi hn, hm]
    cases hb : namE a.Name with
    | false => rw [if_pos hb] at hp; rw [hp]; exact .inl rfl
    | true =>
      rw [if_neg (by rw [hb]; exact Bool.noConfusion)] at hp
      have ha' : idxO v.Attrs (i : Int) = some a := by rw [idxO_nat]; exact ha
      rw [Bool.not_true, sel_false, ← ha', rprv_cmp ha hi hn Attr.Name, ha']
      cases hc : nle ((prv v.Attrs i).map Attr.Name) a.Name with
      | true => rw [if_pos hc] at hp; rw [hp]; exact .inl rfl
      | false =>
        rw [if_neg (by rw [hc]; exact Bool.noConfusion)] at hp
        rw [sel_false, bind_some', chE_r, bind_some']
        by_cases he : chE a.Value = 0
        · rw [if_neg (by simp [he])] at hp
          rw [show (chE a.Value != 0) = false by simp [he], sel_false]
          exact .inr ⟨(), by rw [prv_suc ha]; exact hp, rfl⟩
        · rw [if_pos he] at hp
          rw [show (chE a.Value != 0) = true by simp [he], sel_true, hp, if_neg he]
          exact .inl rfl
  · intro again _ hp
    rw [List.drop_length] at hp
    unfold r14_validate_L6
    rw [nz_ge (Nat.le_refl _), sel_false, hp]
    unfold atF; rfl
theorem rvalues_ok {m : Int} (hm : IntKind.i64.wrap (m + 1) = m + 1) {a : Action} (hn : a.Args.length < N0) (k : Unit → Option (Int × Int)) : loopK (r14_validate_L4 m a k) N0 0 = if vaF a.Args = 0 then k () else some (m + 1, vaF a.Args) := by
  refine loopI (L := a.Args) (fun (_ : Unit) i => (i : Int)) (fun i _ => vaF a.Args = vaF (a.Args.drop i)) (fun r => r = if vaF a.Args = 0 then k () else some (m + 1, vaF a.Args)) hn ?_ ?_ () rfl
  · intro again _ i v hv hi hp
    rw [drop_cons' hv, vaF_cons] at hp
    unfold r14_validate_L4
    rw [nz_lt hi, sel_true, idxO_nat, hv, bind_some', chE_r, bind_some', wrap_suc hi hn, hm]
    by_cases he : chE v = 0
    · rw [if_neg (by simp [he])] at hp
      rw [show (chE v != 0) = false by simp [he], sel_false]
      exact .inr ⟨(), hp, rfl⟩
    · rw [if_pos he] at hp
      rw [show (chE v != 0) = true by simp [he], sel_true, hp, if_neg he]
      exact .inl rfl
  · intro again _ hp
    rw [List.drop_length] at hp
    unfold r14_validate_L4
    rw [nz_ge (Nat.le_refl _), sel_false, hp]
    unfold vaF; rfl
theorem ract_loop {v : View} {m : Int} (hm : IntKind.i64.wrap (m + 1) = m + 1) (hn : v.Actions.length < N0) (k10 : Unit → Option (Int × Int)) : loopK (r14_validate_L5 v m k10) N0 0 = if acF none v.Actions = 0 then k10 () else some (m + 1, acF none v.Actions) := by
  refine loopI (L := v.Actions) (fun (_ : Unit) i => (i : Int)) (fun i _ => acF none v.Actions = acF (prv v.Actions i) (v.Actions.drop i)) (fun r => r = if acF none v.Actions = 0 then k10 () else some (m + 1, acF none v.Actions)) hn ?_ ?_ () rfl
  · intro again _ i a ha hi hp
    rw [drop_cons' ha, acF_cons] at hp
    unfold r14_validate_L5
    rw [nz_lt hi, sel_true, jn_eq, idxO_nat, ha, bind_some', rName_eq, bind_some', rName_eq, wrap_suc hi hn, hm]
    have e : (gO (!(!(namE a.Event))) (some (namE a.Handler))).bind (fun x10 => sel ((!(namE a.Event)) || (!x10)) (some ((m + 1 : Int), (4 : Int))) ((gO (decide ((i : Int) > 0)) (idxO v.Actions (IntKind.i64.wrap ((i : Int) - 1)))).bind fun x12 => sel ((decide ((i : Int) > 0)) && (Op.bytesLess a.Event.toList x12.Event.toList || a.Event.toList == x12.Event.toList)) (some (m + 1, 10)) (sel ((decide ((a.Instance.size : Int) > 400)) || (decide ((a.Args.length : Int) > 100))) (some (m + 1, 2)) (jn (fun (_s15 : Unit) => again ((i + 1 : Nat) : Int)) fun k16 => loopK (r14_validate_L4 m a k16) N0 0)))) =
        sel (!(namE a.Event && namE a.Handler)) (some (m + 1, 4)) (sel (nle ((prv v.Actions i).map Action.Event) a.Event) (some (m + 1, 10)) (sel ((decide ((a.Instance.size : Int) > 400)) || (decide ((a.Args.length : Int) > 100))) (some (m + 1, 2)) (jn (fun (_s15 : Unit) => again ((i + 1 : Nat) : Int)) fun k16 => loopK (r14_validate_L4 m a k16) N0 0))) := by
      rw [← rprv_cmp1 (x := a) hi hn Action.Event]
      cases namE a.Event <;> cases namE a.Handler <;> rfl
    rw [e]
    cases hb : (namE a.Event && namE a.Handler) with
    | false => rw [if_pos hb] at hp; rw [hp]; exact .inl rfl
    | true =>
      rw [if_neg (by rw [hb]; exact Bool.noConfusion)] at hp
      rw [Bool.not_true, sel_false]
      cases hc : nle ((prv v.Actions i).map Action.Event) a.Event with
      | true => rw [if_pos hc] at hp; rw [hp]; exact .inl rfl
      | false =>
        rw [if_neg (by rw [hc]; exact Bool.noConfusion)] at hp
        rw [sel_false]
        by_cases hd : a.Instance.size > 400 ∨ a.Args.length > 100
        · rw [if_pos hd] at hp
          rw [show ((decide ((a.Instance.size : Int) > 400)) || (decide ((a.Args.length : Int) > 100))) = true by simp only [Bool.or_eq_true, decide_eq_true_eq]; omega, hp]
          exact .inl rfl
        · rw [if_neg hd] at hp
          rw [show ((decide ((a.Instance.size : Int) > 400)) || (decide ((a.Args.length : Int) > 100))) = false by simp only [Bool.or_eq_false_iff, decide_eq_false_iff_not]; omega, sel_false, jn_eq, rvalues_ok hm (by unfold N0; omega)]
          by_cases he : vaF a.Args = 0
          · rw [if_neg (by simp [he])] at hp
            rw [if_pos he]
            exact .inr ⟨(), by rw [prv_suc ha]; exact hp, rfl⟩
          · rw [if_pos he] at hp
            rw [if_neg he, hp, if_neg he]
            exact .inl rfl
  · intro again _ hp
    rw [List.drop_length] at hp
    unfold r14_validate_L5
    rw [nz_ge (Nat.le_refl _), sel_false, hp]
    unfold acF; rfl
theorem rdup1 {v : View} {m : Int} (hm : IntKind.i64.wrap (m + 1) = m + 1) (h100 : v.Kids.length ≤ 100) {i : Nat} {x : View} (hx : v.Kids[i]? = some x) (hi : i < v.Kids.length) (k27 : Unit → Option (Int × Int)) :
    loopK (r14_validate_L2 v m (i : Int) k27) N0 0 = if x.Key ≠ ByteArray.mk #[] ∧ x.Key ∈ (v.Kids.take i).map (·.Key) then some (m + 1, 6) else k27 () := by
  refine loopN (n := i) (fun (_ : Unit) j => (j : Int)) (fun j _ => ¬ (x.Key ≠ ByteArray.mk #[] ∧ x.Key ∈ (v.Kids.take j).map (·.Key))) (fun r => r = if x.Key ≠ ByteArray.mk #[] ∧ x.Key ∈ (v.Kids.take i).map (·.Key) then some (m + 1, 6) else k27 ()) (by unfold N0; omega) ?_ ?_ () (by simp)
  · intro again _ j hj hp
    have hy : v.Kids[j]? = some v.Kids[j] := List.getElem?_eq_getElem (by omega)
    unfold r14_validate_L2
    simp only [nz_lt hj, selT', idxO_nat, hx, hy, bindN, bs_eq]
    rw [wrap_suc hj (by unfold N0; omega), hm]
    by_cases c1 : x.Key = ByteArray.mk #[]
    · rw [decide_eq_true c1]
      exact .inr ⟨(), fun h => h.1 c1, rfl⟩
    · rw [decide_eq_false c1, Bool.not_false, gO_true, bind_some', gO_true, bind_some', Bool.true_and]
      by_cases c2 : x.Key = v.Kids[j].Key
      · rw [decide_eq_true c2, if_pos ⟨c1, List.mem_map.2 ⟨v.Kids[j], List.mem_take_iff_getElem.2 ⟨j, by omega, rfl⟩, c2.symm⟩⟩]
        exact .inl rfl
      · rw [decide_eq_false c2]
        refine .inr ⟨(), fun h => ?_, rfl⟩
        rw [take_suc hy, List.map_append] at h
        rcases List.mem_append.1 h.2 with h' | h'
        · exact hp ⟨c1, h'⟩
        · simp at h'; exact c2 h'
  · intro again _ hp
    unfold r14_validate_L2
    rw [nz_ge (Nat.le_refl _), sel_false, if_neg hp]
theorem rdup_loop {v : View} {m : Int} (hm : IntKind.i64.wrap (m + 1) = m + 1) (h100 : v.Kids.length ≤ 100) (k12 : Unit → Option (Int × Int)) :
    loopK (r14_validate_L3 v m k12) N0 0 = if dupF [] v.Kids = true then some (m + 1, 6) else k12 () := by
  refine loopI (L := v.Kids) (fun (_ : Unit) i => (i : Int)) (fun i _ => dupF [] v.Kids = dupF ((v.Kids.take i).map (·.Key)) (v.Kids.drop i)) (fun r => r = if dupF [] v.Kids = true then some (m + 1, 6) else k12 ()) (by unfold N0; omega) ?_ ?_ () rfl
  · intro again _ i x hx hi h1
    rw [drop_cons' hx, dupF_cons] at h1
    unfold r14_validate_L3
    rw [nz_lt hi, sel_true, jn_eq, jn_eq, rdup1 hm h100 hx hi, wrap_suc hi (by unfold N0; omega)]
    by_cases c : x.Key ≠ ByteArray.mk #[] ∧ x.Key ∈ (v.Kids.take i).map (·.Key)
    · rw [if_pos c] at h1
      rw [if_pos c, if_pos h1]
      exact .inl rfl
    · rw [if_neg c] at h1
      rw [if_neg c]
      refine .inr ⟨(), ?_, rfl⟩
      rw [h1, take_suc hx]; simp
  · intro again _ h1
    rw [List.drop_length] at h1
    unfold r14_validate_L3
    rw [nz_ge (Nat.le_refl _), sel_false, h1]
    unfold dupF; rfl
theorem rkids_ok {v : View} {d : Int} {sr : View → Int → Int → Option (Int × Int)} {g : View → Int → Int × Int} (h100 : v.Kids.length ≤ 100) (hd : -100 ≤ d ∧ d ≤ 100)
    (hs : ∀ k ∈ v.Kids, ∀ m, 0 ≤ m → m ≤ 400 → sr k (d + 1) m = some ((g k m).2, (g k m).1) ∧ ((g k m).1 = 0 → 0 ≤ (g k m).2 ∧ (g k m).2 ≤ 400)) {m : Int} (h0 : 0 ≤ m) (h1 : m ≤ 400) :
    loopK (r14_validate_L1 sr v d fun s13 => some (s13, 0)) N0 (m, 0) = some ((kdF g v.Kids m).2, (kdF g v.Kids m).1) := by
  refine loopI (L := v.Kids) (fun (m : Int) i => (m, (i : Int))) (fun i m' => kdF g v.Kids m = kdF g (v.Kids.drop i) m' ∧ 0 ≤ m' ∧ m' ≤ 400) (fun r => r = some ((kdF g v.Kids m).2, (kdF g v.Kids m).1)) (by unfold N0; omega) ?_ ?_ m ⟨rfl, h0, h1⟩
  · intro again m' i k hk hi ⟨hp, hp0, hp1⟩
    rw [drop_cons' hk, kdF_cons] at hp
    obtain ⟨e1, e2⟩ := hs k (List.mem_of_getElem? hk) m' hp0 hp1
    unfold r14_validate_L1
    simp only
    rw [nz_lt hi, sel_true, idxO_nat, hk, bind_some', wrap_id (x := d + 1) (by omega) (by omega), e1, bind_some', wrap_suc hi (by unfold N0; omega)]
    by_cases he : (g k m').1 = 0
    · rw [if_neg (by simp [he])] at hp
      rw [show ((g k m').1 != 0) = false by simp [he], sel_false]
      exact .inr ⟨(g k m').2, ⟨hp, e2 he⟩, rfl⟩
    · rw [if_pos he] at hp
      rw [show ((g k m').1 != 0) = true by simp [he], sel_true, hp]
      exact .inl rfl
  · intro again m' ⟨hp, hp0, hp1⟩
    rw [List.drop_length] at hp
    unfold r14_validate_L1
    simp only
    rw [nz_ge (Nat.le_refl _), sel_false, hp]
    rfl
theorem rvalidate_ok : ∀ (f n : Nat) (v : View) (d m : Int), v.sm → 18 ≤ f + d → 1 ≤ d → d ≤ 17 → f ≤ n → 0 ≤ m → m ≤ 400 → r14_validate n v d m = some ((valF f v d m).2, (valF f v d m).1)
  | 0, n, v, d, m, _, h, _, hd, _, _, _ => by omega
  | f + 1, 0, v, d, m, _, _, _, _, h, _, _ => by omega
  | f + 1, n + 1, v, d, m, hv, hf, hd, hd7, hn, h0, h1 => by
    have hv0 := hv
    rw [View.sm_eq] at hv
    show r14_validate_B (r14_validate n) v d m = some ((valB (fun k m => valF f k (d + 1) m) v d m).2, (valB (fun k m => valF f k (d + 1) m) v d m).1)
    unfold r14_validate_B valB
    have hm := wrap_id (x := m + 1) (by omega) (by omega)
    rw [hm]
    by_cases c1 : d > 16
    · rw [if_pos c1, decide_eq_true c1]; rfl
    rw [if_neg c1, decide_eq_false c1, sel_false]
    by_cases c2 : m + 1 > 400
    · rw [if_pos c2, decide_eq_true c2]; rfl
    rw [if_neg c2, decide_eq_false c2, sel_false]
    by_cases c3 : v.Kind < 1 ∨ v.Kind > 13
    · rw [if_pos c3, show ((decide (v.Kind < 1)) || (decide (v.Kind > 13))) = true by simp only [Bool.or_eq_true, decide_eq_true_eq]; exact c3]; rfl
    rw [if_neg c3, show ((decide (v.Kind < 1)) || (decide (v.Kind > 13))) = false by simp only [Bool.or_eq_false_iff, decide_eq_false_iff_not]; omega, sel_false, rkey_ok hv.1, bind_some']
    cases c4 : keyE v.Key with
    | false => rw [if_pos rfl]; rfl
    | true =>
      rw [if_neg (by exact Bool.noConfusion), Bool.not_true, sel_false]
      by_cases c5 : v.Attrs.length > 24 ∨ v.Actions.length > 24 ∨ v.Kids.length > 100
      · rw [if_pos c5, show (((decide ((v.Attrs.length : Int) > 24)) || (decide ((v.Actions.length : Int) > 24))) || (decide ((v.Kids.length : Int) > 100))) = true by simp only [Bool.or_eq_true, decide_eq_true_eq]; omega]; rfl
      rw [if_neg c5, show (((decide ((v.Attrs.length : Int) > 24)) || (decide ((v.Actions.length : Int) > 24))) || (decide ((v.Kids.length : Int) > 100))) = false by simp only [Bool.or_eq_false_iff, decide_eq_false_iff_not]; omega, sel_false]
      rw [jn_eq, rattr_loop hm (by unfold N0; omega)]
      by_cases c6 : atF none v.Attrs = 0
      · rw [if_pos c6, if_neg (by simp [c6]), jn_eq, ract_loop hm (by unfold N0; omega)]
        by_cases c7 : acF none v.Actions = 0
        · rw [if_pos c7, if_neg (by simp [c7]), jn_eq, rdup_loop hm (by omega)]
          by_cases c8 : dupF [] v.Kids = true
          · rw [if_pos c8, if_pos c8]
          · rw [if_neg c8, if_neg c8, jn_eq]
            exact rkids_ok (by omega) (by omega) (fun k hk m' h0' h1' => ⟨rvalidate_ok f n k (d + 1) m' (hv.2 k hk) (by omega) (by omega) (by omega) (by omega) h0' h1', (validate_ok f f k (d + 1) m' (hv.2 k hk) (by omega) (by omega) (by omega) (by omega) h0' h1').2⟩) (m := m + 1) (by omega) (by omega)
        · rw [if_neg c7, if_pos c7]
      · rw [if_neg c6, if_pos c6]
theorem rValidate_ok {v : View} (h : v.sm) : r14_Validate v = some (errV v) := by
  unfold r14_Validate
  rw [rvalidate_ok 17 N0 v 1 0 h (by omega) (by omega) (by omega) (by unfold N0; omega) (by omega) (by omega)]
  rfl
end Go.Proofs.YtcfegecdlbbeaaaDoor
end
section
namespace Go.Proofs.YtcfegecdlbbeaaaDoor
open Go Go.E2
section
variable {t : Tree}
end
end Go.Proofs.YtcfegecdlbbeaaaDoor
end
section
namespace Go.Proofs.YtcfegecdlbbeaaaDoor
open Go Go.E2
mutual
def AValue.wt : AValue → Nat
  | ⟨_, _, _, l⟩ => 1 + AValue.wtL l
def AValue.wtL : List AValue → Nat
  | [] => 0
  | x :: r => AValue.wt x + AValue.wtL r
end
theorem AValue.wt_eq (v : AValue) : v.wt = 1 + AValue.wtL v.L := by cases v; unfold AValue.wt; rfl
theorem AValue.wtL_nil : AValue.wtL [] = 0 := by unfold AValue.wtL; rfl
theorem AValue.wtL_cons (x : AValue) (r : List AValue) : AValue.wtL (x :: r) = x.wt + AValue.wtL r := by
  conv => lhs; unfold AValue.wtL
theorem AValue.wt_pos (v : AValue) : 1 ≤ v.wt := by rw [AValue.wt_eq]; omega
theorem AValue.wtL_len : ∀ l : List AValue, l.length ≤ AValue.wtL l
  | [] => by simp
  | x :: r => by
    have := AValue.wtL_len r
    have := x.wt_pos
    rw [AValue.wtL_cons]; simp; omega
theorem AValue.wtL_mem : ∀ {l : List AValue} {x : AValue}, x ∈ l → x.wt ≤ AValue.wtL l
  | [], x, h => by cases h
  | y :: r, x, h => by
    rw [AValue.wtL_cons]
    rcases List.mem_cons.1 h with e | e
    · subst e; omega
    · have := AValue.wtL_mem e; omega
def AttrsOk (l : List Attr) : Prop := l.length ≤ 1000 ∧ ∀ a ∈ l, a.Value.wt < 1000000
end Go.Proofs.YtcfegecdlbbeaaaDoor
end
section
namespace Go.Proofs.YtcfegecdlbbeaaaDoor
open Go Go.E2
end Go.Proofs.YtcfegecdlbbeaaaDoor
end
section
namespace Go.Proofs.YtcfegecdlbbeaaaDoor
open Go Go.E2
end Go.Proofs.YtcfegecdlbbeaaaDoor
end
section
namespace Go.Proofs.YtcfegecdlbbeaaaDoor
open Go Go.E2
theorem eqLoop {α : Type} {a b : List α} {B : (Int → Option Bool) → Int → Option Bool} (hl : a.length = b.length) (hn : a.length < N0)
    (hc : ∀ again (i : Nat) x y, i < a.length → a[i]? = some x → b[i]? = some y → (x = y → B again (i : Int) = again ((i + 1 : Nat) : Int)) ∧ (x ≠ y → B again (i : Int) = some false))
    (he : ∀ again, B again (a.length : Int) = some true) : ∃ d, loopK B N0 0 = some d ∧ (d = true ↔ a = b) := by
  refine loopI (L := a) (fun (_ : Unit) i => (i : Int)) (fun i _ => a.take i = b.take i) (fun r => ∃ d, r = some d ∧ (d = true ↔ a = b)) hn ?_ ?_ () rfl
  · intro again _ i x hx hi hp
    have hy : b[i]? = some b[i] := List.getElem?_eq_getElem (by omega)
    obtain ⟨h1, h2⟩ := hc again i x b[i] hi hx hy
    by_cases c : x = b[i]
    · refine .inr ⟨(), ?_, h1 c⟩
      rw [take_suc hx, take_suc hy, hp, c]
    · refine .inl ⟨false, h2 c, ⟨fun e => Bool.noConfusion e, fun e => ?_⟩⟩
      subst e
      rw [hy] at hx
      exact absurd (Option.some.inj hx).symm c
  · intro again _ hp
    refine ⟨true, he again, ⟨fun _ => ?_, fun _ => rfl⟩⟩
    rw [List.take_length, hl, List.take_length] at hp
    exact hp
theorem AValue.ext' {v w : AValue} (h1 : v.Kind = w.Kind) (h2 : v.N = w.N) (h3 : v.S = w.S) (h4 : v.L = w.L) : v = w := by
  cases v; cases w; simp_all
theorem View.ext' {v w : View} (h1 : v.Kind = w.Kind) (h2 : v.Key = w.Key) (h3 : v.Attrs = w.Attrs) (h4 : v.Actions = w.Actions) (h5 : v.Kids = w.Kids) : v = w := by
  cases v; cases w; simp_all
theorem rsame_ok : ∀ (n : Nat) (v w : AValue), v.wt ≤ n → v.wt < 1000000 → ∃ c, r11_Same n v w = some c ∧ (c = true ↔ v = w)
  | 0, v, w, h, _ => by have := v.wt_pos; omega
  | n + 1, v, w, h, hb => by
    show ∃ c, r11_Same_B (r11_Same n) (r11_SameValues n) v w = some c ∧ _
    unfold r11_Same_B
    have hw := v.wt_eq
    have hlen := AValue.wtL_len v.L
    by_cases c1 : v.Kind = w.Kind ∧ v.N = w.N ∧ v.S = w.S ∧ v.L.length = w.L.length
    · obtain ⟨d1, d2, d3, d4⟩ := c1
      rw [show ((((v.Kind != w.Kind) || (v.N != w.N)) || (!(v.S.toList == w.S.toList))) || ((v.L.length : Int) != (w.L.length : Int))) = false by simp [d1, d2, d3, d4], sel_false, jn_eq]
      obtain ⟨d, e1, e2⟩ := eqLoop (a := v.L) (b := w.L) (B := r11_Same_L1 (r11_Same n) v w fun _ => some true) d4 (by unfold N0; omega) (fun again i x y hi hx hy => by
        have hm := AValue.wtL_mem (List.mem_of_getElem? hx)
        obtain ⟨c, c1, c2⟩ := rsame_ok n x y (by omega) (by omega)
        unfold r11_Same_L1
        rw [nz_lt hi, sel_true, idxO_nat, hx, bind_some', idxO_nat, hy, bind_some', c1, bind_some', wrap_suc hi (by unfold N0; omega)]
        constructor
        · intro e; rw [c2.2 e]; rfl
        · intro e
          have : c = false := by cases c with
            | false => rfl
            | true => exact absurd (c2.1 rfl) e
          rw [this]; rfl) (fun again => by
        unfold r11_Same_L1
        rw [nz_ge (Nat.le_refl _), sel_false])
      exact ⟨d, e1, e2.trans ⟨fun e => AValue.ext' d1 d2 d3 e, fun e => by rw [e]⟩⟩
    · refine ⟨false, sel_t ?_ _ _, ⟨fun e => Bool.noConfusion e, fun e => absurd (by subst e; exact ⟨rfl, rfl, rfl, rfl⟩) c1⟩⟩
      rw [bs_eq]
      simp only [Bool.or_eq_true, bne_iff_ne, ne_eq, Bool.not_eq_true', decide_eq_false_iff_not]
      by_cases d1 : v.Kind = w.Kind
      · by_cases d2 : v.N = w.N
        · by_cases d3 : v.S = w.S
          · exact .inr (fun d4 => c1 ⟨d1, d2, d3, by omega⟩)
          · exact .inl (.inr d3)
        · exact .inl (.inl (.inr d2))
      · exact .inl (.inl (.inl d1))
theorem rsameL_ok {a b : List AValue} (h : AValue.wtL a < 1000000) : ∃ c, r11_SameValues N0 a b = some c ∧ (c = true ↔ a = b) := by
  have hN : N0 = (N0 - 1) + 1 := by unfold N0; omega
  rw [hN]
  show ∃ c, r11_SameValues_B (r11_Same (N0 - 1)) (r11_SameValues (N0 - 1)) a b = some c ∧ _
  unfold r11_SameValues_B
  have hlen := AValue.wtL_len a
  by_cases c1 : a.length = b.length
  · rw [show ((a.length : Int) != (b.length : Int)) = false by simp [c1], sel_false, jn_eq]
    exact eqLoop (a := a) (b := b) c1 (by unfold N0; omega) (fun again i x y hi hx hy => by
      have hm := AValue.wtL_mem (List.mem_of_getElem? hx)
      obtain ⟨c, c1, c2⟩ := rsame_ok (N0 - 1) x y (by unfold N0; omega) (by omega)
      unfold r11_SameValues_L1
      rw [nz_lt hi, sel_true, idxO_nat, hx, bind_some', idxO_nat, hy, bind_some', c1, bind_some', wrap_suc hi (by unfold N0; omega)]
      constructor
      · intro e; rw [c2.2 e]; rfl
      · intro e
        have : c = false := by cases c with
          | false => rfl
          | true => exact absurd (c2.1 rfl) e
        rw [this]; rfl) (fun again => by
      unfold r11_SameValues_L1
      rw [nz_ge (Nat.le_refl _), sel_false])
  · exact ⟨false, sel_t (by rw [bne_iff_ne]; omega) _ _, ⟨fun e => Bool.noConfusion e, fun e => absurd (by rw [e]) c1⟩⟩
def ActsOk (l : List Action) : Prop := l.length ≤ 1000 ∧ ∀ a ∈ l, AValue.wtL a.Args < 1000000
theorem rsameA_ok {a b : List Attr} (h : AttrsOk a) : ∃ c, r14_SameAttrs a b = some c ∧ (c = true ↔ a = b) := by
  unfold r14_SameAttrs
  have h0 := h.1
  by_cases c1 : a.length = b.length
  · rw [show ((a.length : Int) != (b.length : Int)) = false by simp [c1], sel_false, jn_eq]
    exact eqLoop (a := a) (b := b) c1 (by unfold N0; omega) (fun again i x y hi hx hy => by
      obtain ⟨c, c1, c2⟩ := rsame_ok N0 x.Value y.Value (by have := h.2 x (List.mem_of_getElem? hx); unfold N0; omega) (h.2 x (List.mem_of_getElem? hx))
      unfold r14_SameAttrs_L1
      simp only [nz_lt hi, selT', idxO_nat, hx, hy, bindN, bs_eq]
      rw [wrap_suc hi (by unfold N0; omega)]
      obtain ⟨xn, xv⟩ := x
      obtain ⟨yn, yv⟩ := y
      simp only [Attr.mk.injEq] at c2 ⊢
      by_cases d : xn = yn
      · subst d
        simp only [decide_true, Bool.not_true, Bool.not_false, gO_true, bind_some', Bool.false_or, true_and]
        rw [c1, bind_some']
        constructor
        · intro e; rw [c2.2 e]; rfl
        · intro e
          have : c = false := by cases c with
            | false => rfl
            | true => exact absurd (by rw [c2.1 rfl]) e
          rw [this]; rfl
      · simp [d]) (fun again => by
      unfold r14_SameAttrs_L1
      rw [nz_ge (Nat.le_refl _), sel_false])
  · exact ⟨false, sel_t (by rw [bne_iff_ne]; omega) _ _, ⟨fun e => Bool.noConfusion e, fun e => absurd (by rw [e]) c1⟩⟩
theorem rsameC_ok {a b : List Action} (h : ActsOk a) : ∃ c, r14_SameActions a b = some c ∧ (c = true ↔ a = b) := by
  unfold r14_SameActions
  have h0 := h.1
  by_cases c1 : a.length = b.length
  · rw [show ((a.length : Int) != (b.length : Int)) = false by simp [c1], sel_false, jn_eq]
    exact eqLoop (a := a) (b := b) c1 (by unfold N0; omega) (fun again i x y hi hx hy => by
      obtain ⟨c, c1, c2⟩ := rsameL_ok (a := x.Args) (b := y.Args) (h.2 x (List.mem_of_getElem? hx))
      unfold r14_SameActions_L1
      simp only [nz_lt hi, selT', idxO_nat, hx, hy, bindN, bs_eq]
      rw [wrap_suc hi (by unfold N0; omega)]
      obtain ⟨x1, x2, x3, x4⟩ := x
      obtain ⟨y1, y2, y3, y4⟩ := y
      simp only [Action.mk.injEq] at c1 c2 ⊢
      by_cases d1 : x1 = y1
      · subst d1
        simp only [decide_true, Bool.not_true, Bool.not_false, gO_true, bind_some', Bool.false_or, true_and]
        by_cases d2 : x2 = y2
        · subst d2
          simp only [decide_true, Bool.not_true, Bool.not_false, gO_true, bind_some', Bool.false_or, true_and]
          by_cases d3 : x3 = y3
          · subst d3
            simp only [decide_true, Bool.not_true, Bool.not_false, gO_true, bind_some', Bool.false_or, true_and]
            rw [c1, bind_some']
            constructor
            · intro e; rw [c2.2 e]; rfl
            · intro e
              have : c = false := by cases c with
                | false => rfl
                | true => exact absurd (by rw [c2.1 rfl]) e
              rw [this]; rfl
          · simp [d3]
        · simp [d2]
      · simp [d1]) (fun again => by
      unfold r14_SameActions_L1
      rw [nz_ge (Nat.le_refl _), sel_false])
  · exact ⟨false, sel_t (by rw [bne_iff_ne]; omega) _ _, ⟨fun e => Bool.noConfusion e, fun e => absurd (by rw [e]) c1⟩⟩
mutual
def View.dp : View → Nat
  | ⟨_, _, _, _, kids⟩ => 1 + View.dpL kids
def View.dpL : List View → Nat
  | [] => 0
  | x :: r => max (View.dp x) (View.dpL r)
end
mutual
def View.bd : View → Prop
  | ⟨_, _, las, cs, kids⟩ => AttrsOk las ∧ ActsOk cs ∧ kids.length ≤ 1000000 ∧ View.bdL kids
def View.bdL : List View → Prop
  | [] => True
  | x :: r => View.bd x ∧ View.bdL r
end
theorem View.dp_eq (v : View) : v.dp = 1 + View.dpL v.Kids := by cases v; conv => lhs; unfold View.dp
theorem View.dpL_mem : ∀ {l : List View} {x : View}, x ∈ l → x.dp ≤ View.dpL l
  | [], _, h => by cases h
  | y :: r, x, h => by
    unfold View.dpL
    rcases List.mem_cons.1 h with e | e
    · subst e; omega
    · have := View.dpL_mem e; omega
theorem View.dpL_le : ∀ {l : List View} {n : Nat}, (∀ x ∈ l, x.dp ≤ n) → View.dpL l ≤ n
  | [], _, _ => by unfold View.dpL; omega
  | y :: r, n, h => by
    unfold View.dpL
    have h1 := h y (by simp)
    have := View.dpL_le (l := r) (n := n) (fun x hx => h x (by simp [hx]))
    omega
theorem View.bdL_eq : ∀ l, View.bdL l ↔ ∀ a ∈ l, View.bd a
  | [] => by unfold View.bdL; simp
  | x :: r => by unfold View.bdL; rw [View.bdL_eq r]; simp
theorem View.bd_eq (v : View) : View.bd v ↔ AttrsOk v.Attrs ∧ ActsOk v.Actions ∧ v.Kids.length ≤ 1000000 ∧ ∀ a ∈ v.Kids, View.bd a := by
  cases v
  conv => lhs; unfold View.bd
  rw [View.bdL_eq]
theorem rsameV_ok : ∀ (n : Nat) (v w : View), v.dp ≤ n → v.bd → ∃ c, r14_Same n v w = some c ∧ (c = true ↔ v = w)
  | 0, v, w, h, _ => by rw [View.dp_eq] at h; omega
  | n + 1, v, w, h, hb => by
    rw [View.bd_eq] at hb
    obtain ⟨b1, b2, b3, b4⟩ := hb
    show ∃ c, r14_Same_B (r14_Same n) v w = some c ∧ _
    unfold r14_Same_B
    rw [View.dp_eq] at h
    obtain ⟨x1, p1, q1⟩ := rsameA_ok (b := w.Attrs) b1
    obtain ⟨x2, p2, q2⟩ := rsameC_ok (b := w.Actions) b2
    rw [bs_eq]
    by_cases c1 : v.Kind = w.Kind ∧ v.Key = w.Key
    · rw [show ((v.Kind != w.Kind) || (!(decide (v.Key = w.Key)))) = false by simp [c1.1, c1.2], Bool.not_false, gO_true, p1, bind_some', Bool.false_or]
      by_cases c2 : v.Attrs = w.Attrs
      · rw [q1.2 c2, Bool.not_true, Bool.not_false, gO_true, p2, bind_some', Bool.false_or]
        by_cases c3 : v.Actions = w.Actions
        · rw [q2.2 c3, Bool.not_true, Bool.false_or]
          by_cases c4 : v.Kids.length = w.Kids.length
          · rw [show ((v.Kids.length : Int) != (w.Kids.length : Int)) = false by simp [c4], sel_false, jn_eq]
            obtain ⟨d, e1, e2⟩ := eqLoop (a := v.Kids) (b := w.Kids) (B := r14_Same_L1 (r14_Same n) v w fun _ => some true) c4 (by unfold N0; omega) (fun again i x y hi hx hy => by
              have hm := View.dpL_mem (List.mem_of_getElem? hx)
              obtain ⟨c, c1, c2⟩ := rsameV_ok n x y (by omega) (b4 x (List.mem_of_getElem? hx))
              unfold r14_Same_L1
              rw [nz_lt hi, sel_true, idxO_nat, hx, bind_some', idxO_nat, hy, bind_some', c1, bind_some', wrap_suc hi (by unfold N0; omega)]
              constructor
              · intro e; rw [c2.2 e]; rfl
              · intro e
                have : c = false := by cases c with
                  | false => rfl
                  | true => exact absurd (c2.1 rfl) e
                rw [this]; rfl) (fun again => by
              unfold r14_Same_L1
              rw [nz_ge (Nat.le_refl _), sel_false])
            exact ⟨d, e1, e2.trans ⟨fun e => View.ext' c1.1 c1.2 c2 c3 e, fun e => by rw [e]⟩⟩
          · exact ⟨false, sel_t (by rw [bne_iff_ne]; omega) _ _, ⟨fun e => Bool.noConfusion e, fun e => absurd (by rw [e]) c4⟩⟩
        · have : x2 = false := by cases x2 with
            | false => rfl
            | true => exact absurd (q2.1 rfl) c3
          rw [this]
          exact ⟨false, rfl, ⟨fun e => Bool.noConfusion e, fun e => absurd (by rw [e]) c3⟩⟩
      · have : x1 = false := by cases x1 with
          | false => rfl
          | true => exact absurd (q1.1 rfl) c2
        rw [this]
        exact ⟨false, rfl, ⟨fun e => Bool.noConfusion e, fun e => absurd (by rw [e]) c2⟩⟩
    · rw [show ((v.Kind != w.Kind) || (!(decide (v.Key = w.Key)))) = true by
        simp only [Bool.or_eq_true, bne_iff_ne, ne_eq, Bool.not_eq_true', decide_eq_false_iff_not]
        by_cases d1 : v.Kind = w.Kind
        · exact .inr fun d2 => c1 ⟨d1, d2⟩
        · exact .inl d1]
      exact ⟨false, rfl, ⟨fun e => Bool.noConfusion e, fun e => absurd (by subst e; exact ⟨rfl, rfl⟩) c1⟩⟩
end Go.Proofs.YtcfegecdlbbeaaaDoor
end
section
namespace Go.Proofs.YtcfegecdlbbeaaaDoor
open Go Go.E2
end Go.Proofs.YtcfegecdlbbeaaaDoor
end
section
namespace Go.Proofs.YtcfegecdlbbeaaaDoor
open Go Go.E2
structure OkV (v : View) : Prop where
  kind : 1 ≤ v.Kind ∧ v.Kind ≤ 13
  key : keyE v.Key = true
  atts : v.Attrs.length ≤ 24
  acts : v.Actions.length ≤ 24
  kids : v.Kids.length ≤ 100
  atf : atF none v.Attrs = 0
  acf : acF none v.Actions = 0
  dup : dupF [] v.Kids = false
theorem val_parts {f : Nat} {v : View} {d m : Int} (h : (valF (f + 1) v d m).1 = 0) : d ≤ 16 ∧ m + 1 ≤ 400 ∧ OkV v ∧ (kdF (fun k m => valF f k (d + 1) m) v.Kids (m + 1)).1 = 0 := by
  change (valB (fun k m => valF f k (d + 1) m) v d m).1 = 0 at h
  unfold valB at h
  by_cases c1 : d > 16
  · rw [if_pos c1] at h; cases h
  rw [if_neg c1] at h
  by_cases c2 : m + 1 > 400
  · rw [if_pos c2] at h; cases h
  rw [if_neg c2] at h
  by_cases c3 : v.Kind < 1 ∨ v.Kind > 13
  · rw [if_pos c3] at h; cases h
  rw [if_neg c3] at h
  cases c4 : keyE v.Key with
  | false => rw [c4, if_pos rfl] at h; cases h
  | true =>
    rw [c4, if_neg (by exact Bool.noConfusion)] at h
    by_cases c5 : v.Attrs.length > 24 ∨ v.Actions.length > 24 ∨ v.Kids.length > 100
    · rw [if_pos c5] at h; cases h
    rw [if_neg c5] at h
    by_cases c6 : atF none v.Attrs = 0
    · rw [if_neg (by simp [c6])] at h
      by_cases c7 : acF none v.Actions = 0
      · rw [if_neg (by simp [c7])] at h
        cases c8 : dupF [] v.Kids with
        | true => rw [c8, if_pos rfl] at h; cases h
        | false =>
          rw [c8, if_neg (by exact Bool.noConfusion)] at h
          exact ⟨by omega, by omega, ⟨by omega, c4, by omega, by omega, by omega, c6, c7, c8⟩, h⟩
      · rw [if_pos c7] at h; exact absurd h c7
    · rw [if_pos c6] at h; exact absurd h c6
end Go.Proofs.YtcfegecdlbbeaaaDoor
end
section
namespace Go.Proofs.YtcfegecdlbbeaaaDoor
open Go Go.E2
theorem chk_loop {n : Nat} {a0 : AValue} {a1 : Int} (ih : ∀ (v : AValue) (d m : Int) (t : AType) (m' : Int), 0 ≤ m → m ≤ 1000 → ex_check n v d m = some (t, 0, m') → m' = m + v.wt ∧ m' ≤ 1000) (hlen : a0.L.length ≤ 100)
    {k12 : (List AType) × Int → Option (AType × Int × Int)} (hk : ∀ l m t m', k12 (l, m) = some (t, 0, m') → m' = m) :
    ∀ (f i : Nat) (l : List AType) (m : Int) (t : AType) (m' : Int), i ≤ a0.L.length → 0 ≤ m → m ≤ 1000 → loopK (ex_check_L1 (ex_check n) a0 a1 k12) f (l, (i : Int), m) = some (t, 0, m') → m' = m + AValue.wtL (a0.L.drop i) ∧ m' ≤ 1000
  | 0, _, _, _, _, _, _, _, _, h => by cases h
  | f + 1, i, l, m, t, m', hi, h0, h1, h => by
    have IH := chk_loop (a1 := a1) ih hlen hk f
    change ex_check_L1 (ex_check n) a0 a1 k12 (loopK _ f) (l, (i : Int), m) = some (t, 0, m') at h
    generalize loopK (ex_check_L1 (ex_check n) a0 a1 k12) f = again at h IH
    unfold ex_check_L1 at h
    simp only at h
    by_cases c : i < a0.L.length
    · have hx : a0.L[i]? = some a0.L[i] := List.getElem?_eq_getElem c
      rw [nz_lt c, sel_true, idxO_nat, hx, bind_some'] at h
      obtain ⟨r, r1, r2⟩ := bind_some h
      obtain ⟨t1, e1, m1⟩ := r
      simp only at r2
      by_cases he : e1 = 0
      · subst he
        rw [show ((0 : Int) != 0) = false from rfl, sel_false] at r2
        obtain ⟨l2, l3, r3⟩ := bind_some r2
        obtain ⟨g1, g2⟩ := ih _ _ _ _ _ h0 h1 r1
        have hw := a0.L[i].wt_pos
        rw [wrap_suc c (by unfold N0; omega)] at r3
        obtain ⟨g3, g4⟩ := IH (i + 1) l2 m1 t m' (by omega) (by omega) g2 r3
        rw [drop_cons' hx, AValue.wtL_cons]
        exact ⟨by omega, g4⟩
      · rw [show (e1 != 0) = true by simp [he], sel_true] at r2
        exact absurd (congrArg (fun x => x.2.1) (Option.some.inj r2)) he
    · rw [nz_ge (by omega), sel_false] at h
      have := hk _ _ _ _ h
      rw [List.drop_eq_nil_of_le (by omega), AValue.wtL_nil]
      omega
theorem chk_cnt : ∀ (n : Nat) (v : AValue) (d m : Int) (t : AType) (m' : Int), 0 ≤ m → m ≤ 1000 → ex_check n v d m = some (t, 0, m') → m' = m + v.wt ∧ m' ≤ 1000
  | 0, _, _, _, _, _, _, _, h => by cases h
  | n + 1, v, d, m, t, m', h0, h1, h => by
    change ex_check_B (ex_check n) v d m = some (t, 0, m') at h
    unfold ex_check_B at h
    rw [wrap_id (x := m + 1) (by omega) (by omega), fields_eq, bind_some', range_jn] at h
    cases c1 : ((v.Kind == 4) && (decide (d ≥ 16))) with
    | true => rw [c1, sel_true] at h; cases h
    | false =>
      rw [c1, sel_false] at h
      cases c2 : badF v with
      | true => rw [c2] at h; cases h
      | false =>
        rw [c2, Bool.not_false, Bool.not_true, sel_false] at h
        cases c3 : badR v with
        | true => rw [c3, sel_true] at h; cases h
        | false =>
          rw [c3, sel_false] at h
          cases c4 : (((decide ((v.S.size : Int) > 2000)) || (decide ((v.L.length : Int) > 100))) || (decide (m + 1 > 1000))) with
          | true => rw [c4, sel_true] at h; cases h
          | false =>
            rw [c4, sel_false] at h
            simp only [Bool.or_eq_false_iff, decide_eq_false_iff_not] at c4
            obtain ⟨b, _, hb⟩ := bind_some h
            cases b with
            | false => cases hb
            | true =>
              rw [Bool.not_true, sel_false] at hb
              have hw := v.wt_eq
              by_cases c5 : v.Kind = 4
              · rw [show (v.Kind != 4) = false by simp [c5], sel_false, jn_eq] at hb
                obtain ⟨e1, e2⟩ := chk_loop (chk_cnt n) (a1 := d) (by omega) (k12 := _) (fun l q t q' hq => by
                  obtain ⟨x, _, x2⟩ := bind_some hq
                  cases hx : x.2 with
                  | false => rw [hx] at x2; cases x2
                  | true =>
                    rw [hx] at x2
                    have := Option.some.inj x2
                    exact (congrArg (fun y : AType × Int × Int => y.2.2) this).symm) N0 0 [] (m + 1) t m' (Nat.zero_le _) (by omega) (by omega) hb
                rw [List.drop_zero] at e1
                exact ⟨by omega, e2⟩
              · rw [show (v.Kind != 4) = true by simp [c5], sel_true] at hb
                have e : m' = m + 1 := (congrArg (fun y : AType × Int × Int => y.2.2) (Option.some.inj hb)).symm
                have hL : v.L = [] := by
                  unfold badF at c2
                  simp only [Bool.or_eq_false_iff, Bool.and_eq_false_iff] at c2
                  rcases c2.2 with c | c
                  · have : ¬ ((v.L.length : Int) > 0) := by simpa using c
                    exact List.length_eq_zero_iff.1 (by omega)
                  · exact absurd (by simpa using c) c5
                rw [hL, AValue.wtL_nil] at hw
                exact ⟨by omega, by omega⟩
theorem chE_wt {v : AValue} (h : chE v = 0) : v.wt ≤ 1000 := by
  have h1 := chE_x v
  rw [h] at h1
  unfold ex_Check at h1
  obtain ⟨x, x1, x2⟩ := bind_some h1
  unfold ex_TypeOf at x1
  obtain ⟨y, y1, y2⟩ := bind_some x1
  obtain ⟨t, e, m⟩ := y
  by_cases he : e = 0
  · subst he
    have := chk_cnt N0 v 0 0 t m (by omega) (by omega) y1
    omega
  · simp only at y2
    rw [show (e != 0) = true by simp [he], sel_true] at y2
    have := Option.some.inj y2
    rw [← this] at x2
    exact absurd (Option.some.inj x2) he
theorem atF_each : ∀ {l : List Attr} {p : Option Attr}, atF p l = 0 → ∀ a ∈ l, chE a.Value = 0
  | [], _, _, a, ha => by cases ha
  | x :: r, p, h, a, ha => by
    rw [atF_cons] at h
    by_cases c1 : namE x.Name = false
    · rw [if_pos c1] at h; cases h
    rw [if_neg c1] at h
    by_cases c2 : nle (p.map (·.Name)) x.Name = true
    · rw [if_pos c2] at h; cases h
    rw [if_neg c2] at h
    by_cases c3 : chE x.Value = 0
    · rw [if_neg (by simp [c3])] at h
      rcases List.mem_cons.1 ha with e | e
      · subst e; exact c3
      · exact atF_each h a e
    · rw [if_pos c3] at h; exact absurd h c3
theorem vaF_each : ∀ {l : List AValue}, vaF l = 0 → ∀ a ∈ l, chE a = 0
  | [], _, a, ha => by cases ha
  | x :: r, h, a, ha => by
    rw [vaF_cons] at h
    by_cases c3 : chE x = 0
    · rw [if_neg (by simp [c3])] at h
      rcases List.mem_cons.1 ha with e | e
      · subst e; exact c3
      · exact vaF_each h a e
    · rw [if_pos c3] at h; exact absurd h c3
theorem acF_each : ∀ {l : List Action} {p : Option Action}, acF p l = 0 → ∀ a ∈ l, a.Args.length ≤ 100 ∧ a.Instance.size ≤ 400 ∧ ∀ x ∈ a.Args, chE x = 0
  | [], _, _, a, ha => by cases ha
  | x :: r, p, h, a, ha => by
    rw [acF_cons] at h
    by_cases c1 : (namE x.Event && namE x.Handler) = false
    · rw [if_pos c1] at h; cases h
    rw [if_neg c1] at h
    by_cases c2 : nle (p.map (·.Event)) x.Event = true
    · rw [if_pos c2] at h; cases h
    rw [if_neg c2] at h
    by_cases c4 : x.Instance.size > 400 ∨ x.Args.length > 100
    · rw [if_pos c4] at h; cases h
    rw [if_neg c4] at h
    by_cases c3 : vaF x.Args = 0
    · rw [if_neg (by simp [c3])] at h
      rcases List.mem_cons.1 ha with e | e
      · subst e; exact ⟨by omega, by omega, vaF_each c3⟩
      · exact acF_each h a e
    · rw [if_pos c3] at h; exact absurd h c3
theorem wtL_le {n : Nat} : ∀ {l : List AValue}, (∀ x ∈ l, x.wt ≤ n) → AValue.wtL l ≤ n * l.length
  | [], _ => by rw [AValue.wtL_nil]; omega
  | x :: r, h => by
    rw [AValue.wtL_cons, List.length_cons, Nat.mul_succ]
    have := h x (by simp)
    have := wtL_le (l := r) (fun y hy => h y (by simp [hy]))
    omega
theorem OkV.attsOk {v : View} (h : OkV v) : AttrsOk v.Attrs := ⟨by have := h.atts; omega, fun a ha => by have := chE_wt (atF_each h.atf a ha); omega⟩
theorem OkV.actsOk {v : View} (h : OkV v) : ActsOk v.Actions := ⟨by have := h.acts; omega, fun a ha => by
  obtain ⟨h1, _, h2⟩ := acF_each h.acf a ha
  have := wtL_le (n := 1000) (fun x hx => chE_wt (h2 x hx))
  have : 1000 * a.Args.length ≤ 1000 * 100 := Nat.mul_le_mul_left _ h1
  omega⟩
mutual
def View.vh : View → Prop
  | ⟨k, key, las, cs, kids⟩ => OkV ⟨k, key, las, cs, kids⟩ ∧ View.vhL kids
def View.vhL : List View → Prop
  | [] => True
  | x :: r => View.vh x ∧ View.vhL r
end
theorem View.vhL_eq : ∀ l, View.vhL l ↔ ∀ a ∈ l, View.vh a
  | [] => by unfold View.vhL; simp
  | x :: r => by unfold View.vhL; rw [View.vhL_eq r]; simp
theorem View.vh_eq (v : View) : View.vh v ↔ OkV v ∧ ∀ a ∈ v.Kids, View.vh a := by
  cases v
  conv => lhs; unfold View.vh
  rw [View.vhL_eq]
mutual
def View.cnt : View → Nat
  | ⟨_, _, _, _, kids⟩ => 1 + View.cntL kids
def View.cntL : List View → Nat
  | [] => 0
  | x :: r => View.cnt x + View.cntL r
end
theorem View.cnt_eq (v : View) : v.cnt = 1 + View.cntL v.Kids := by cases v; conv => lhs; unfold View.cnt
theorem View.cntL_cons (x : View) (r : List View) : View.cntL (x :: r) = x.cnt + View.cntL r := by conv => lhs; unfold View.cntL
theorem View.cntL_nil : View.cntL [] = 0 := by unfold View.cntL; rfl
theorem val_all : ∀ (f : Nat) (v : View) (d m : Int), 1 ≤ d → 18 ≤ (f : Int) + d → d ≤ 17 → m ≤ 400 → (valF f v d m).1 = 0 → v.vh ∧ (v.dp : Int) ≤ 17 - d ∧ (valF f v d m).2 = m + v.cnt ∧ (valF f v d m).2 ≤ 400
  | 0, _, _, _, _, h, h', _, _ => by omega
  | f + 1, v, d, m, hd, hf, h17, hm, h => by
    obtain ⟨h1, h2, h3, h4⟩ := val_parts h
    have key : ∀ k m', m' ≤ 400 → (valF f k (d + 1) m').1 = 0 → k.vh ∧ (k.dp : Int) ≤ 17 - (d + 1) ∧ (valF f k (d + 1) m').2 = m' + k.cnt ∧ (valF f k (d + 1) m').2 ≤ 400 := fun k m' hm' h' => val_all f k (d + 1) m' (by omega) (by omega) (by omega) hm' h'
    have hkids : ∀ (l : List View) (m' : Int), m' ≤ 400 → (kdF (fun k m => valF f k (d + 1) m) l m').1 = 0 → (∀ k ∈ l, k.vh ∧ (k.dp : Int) ≤ 17 - (d + 1)) ∧ (kdF (fun k m => valF f k (d + 1) m) l m').2 = m' + View.cntL l ∧ (kdF (fun k m => valF f k (d + 1) m) l m').2 ≤ 400 := by
      intro l
      induction l with
      | nil => intro m' hm' _; exact ⟨fun k hk => (by cases hk), (by rw [View.cntL_nil]; show m' = m' + ((0 : Nat) : Int); omega), hm'⟩
      | cons x r ih =>
        intro m' hm' hk
        rw [kdF_cons] at hk ⊢
        by_cases c : (valF f x (d + 1) m').1 = 0
        · rw [if_neg (by simp [c])] at hk ⊢
          obtain ⟨k1, k2, k3, k4⟩ := key x m' hm' c
          obtain ⟨i1, i2, i3⟩ := ih _ k4 hk
          refine ⟨fun k hk' => ?_, by rw [i2, k3, View.cntL_cons]; omega, i3⟩
          rcases List.mem_cons.1 hk' with e | e
          · subst e; exact ⟨k1, k2⟩
          · exact i1 k e
        · rw [if_pos c] at hk; exact absurd hk c
    obtain ⟨i1, i2, i3⟩ := hkids v.Kids (m + 1) h2 h4
    have e : valF (f + 1) v d m = kdF (fun k m => valF f k (d + 1) m) v.Kids (m + 1) := by
      show valB _ v d m = _
      unfold valB
      rw [if_neg (by omega), if_neg (by omega), if_neg (by have := h3.kind; omega), if_neg (by rw [h3.key]; exact Bool.noConfusion), if_neg (by have := h3.atts; have := h3.acts; have := h3.kids; omega), if_neg (by simp [h3.atf]), if_neg (by simp [h3.acf]), if_neg (by rw [h3.dup]; exact Bool.noConfusion)]
    rw [e, i2, View.cnt_eq, View.dp_eq]
    rw [i2] at i3
    have hdl : (View.dpL v.Kids : Int) ≤ 16 - d := by
      have := View.dpL_le (l := v.Kids) (n := (16 - d).toNat) (fun x hx => by have := (i1 x hx).2; omega)
      omega
    exact ⟨(View.vh_eq v).2 ⟨h3, fun a ha => (i1 a ha).1⟩, by omega, by omega, i3⟩
theorem vh_bd : ∀ (n : Nat) (v : View), v.dp ≤ n → v.vh → v.bd
  | 0, v, h, _ => by rw [View.dp_eq] at h; omega
  | n + 1, v, h, hv => by
    rw [View.dp_eq] at h
    rw [View.vh_eq] at hv
    rw [View.bd_eq]
    exact ⟨hv.1.attsOk, hv.1.actsOk, by have := hv.1.kids; omega, fun a ha => vh_bd n a (by have := View.dpL_mem ha; omega) (hv.2 a ha)⟩
theorem vh_sm : ∀ (n : Nat) (v : View), v.dp ≤ n → v.vh → v.sm
  | 0, v, h, _ => by rw [View.dp_eq] at h; omega
  | n + 1, v, h, hv => by
    rw [View.dp_eq] at h
    rw [View.vh_eq] at hv
    rw [View.sm_eq]
    exact ⟨by have := (of_decide_eq_true hv.1.key).1; unfold N0; omega, fun a ha => vh_sm n a (by have := View.dpL_mem ha; omega) (hv.2 a ha)⟩
structure Vld (v : View) : Prop where
  vh : v.vh
  dp : v.dp ≤ 16
  cnt : v.cnt ≤ 400
  bd : v.bd
  sm : v.sm
theorem valid_all {v : View} (h : errV v = 0) : Vld v := by
  obtain ⟨h1, h2, h3, h4⟩ := val_all 17 v 1 0 (by omega) (by omega) (by omega) (by omega) h
  exact ⟨h1, by omega, by omega, vh_bd _ v (Nat.le_refl _) h1, vh_sm _ v (Nat.le_refl _) h1⟩
end Go.Proofs.YtcfegecdlbbeaaaDoor
end
section
namespace Go.Proofs.YtcfegecdlbbeaaaDoor
open Go Go.E2
def EqOk {α : Type} (a b : α) (o : Option Bool) : Prop := ∃ c, o = some c ∧ (c = true ↔ a = b)
theorem EqOk.no {α : Type} {a b : α} (h : a ≠ b) : EqOk a b (some false) := ⟨false, rfl, ⟨fun e => Bool.noConfusion e, fun e => absurd e h⟩⟩
theorem EqOk.f {α : Type} {a b : α} {o : Option Bool} (h : EqOk a b o) (hne : a ≠ b) : o = some false := by
  obtain ⟨c, h1, h2⟩ := h
  cases c with
  | false => exact h1
  | true => exact absurd (h2.1 rfl) hne
theorem EqOk.t {α : Type} {a b : α} {o : Option Bool} (h : EqOk a b o) (he : a = b) : o = some true := by
  obtain ⟨c, h1, h2⟩ := h
  rw [h1, h2.2 he]
theorem eqFunc_ok {α : Type} {a b : List α} {eq : α → α → Option Bool} (hn : a.length < N0) (he : ∀ x ∈ a, ∀ y ∈ b, EqOk x y (eq x y)) {B : (Int → Option Bool) → Int → Option Bool}
    (hB : B = fun again5 s4 => sel (decide (s4 < (a.length : Int))) ((idxO a s4).bind fun x7 => (idxO b s4).bind fun x8 => (eq x7 x8).bind fun x9 => sel (!x9) (some false) (again5 (IntKind.i64.wrap (s4 + 1)))) (some true)) :
    EqOk a b (sel ((a.length : Int) != (b.length : Int)) (some false) (loopK B N0 0)) := by
  by_cases c1 : a.length = b.length
  · rw [show ((a.length : Int) != (b.length : Int)) = false by simp [c1], sel_false]
    exact eqLoop (a := a) (b := b) c1 hn (fun again i x y hi hx hy => by
      have h := he x (List.mem_of_getElem? hx) y (List.mem_of_getElem? hy)
      subst hB
      simp only [nz_lt hi, selT', idxO_nat, hx, hy, bindN]
      rw [wrap_suc hi hn]
      exact ⟨fun e => by rw [h.t e]; rfl, fun e => by rw [h.f e]; rfl⟩) (fun again => by
      subst hB
      simp only [nz_ge (Nat.le_refl _), selF'])
  · rw [show ((a.length : Int) != (b.length : Int)) = true by rw [bne_iff_ne]; omega, sel_true]
    exact EqOk.no (fun e => c1 (by rw [e]))
theorem xsame_ok : ∀ n : Nat, (∀ a b : AValue, 2 * a.wt ≤ n → a.wt < 1000000 → EqOk a b (ex_same n a b)) ∧ (∀ a b : List AValue, 2 * AValue.wtL a + 1 ≤ n → AValue.wtL a < 1000000 → EqOk a b (slices_EqualFunc_Sl_Value_Sl_Value_Value_Value n a b))
  | 0 => ⟨fun a b h _ => by have := a.wt_pos; omega, fun a b h _ => by omega⟩
  | n + 1 => by
    obtain ⟨ih1, ih2⟩ := xsame_ok n
    constructor
    · intro a b h hb
      have hw := a.wt_eq
      show EqOk a b (ex_same_B (ex_same n) (slices_EqualFunc_Sl_Value_Sl_Value_Value_Value n) a b)
      unfold ex_same_B
      rw [bs_eq]
      by_cases c : a.Kind = b.Kind ∧ a.N = b.N ∧ a.S = b.S
      · obtain ⟨c1, c2, c3⟩ := c
        rw [show (((a.Kind == b.Kind) && (a.N == b.N)) && (decide (a.S = b.S))) = true by simp [c1, c2, c3], gO_true]
        obtain ⟨r, r1, r2⟩ := ih2 a.L b.L (by omega) (by omega)
        exact ⟨r, by rw [r1]; rfl, r2.trans ⟨fun e => AValue.ext' c1 c2 c3 e, fun e => by rw [e]⟩⟩
      · rw [show (((a.Kind == b.Kind) && (a.N == b.N)) && (decide (a.S = b.S))) = false from by
          rw [Bool.eq_false_iff]
          intro h'
          simp only [Bool.and_eq_true, beq_iff_eq, decide_eq_true_eq] at h'
          exact c ⟨h'.1.1, h'.1.2, h'.2⟩]
        exact EqOk.no (fun e => c (by subst e; exact ⟨rfl, rfl, rfl⟩))
    · intro a b h hb
      have hl := AValue.wtL_len a
      show EqOk a b (slices_EqualFunc_Sl_Value_Sl_Value_Value_Value_B (ex_same n) (slices_EqualFunc_Sl_Value_Sl_Value_Value_Value n) a b)
      unfold slices_EqualFunc_Sl_Value_Sl_Value_Value_Value_B
      rw [jn_eq]
      exact eqFunc_ok (eq := ex_same n) (B := slices_EqualFunc_Sl_Value_Sl_Value_Value_Value_L1 (ex_same n) a b fun _ => some true) (by unfold N0; omega) (fun x hx y _ => by
        have := AValue.wtL_mem hx
        exact ih1 x y (by omega) (by omega)) (by funext again s; unfold slices_EqualFunc_Sl_Value_Sl_Value_Value_Value_L1; rfl)
theorem xEqual_ok {a b : AValue} (ha : chE a = 0) (hb : chE b = 0) : EqOk a b (ex_Equal a b) := by
  unfold ex_Equal
  rw [chE_x, chE_x, ha, hb, bind_some', show ((0 : Int) == 0) = true from rfl, gO_true, bind_some', show ((0 : Int) == 0) = true from rfl, Bool.and_self, gO_true]
  have hw := chE_wt ha
  obtain ⟨c, h1, h2⟩ := (xsame_ok N0).1 a b (by unfold N0; omega) (by omega)
  exact ⟨c, by rw [h1]; rfl, h2⟩
theorem sameAttr_ok {a b : Attr} (ha : chE a.Value = 0) (hb : chE b.Value = 0) : EqOk a b (vw_sameAttr a b) := by
  unfold vw_sameAttr
  rw [bs_eq]
  by_cases c : a.Name = b.Name
  · rw [decide_eq_true c, gO_true]
    obtain ⟨r, r1, r2⟩ := xEqual_ok ha hb
    exact ⟨r, by rw [r1]; rfl, r2.trans ⟨fun e => by cases a; cases b; simp_all, fun e => by rw [e]⟩⟩
  · rw [decide_eq_false c]
    exact EqOk.no (fun e => c (by rw [e]))
theorem sameAction_ok {a b : Action} (hl : a.Args.length ≤ 100) (ha : ∀ x ∈ a.Args, chE x = 0) (hb : ∀ x ∈ b.Args, chE x = 0) : EqOk a b (vw_sameAction a b) := by
  unfold vw_sameAction
  rw [bs_eq, bs_eq, bs_eq]
  by_cases c : a.Event = b.Event ∧ a.Instance = b.Instance ∧ a.Handler = b.Handler
  · obtain ⟨c1, c2, c3⟩ := c
    rw [show ((decide (a.Event = b.Event) && decide (a.Instance = b.Instance)) && decide (a.Handler = b.Handler)) = true by simp [c1, c2, c3], gO_true]
    have h : EqOk a.Args b.Args (eqFunc_Equal a.Args b.Args) := by
      unfold eqFunc_Equal
      rw [jn_eq]
      exact eqFunc_ok (a := a.Args) (b := b.Args) (eq := ex_Equal) (B := eqFunc_Equal_L1 a.Args b.Args fun _ => some true) (by unfold N0; omega) (fun x hx y hy => xEqual_ok (ha x hx) (hb y hy)) (by funext again s; unfold eqFunc_Equal_L1; rfl)
    obtain ⟨r, r1, r2⟩ := h
    refine ⟨r, ?_, r2.trans ⟨fun e => by cases a; cases b; simp_all, fun e => by rw [e]⟩⟩
    rw [r1]; rfl
  · rw [show ((decide (a.Event = b.Event) && decide (a.Instance = b.Instance)) && decide (a.Handler = b.Handler)) = false from by
      rw [Bool.eq_false_iff]
      intro h'
      simp only [Bool.and_eq_true, decide_eq_true_eq] at h'
      exact c ⟨h'.1.1, h'.1.2, h'.2⟩]
    exact EqOk.no (fun e => c (by subst e; exact ⟨rfl, rfl, rfl⟩))
theorem vsame_ok : ∀ n : Nat, (∀ a b : View, 2 * a.dp ≤ n → a.vh → b.vh → EqOk a b (vw_same n a b)) ∧ (∀ a b : List View, 2 * View.dpL a + 1 ≤ n → a.length ≤ 100 → (∀ x ∈ a, x.vh) → (∀ x ∈ b, x.vh) → EqOk a b (slices_EqualFunc_Sl_View_Sl_View_View_View n a b))
  | 0 => ⟨fun a b h _ => by rw [View.dp_eq] at h; omega, fun a b h _ => by omega⟩
  | n + 1 => by
    obtain ⟨ih1, ih2⟩ := vsame_ok n
    constructor
    · intro a b h ha hb
      rw [View.dp_eq] at h
      rw [View.vh_eq] at ha hb
      show EqOk a b (vw_same_B (vw_same n) (slices_EqualFunc_Sl_View_Sl_View_View_View n) a b)
      unfold vw_same_B
      rw [bs_eq]
      have hA : EqOk a.Attrs b.Attrs (slices_EqualFunc_Sl_Attr_Sl_Attr_Attr_Attr a.Attrs b.Attrs) := by
        unfold slices_EqualFunc_Sl_Attr_Sl_Attr_Attr_Attr
        rw [jn_eq]
        exact eqFunc_ok (eq := vw_sameAttr) (B := slices_EqualFunc_Sl_Attr_Sl_Attr_Attr_Attr_L1 a.Attrs b.Attrs fun _ => some true) (by have := ha.1.atts; unfold N0; omega) (fun x hx y hy => sameAttr_ok (atF_each ha.1.atf x hx) (atF_each hb.1.atf y hy)) (by funext again s; unfold slices_EqualFunc_Sl_Attr_Sl_Attr_Attr_Attr_L1; rfl)
      have hC : EqOk a.Actions b.Actions (slices_EqualFunc_Sl_Action_Sl_Action_Action_Action a.Actions b.Actions) := by
        unfold slices_EqualFunc_Sl_Action_Sl_Action_Action_Action
        rw [jn_eq]
        exact eqFunc_ok (eq := vw_sameAction) (B := slices_EqualFunc_Sl_Action_Sl_Action_Action_Action_L1 a.Actions b.Actions fun _ => some true) (by have := ha.1.acts; unfold N0; omega) (fun x hx y hy => sameAction_ok (acF_each ha.1.acf x hx).1 (acF_each ha.1.acf x hx).2.2 (acF_each hb.1.acf y hy).2.2) (by funext again s; unfold slices_EqualFunc_Sl_Action_Sl_Action_Action_Action_L1; rfl)
      have hK := ih2 a.Kids b.Kids (by omega) ha.1.kids ha.2 hb.2
      by_cases c : a.Kind = b.Kind ∧ a.Key = b.Key
      · obtain ⟨c1, c2⟩ := c
        rw [show ((a.Kind == b.Kind) && (decide (a.Key = b.Key))) = true by simp [c1, c2], gO_true]
        by_cases c3 : a.Attrs = b.Attrs
        · rw [hA.t c3, bind_some', Bool.and_self, gO_true]
          by_cases c4 : a.Actions = b.Actions
          · rw [hC.t c4, bind_some', Bool.and_self, gO_true]
            obtain ⟨r, r1, r2⟩ := hK
            exact ⟨r, by rw [r1]; rfl, r2.trans ⟨fun e => View.ext' c1 c2 c3 c4 e, fun e => by rw [e]⟩⟩
          · rw [hC.f c4]
            exact EqOk.no (fun e => c4 (by rw [e]))
        · rw [hA.f c3]
          exact EqOk.no (fun e => c3 (by rw [e]))
      · rw [show ((a.Kind == b.Kind) && (decide (a.Key = b.Key))) = false from by
          rw [Bool.eq_false_iff]
          intro h'
          simp only [Bool.and_eq_true, beq_iff_eq, decide_eq_true_eq] at h'
          exact c h']
        exact EqOk.no (fun e => c (by subst e; exact ⟨rfl, rfl⟩))
    · intro a b h hl ha hb
      show EqOk a b (slices_EqualFunc_Sl_View_Sl_View_View_View_B (vw_same n) (slices_EqualFunc_Sl_View_Sl_View_View_View n) a b)
      unfold slices_EqualFunc_Sl_View_Sl_View_View_View_B
      rw [jn_eq]
      exact eqFunc_ok (eq := vw_same n) (B := slices_EqualFunc_Sl_View_Sl_View_View_View_L1 (vw_same n) a b fun _ => some true) (by unfold N0; omega) (fun x hx y hy => by
        have := View.dpL_mem hx
        exact ih1 x y (by omega) (ha x hx) (hb y hy)) (by funext again s; unfold slices_EqualFunc_Sl_View_Sl_View_View_View_L1; rfl)
theorem vEqual_ok {a b : View} (ha : a.sm) (hb : b.sm) : ∃ c, vw_Equal a b = some c ∧ (c = true ↔ errV a = 0 ∧ errV b = 0 ∧ a = b) := by
  unfold vw_Equal
  rw [Validate_ok ha, Validate_ok hb, bind_some']
  by_cases c1 : errV a = 0
  · rw [c1, show ((0 : Int) == 0) = true from rfl, gO_true, bind_some']
    by_cases c2 : errV b = 0
    · rw [c2, show ((0 : Int) == 0) = true from rfl, Bool.and_self, gO_true]
      have va := valid_all c1
      obtain ⟨r, r1, r2⟩ := (vsame_ok N0).1 a b (by have := va.dp; unfold N0; omega) va.vh (valid_all c2).vh
      exact ⟨r, by rw [r1]; rfl, r2.trans ⟨fun e => ⟨rfl, rfl, e⟩, fun e => e.2.2⟩⟩
    · rw [show (errV b == 0) = false by simp [c2]]
      exact ⟨false, rfl, ⟨fun e => Bool.noConfusion e, fun e => absurd e.2.1 c2⟩⟩
  · rw [show (errV a == 0) = false by simp [c1]]
    exact ⟨false, rfl, ⟨fun e => Bool.noConfusion e, fun e => absurd e.1 c1⟩⟩
end Go.Proofs.YtcfegecdlbbeaaaDoor
end
section
namespace Go.Proofs.YtcfegecdlbbeaaaDoor
open Go Go.E2
end Go.Proofs.YtcfegecdlbbeaaaDoor
end
section
namespace Go.Proofs.YtcfegecdlbbeaaaDoor
open Go Go.E2
theorem awake_true : l14_awake = some true := by kernel_rfl
end Go.Proofs.YtcfegecdlbbeaaaDoor
end
section
namespace Go.Proofs.YtcfegecdlbbeaaaDoor
open Go Go.E2
def LoadOk (v : AValue) (left r : Int) : Prop := ((v.wt : Int) < left → r = left - v.wt) ∧ (left ≤ v.wt → r ≤ 0)
theorem load_ok : ∀ (n : Nat) (v : AValue) (left : Int), 1 ≤ left → left < n → left ≤ 1000000 → ∃ r, l14_load n v left = some r ∧ LoadOk v left r ∧ r ≤ left := by
  intro n
  induction n with
  | zero => intro v left h1 h2; omega
  | succ n ih =>
    intro v left h1 h2 h3
    show ∃ r, l14_load_B (l14_load n) v left = some r ∧ _
    unfold l14_load_B
    rw [jn_eq, wrap_id (x := left - 1) (by omega) (by omega)]
    have key : ∀ (m i : Nat) (lf : Int), lf.toNat + 1 ≤ m → (i : Int) + lf ≤ left - 1 → i ≤ v.L.length →
        ∃ r, loopK (l14_load_L1 (l14_load n) v fun s => some s) m (lf, (i : Int)) = some r ∧ (((AValue.wtL (v.L.drop i) : Int) < lf → r = lf - AValue.wtL (v.L.drop i)) ∧ (lf ≤ AValue.wtL (v.L.drop i) → r ≤ 0)) ∧ r ≤ lf := by
      intro m
      induction m with
      | zero => intro i lf h; omega
      | succ m ihm =>
        intro i lf hm hlf hi
        show ∃ r, l14_load_L1 (l14_load n) v (fun s => some s) (loopK _ m) (lf, (i : Int)) = some r ∧ _
        generalize hag : loopK (l14_load_L1 (l14_load n) v fun s => some s) m = again at ihm ⊢
        unfold l14_load_L1
        dsimp only
        by_cases hl : i < v.L.length
        · rw [nz_lt hl, Bool.true_and]
          by_cases h0 : lf > 0
          · rw [show decide (lf > 0) = true from decide_eq_true h0, sel_true, idxO_at hl, bind_some']
            obtain ⟨r, e1, ⟨e2, e3⟩, e4⟩ := ih v.L[i] lf (by omega) (by omega) (by omega)
            rw [e1, bind_some']
            have hs : IntKind.i64.wrap ((i : Int) + 1) = ((i + 1 : Nat) : Int) := by rw [wrap_id (by omega) (by omega)]; omega
            rw [hs]
            have hp := v.L[i].wt_pos
            have hr : r < lf := by
              by_cases hx : (v.L[i].wt : Int) < lf
              · have := e2 hx; omega
              · have := e3 (by omega); omega
            obtain ⟨r', f1, ⟨f2, f3⟩, f4⟩ := ihm (i + 1) r (by omega) (by omega) (by omega)
            refine ⟨r', f1, ⟨fun hx => ?_, fun hx => ?_⟩, by omega⟩
            · rw [List.drop_eq_getElem_cons hl, AValue.wtL_cons] at hx ⊢
              have := e2 (by omega)
              have := f2 (by omega)
              omega
            · rw [List.drop_eq_getElem_cons hl, AValue.wtL_cons] at hx
              by_cases hy : (v.L[i].wt : Int) < lf
              · have := e2 hy
                exact f3 (by omega)
              · have := e3 (by omega)
                omega
          · rw [show decide (lf > 0) = false from decide_eq_false h0, sel_false]
            exact ⟨lf, rfl, ⟨fun hx => by omega, fun _ => by omega⟩, by omega⟩
        · rw [nz_ge (by omega), Bool.false_and, sel_false, List.drop_eq_nil_of_le (by omega), AValue.wtL_nil]
          exact ⟨lf, rfl, ⟨fun hx => by omega, fun hx => by omega⟩, by omega⟩
    obtain ⟨r, e1, ⟨e2, e3⟩, e4⟩ := key N0 0 (left - 1) (by unfold N0; omega) (by omega) (by omega)
    rw [List.drop_zero] at e2 e3
    have hw := v.wt_eq
    exact ⟨r, e1, ⟨fun h => by have := e2 (by omega); omega, fun h => by exact e3 (by omega)⟩, by omega⟩
theorem load_big {v : AValue} {left : Int} (h1 : 1 ≤ left) (h3 : left ≤ 1000000) : ∃ r, l14_load N0 v left = some r ∧ LoadOk v left r ∧ r ≤ left := load_ok N0 v left h1 (by unfold N0; omega) h3
end Go.Proofs.YtcfegecdlbbeaaaDoor
end
section
namespace Go.Proofs.YtcfegecdlbbeaaaDoor
open Go Go.E2
end Go.Proofs.YtcfegecdlbbeaaaDoor
end
section
namespace Go.Proofs.YtcfegecdlbbeaaaDoor
open Go Go.E2
def ActsW : List Action → Nat
  | [] => 0
  | a :: r => 1 + AValue.wtL a.Args + ActsW r
def AttsW : List Attr → Nat
  | [] => 0
  | a :: r => a.Value.wt + AttsW r
theorem attsW_app : ∀ (l m : List Attr), AttsW (l ++ m) = AttsW l + AttsW m
  | [], m => by show AttsW m = 0 + AttsW m; omega
  | a :: r, m => by show a.Value.wt + AttsW (r ++ m) = a.Value.wt + AttsW r + AttsW m; rw [attsW_app r m]; omega
theorem actsW_app : ∀ (l m : List Action), ActsW (l ++ m) = ActsW l + ActsW m
  | [], m => by show ActsW m = 0 + ActsW m; omega
  | a :: r, m => by show 1 + AValue.wtL a.Args + ActsW (r ++ m) = 1 + AValue.wtL a.Args + ActsW r + ActsW m; rw [actsW_app r m]; omega
theorem wtL_app : ∀ (l m : List AValue), AValue.wtL (l ++ m) = AValue.wtL l + AValue.wtL m
  | [], m => by rw [List.nil_append, AValue.wtL_nil]; omega
  | a :: r, m => by rw [List.cons_append, AValue.wtL_cons, AValue.wtL_cons, wtL_app r m]; omega
theorem load_gt {v : AValue} {left : Int} (h1 : 0 < left) (h3 : left ≤ 1000000) : ∃ r, l14_load N0 v left = some r ∧ r ≤ left ∧ (0 < r → r = left - v.wt) := by
  obtain ⟨r, e1, ⟨e2, e3⟩, e4⟩ := load_big (v := v) (by omega : 1 ≤ left) h3
  refine ⟨r, e1, e4, fun h => ?_⟩
  by_cases c : (v.wt : Int) < left
  · exact e2 c
  · have := e3 (by omega); omega
theorem weighA {v : View} (hn : v.Attrs.length < N0) (k : Int → Option Int) {left : Int} (h1 : left ≤ 1000000) : ∃ r : Int, loopK (l14_weigh_L4 v k) N0 (left, 0) = k r ∧ r ≤ 1000000 ∧ (0 < r → r = left - AttsW v.Attrs) := by
  refine loopI (L := v.Attrs) (fun (s : Int) i => (s, (i : Int))) (fun i s => s ≤ 1000000 ∧ (0 < s → s = left - AttsW (v.Attrs.take i))) (fun o => ∃ r : Int, o = k r ∧ r ≤ 1000000 ∧ (0 < r → r = left - AttsW v.Attrs)) hn ?_ ?_ left ⟨h1, fun _ => by show left = left - ((0 : Nat) : Int); omega⟩
  · intro again s i a ha hi ⟨h2, h3⟩
    unfold l14_weigh_L4
    simp only [nz_lt hi, Bool.true_and]
    by_cases c : s > 0
    · obtain ⟨r, e1, e2, e3⟩ := load_gt (v := a.Value) c h2
      rw [decide_eq_true c, sel_true, idxO_nat, ha, bind_some', e1, bind_some', wrap_suc hi hn]
      refine .inr ⟨r, ⟨by omega, fun h => ?_⟩, rfl⟩
      rw [take_suc ha, attsW_app]
      have := e3 h
      have := h3 c
      have e : AttsW [a] = a.Value.wt := by unfold AttsW AttsW; omega
      omega
    · rw [decide_eq_false c, sel_false]
      exact .inl ⟨s, rfl, h2, fun h => absurd h c⟩
  · intro again s ⟨h2, h3⟩
    rw [List.take_length] at h3
    unfold l14_weigh_L4
    simp only [nz_ge (Nat.le_refl _), Bool.false_and, selF']
    exact ⟨s, rfl, h2, h3⟩
theorem weighB {v : View} {i : Nat} {a : Action} (ha : v.Actions[i]? = some a) (hn : a.Args.length < N0) (q : Int) (k : Int → Option Int) {left : Int} (h1 : left ≤ 1000000) : ∃ r : Int, loopK (l14_weigh_L2 v (q, (i : Int)) k) N0 (left, 0) = k r ∧ r ≤ 1000000 ∧ (0 < r → r = left - AValue.wtL a.Args) := by
  refine loopI (L := a.Args) (fun (s : Int) j => (s, (j : Int))) (fun j s => s ≤ 1000000 ∧ (0 < s → s = left - AValue.wtL (a.Args.take j))) (fun o => ∃ r : Int, o = k r ∧ r ≤ 1000000 ∧ (0 < r → r = left - AValue.wtL a.Args)) hn ?_ ?_ left ⟨h1, fun _ => by rw [List.take_zero, AValue.wtL_nil]; omega⟩
  · intro again s j x hx hj ⟨h2, h3⟩
    unfold l14_weigh_L2
    simp only [nz_lt hj, Bool.true_and, idxO_nat, ha, bindN]
    by_cases c : s > 0
    · obtain ⟨r, e1, e2, e3⟩ := load_gt (v := x) c h2
      rw [decide_eq_true c, sel_true, hx, bind_some', e1, bind_some', wrap_suc hj hn]
      refine .inr ⟨r, ⟨by omega, fun h => ?_⟩, rfl⟩
      rw [take_suc hx, wtL_app, AValue.wtL_cons, AValue.wtL_nil]
      have := e3 h
      have := h3 c
      omega
    · rw [decide_eq_false c, sel_false]
      exact .inl ⟨s, rfl, h2, fun h => absurd h c⟩
  · intro again s ⟨h2, h3⟩
    rw [List.take_length] at h3
    unfold l14_weigh_L2
    simp only [nz_ge (Nat.le_refl _), Bool.false_and, selF', idxO_nat, ha, bindN]
    exact ⟨s, rfl, h2, h3⟩
theorem weighC {v : View} (hn : v.Actions.length < N0) (hargs : ∀ a ∈ v.Actions, a.Args.length < N0) (k : Int → Option Int) {left : Int} (h1 : left ≤ 1000000) : ∃ r : Int, loopK (l14_weigh_L3 v k) N0 (left, 0) = k r ∧ r ≤ 1000000 ∧ (0 < r → r = left - ActsW v.Actions) := by
  refine loopI (L := v.Actions) (fun (s : Int) i => (s, (i : Int))) (fun i s => s ≤ 1000000 ∧ (0 < s → s = left - ActsW (v.Actions.take i))) (fun o => ∃ r : Int, o = k r ∧ r ≤ 1000000 ∧ (0 < r → r = left - ActsW v.Actions)) hn ?_ ?_ left ⟨h1, fun _ => by show left = left - ((0 : Nat) : Int); omega⟩
  · intro again s i a ha hi ⟨h2, h3⟩
    unfold l14_weigh_L3
    simp only [nz_lt hi, Bool.true_and]
    by_cases c : s > 0
    · rw [decide_eq_true c, sel_true, jn_eq, jn_eq, wrap_id (x := s - 1) (by omega) (by omega)]
      obtain ⟨r, e1, e2, e3⟩ := weighB ha (hargs a (List.mem_of_getElem? ha)) s (fun s18 => again (s18, IntKind.i64.wrap ((i : Int) + 1))) (left := s - 1) (by omega)
      refine .inr ⟨r, ⟨e2, fun h => ?_⟩, ?_⟩
      · rw [take_suc ha, actsW_app]
        have := e3 h
        have := h3 c
        have e : ActsW [a] = 1 + AValue.wtL a.Args := by unfold ActsW ActsW; omega
        omega
      · refine e1.trans ?_
        rw [wrap_suc hi hn]
    · rw [decide_eq_false c, sel_false]
      exact .inl ⟨s, rfl, h2, fun h => absurd h c⟩
  · intro again s ⟨h2, h3⟩
    rw [List.take_length] at h3
    unfold l14_weigh_L3
    simp only [nz_ge (Nat.le_refl _), Bool.false_and, selF']
    exact ⟨s, rfl, h2, h3⟩
structure NL (n : Node) : Prop where
  atts : n.Attrs.length < N0
  acts : n.Actions.length < N0
  args : ∀ a ∈ n.Actions, a.Args.length < N0
  key : n.Key.size < N0
theorem ltN {x : Nat} (h : x ≤ maxLen) : x < N0 := by unfold maxLen at h; unfold N0; omega
end Go.Proofs.YtcfegecdlbbeaaaDoor
end
section
namespace Go.Proofs.YtcfegecdlbbeaaaDoor
open Go Go.E2
mutual
def View.ln : View → Prop
  | ⟨_, key, las, cs, kids⟩ => key.size < N0 ∧ las.length < N0 ∧ cs.length < N0 ∧ (∀ a ∈ cs, a.Args.length < N0) ∧ kids.length < N0 ∧ View.lnL kids
def View.lnL : List View → Prop
  | [] => True
  | x :: r => View.ln x ∧ View.lnL r
end
theorem View.lnL_eq : ∀ l, View.lnL l ↔ ∀ a ∈ l, View.ln a
  | [] => by unfold View.lnL; simp
  | x :: r => by unfold View.lnL; rw [View.lnL_eq r]; simp
theorem View.ln_eq (v : View) : View.ln v ↔ v.Key.size < N0 ∧ v.Attrs.length < N0 ∧ v.Actions.length < N0 ∧ (∀ a ∈ v.Actions, a.Args.length < N0) ∧ v.Kids.length < N0 ∧ ∀ a ∈ v.Kids, View.ln a := by
  cases v
  conv => lhs; unfold View.ln
  rw [View.lnL_eq]
theorem ln_of {ok : View → Prop} (h : ∀ v, ok v → v.Key.size ≤ maxLen ∧ v.Attrs.length ≤ maxLen ∧ v.Actions.length ≤ maxLen ∧ (∀ a ∈ v.Actions, a.Args.length ≤ maxLen) ∧ v.Kids.length ≤ maxLen ∧ ∀ a ∈ v.Kids, ok a) : ∀ (n : Nat) (v : View), v.dp ≤ n → ok v → v.ln
  | 0, v, hd, _ => by rw [View.dp_eq] at hd; omega
  | n + 1, v, hd, hv => by
    obtain ⟨h1, h2, h3, h4, h5, h6⟩ := h v hv
    rw [View.dp_eq] at hd
    rw [View.ln_eq]
    exact ⟨ltN h1, ltN h2, ltN h3, fun a ha => ltN (h4 a ha), ltN h5, fun a ha => ln_of h n a (by have := View.dpL_mem ha; omega) (h6 a ha)⟩
theorem ln_sm : ∀ (n : Nat) (v : View), v.dp ≤ n → v.ln → v.sm
  | 0, v, hd, _ => by rw [View.dp_eq] at hd; omega
  | n + 1, v, hd, hv => by
    rw [View.dp_eq] at hd
    rw [View.ln_eq] at hv
    rw [View.sm_eq]
    exact ⟨hv.1, fun a ha => ln_sm n a (by have := View.dpL_mem ha; omega) (hv.2.2.2.2.2 a ha)⟩
theorem weigh_some : ∀ (n : Nat) (v : View) (left depth : Int), v.ln → 0 < left → left ≤ 1000000 → 0 ≤ depth → depth ≤ 1000 → depth.toNat < n → ∃ r, l14_weigh n v left depth = some r ∧ r ≤ 1000000
  | 0, v, left, depth, _, _, _, _, _, h => by omega
  | n + 1, v, left, depth, hv, h0, h1, hd0, hd1, hn => by
    rw [View.ln_eq] at hv
    obtain ⟨_, v1, v2, v3, v4, v5⟩ := hv
    show ∃ r, l14_weigh_B (l14_weigh n) v left depth = some r ∧ _
    unfold l14_weigh_B
    rw [jn_eq]
    have hw : IntKind.i64.wrap (left - IntKind.i64.wrap (1 + (v.Kids.length : Int))) ≤ 1000000 := by
      rw [IntKind.wrap_i64, IntKind.wrap_i64]
      unfold N0 at v4
      omega
    obtain ⟨r1, p1, p2, _⟩ := weighA (v := v) v1 (fun s1 => jn (fun s3 => sel (decide (depth ≤ 0)) (some 0) (jn (fun s6 => some s6) fun k7 => loopK (l14_weigh_L1 (l14_weigh n) v depth k7) N0 (s3, 0))) fun k4 => loopK (l14_weigh_L3 v k4) N0 (s1, 0)) hw
    rw [p1, jn_eq]
    obtain ⟨r2, q1, q2, _⟩ := weighC (v := v) v2 v3 (fun s3 => sel (decide (depth ≤ 0)) (some 0) (jn (fun s6 => some s6) fun k7 => loopK (l14_weigh_L1 (l14_weigh n) v depth k7) N0 (s3, 0))) p2
    rw [q1]
    by_cases c : depth ≤ 0
    · rw [decide_eq_true c]
      exact ⟨0, rfl, by omega⟩
    · rw [decide_eq_false c, sel_false, jn_eq]
      refine loopI (L := v.Kids) (fun (s : Int) i => (s, (i : Int))) (fun i s => s ≤ 1000000) (fun o => ∃ r, o = some r ∧ r ≤ 1000000) v4 ?_ ?_ r2 q2
      · intro again s i x hx hi hs
        unfold l14_weigh_L1
        simp only [nz_lt hi, Bool.true_and]
        by_cases c2 : s > 0
        · rw [decide_eq_true c2, sel_true, idxO_nat, hx, bind_some', wrap_id (x := depth - 1) (by omega) (by omega)]
          obtain ⟨r, e1, e2⟩ := weigh_some n x s (depth - 1) (v5 x (List.mem_of_getElem? hx)) c2 hs (by omega) (by omega) (by omega)
          rw [e1, bind_some', wrap_suc hi v4]
          exact .inr ⟨r, e2, rfl⟩
        · rw [decide_eq_false c2, sel_false]
          exact .inl ⟨s, rfl, hs⟩
      · intro again s hs
        unfold l14_weigh_L1
        simp only [nz_ge (Nat.le_refl _), Bool.false_and, selF']
        exact ⟨s, rfl, hs⟩
theorem raw_true (a b : View) (ha : a.ln) (hb : b.ln) : l14_ViewRaw a b = some true := by
  unfold l14_ViewRaw
  obtain ⟨x1, w1, _⟩ := weigh_some N0 a 2000 40 ha (by omega) (by omega) (by omega) (by omega) (by unfold N0; omega)
  obtain ⟨x2, w2, _⟩ := weigh_some N0 b 2000 40 hb (by omega) (by omega) (by omega) (by omega) (by unfold N0; omega)
  have sa := ln_sm _ a (Nat.le_refl _) ha
  have sb := ln_sm _ b (Nat.le_refl _) hb
  rw [w1, bind_some']
  by_cases c1 : x1 ≤ 0
  · rw [decide_eq_true c1]; rfl
  rw [decide_eq_false c1, Bool.not_false, gO_true, w2, bind_some', Bool.false_or]
  by_cases c2 : x2 ≤ 0
  · rw [decide_eq_true c2]; rfl
  rw [decide_eq_false c2, sel_false, rValidate_ok sa, rValidate_ok sb, Validate_ok sa]
  obtain ⟨c, e1, e2⟩ := vEqual_ok sa sb
  obtain ⟨d, f1, f2⟩ := vEqual_ok sa sa
  simp only [bindN, beq_self_eq_true, gOT', e1, f1, Bool.true_and]
  have hd : (d == (errV a == 0)) = true := by
    rw [beq_iff_eq, Bool.eq_iff_iff, f2, beq_iff_eq]
    exact ⟨fun h => h.1, fun h => ⟨h, h, rfl⟩⟩
  by_cases c3 : errV a = 0 ∧ errV b = 0
  · have va := valid_all c3.1
    obtain ⟨s, g1, g2⟩ := rsameV_ok N0 a b (by have := va.dp; unfold N0; omega) va.bd
    have hz : ((errV a == 0) && (errV b == 0)) = true := by simp [c3.1, c3.2]
    rw [hz, gO_true, g1, bind_some']
    have hc : (c == (true && s)) = true := by
      rw [Bool.true_and, beq_iff_eq, Bool.eq_iff_iff, e2, g2]
      exact ⟨fun h => h.2.2, fun h => ⟨c3.1, c3.2, h⟩⟩
    rw [hc, gO_true, bind_some', hd, Bool.and_self, gO_true, awake_true]
    rfl
  · have hz : ((errV a == 0) && (errV b == 0)) = false := by
      rw [Bool.eq_false_iff]
      intro h
      simp only [Bool.and_eq_true, beq_iff_eq] at h
      exact c3 h
    have hcf : c = false := by
      rw [Bool.eq_false_iff]
      intro h
      exact c3 ⟨(e2.1 h).1, (e2.1 h).2.1⟩
    rw [hz, gO_false, bind_some', hcf, Bool.false_and]
    simp only [beq_self_eq_true, gOT', bindN, hd, Bool.and_self, awake_true]
end Go.Proofs.YtcfegecdlbbeaaaDoor
end

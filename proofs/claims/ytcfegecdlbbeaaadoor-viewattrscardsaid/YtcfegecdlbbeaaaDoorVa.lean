/-
  Values: how heavy they are; copies; comparison with themselves; attributes. No program in sight.
-/
import Derived.Test.YtcfegecdlbbeaaaDoorAm
import Derived.Test.YtcfegecdlbbeaaaDoorQl
namespace Go.Proofs.YtcfegecdlbbeaaaDoor
open Go Go.E2
theorem awake_true : l14_awake = some true := by kernel_rfl
mutual
def AValue.wt : AValue → Nat
  | ⟨_, _, _, l⟩ => 1 + AValue.wtL l
def AValue.wtL : List AValue → Nat
  | [] => 0
  | x :: r => AValue.wt x + AValue.wtL r
end
theorem AValue.wt_eq (v : AValue) : v.wt = 1 + AValue.wtL v.L := by cases v; unfold AValue.wt; rfl
theorem AValue.wtL_nil : AValue.wtL [] = 0 := by unfold AValue.wtL; rfl
theorem AValue.wtL_cons (x : AValue) (r : List AValue) : AValue.wtL (x :: r) = x.wt + AValue.wtL r := by
  conv => lhs; unfold AValue.wtL
theorem AValue.wt_pos (v : AValue) : 1 ≤ v.wt := by rw [AValue.wt_eq]; omega
theorem AValue.wtL_len : ∀ l : List AValue, l.length ≤ AValue.wtL l
  | [] => by simp
  | x :: r => by
    have := AValue.wtL_len r
    have := x.wt_pos
    rw [AValue.wtL_cons]; simp; omega
theorem AValue.wtL_mem : ∀ {l : List AValue} {x : AValue}, x ∈ l → x.wt ≤ AValue.wtL l
  | [], x, h => by cases h
  | y :: r, x, h => by
    rw [AValue.wtL_cons]
    rcases List.mem_cons.1 h with e | e
    · subst e; omega
    · have := AValue.wtL_mem e; omega
/-- the count of a value's parts, up to a limit -/
def LoadOk (v : AValue) (left r : Int) : Prop := ((v.wt : Int) < left → r = left - v.wt) ∧ (left ≤ v.wt → r ≤ 0)
theorem load_ok : ∀ (n : Nat) (v : AValue) (left : Int), 1 ≤ left → left < n → left ≤ 1000000 → ∃ r, l14_load n v left = some r ∧ LoadOk v left r ∧ r ≤ left := by
  intro n
  induction n with
  | zero => intro v left h1 h2; omega
  | succ n ih =>
    intro v left h1 h2 h3
    show ∃ r, l14_load_B (l14_load n) v left = some r ∧ _
    unfold l14_load_B
    rw [jn_eq, wrap_id (x := left - 1) (by omega) (by omega)]
    have key : ∀ (m i : Nat) (lf : Int), lf.toNat + 1 ≤ m → (i : Int) + lf ≤ left - 1 → i ≤ v.L.length →
        ∃ r, loopK (l14_load_L1 (l14_load n) v fun s => some s) m (lf, (i : Int)) = some r ∧ (((AValue.wtL (v.L.drop i) : Int) < lf → r = lf - AValue.wtL (v.L.drop i)) ∧ (lf ≤ AValue.wtL (v.L.drop i) → r ≤ 0)) ∧ r ≤ lf := by
      intro m
      induction m with
      | zero => intro i lf h; omega
      | succ m ihm =>
        intro i lf hm hlf hi
        show ∃ r, l14_load_L1 (l14_load n) v (fun s => some s) (loopK _ m) (lf, (i : Int)) = some r ∧ _
        generalize hag : loopK (l14_load_L1 (l14_load n) v fun s => some s) m = again at ihm ⊢
        unfold l14_load_L1
        dsimp only
        by_cases hl : i < v.L.length
        · rw [nz_lt hl, Bool.true_and]
          by_cases h0 : lf > 0
          · rw [show decide (lf > 0) = true from decide_eq_true h0, sel_true, idxO_at hl, bind_some']
            obtain ⟨r, e1, ⟨e2, e3⟩, e4⟩ := ih v.L[i] lf (by omega) (by omega) (by omega)
            rw [e1, bind_some']
            have hs : IntKind.i64.wrap ((i : Int) + 1) = ((i + 1 : Nat) : Int) := by rw [wrap_id (by omega) (by omega)]; omega
            rw [hs]
            have hp := v.L[i].wt_pos
            have hr : r < lf := by
              by_cases hx : (v.L[i].wt : Int) < lf
              · have := e2 hx; omega
              · have := e3 (by omega); omega
            obtain ⟨r', f1, ⟨f2, f3⟩, f4⟩ := ihm (i + 1) r (by omega) (by omega) (by omega)
            refine ⟨r', f1, ⟨fun hx => ?_, fun hx => ?_⟩, by omega⟩
            · rw [List.drop_eq_getElem_cons hl, AValue.wtL_cons] at hx ⊢
              have := e2 (by omega)
              have := f2 (by omega)
              omega
            · rw [List.drop_eq_getElem_cons hl, AValue.wtL_cons] at hx
              by_cases hy : (v.L[i].wt : Int) < lf
              · have := e2 hy
                exact f3 (by omega)
              · have := e3 (by omega)
                omega
          · rw [show decide (lf > 0) = false from decide_eq_false h0, sel_false]
            exact ⟨lf, rfl, ⟨fun hx => by omega, fun _ => by omega⟩, by omega⟩
        · rw [nz_ge (by omega), Bool.false_and, sel_false, List.drop_eq_nil_of_le (by omega), AValue.wtL_nil]
          exact ⟨lf, rfl, ⟨fun hx => by omega, fun hx => by omega⟩, by omega⟩
    obtain ⟨r, e1, ⟨e2, e3⟩, e4⟩ := key N0 0 (left - 1) (by unfold N0; omega) (by omega) (by omega)
    rw [List.drop_zero] at e2 e3
    have hw := v.wt_eq
    exact ⟨r, e1, ⟨fun h => by have := e2 (by omega); omega, fun h => by exact e3 (by omega)⟩, by omega⟩
theorem load_big {v : AValue} {left : Int} (h1 : 1 ≤ left) (h3 : left ≤ 1000000) : ∃ r, l14_load N0 v left = some r ∧ LoadOk v left r ∧ r ≤ left := load_ok N0 v left h1 (by unfold N0; omega) h3
/-! ### copies -/
theorem copy_ok : ∀ n : Nat, (∀ v : AValue, 2 * v.wt ≤ n → v.wt < 1000000 → vw_value n v = some v) ∧ (∀ l : List AValue, 2 * AValue.wtL l + 1 ≤ n → AValue.wtL l < 1000000 → vw_values n l = some l) := by
  intro n
  induction n with
  | zero => exact ⟨fun v h => by have := v.wt_pos; omega, fun l h => by omega⟩
  | succ n ih =>
    refine ⟨fun v h hb => ?_, fun l h hb => ?_⟩
    · show vw_value_B (vw_value n) (vw_values n) v = some v
      unfold vw_value_B
      have hw := v.wt_eq
      rw [ih.2 v.L (by omega) (by omega)]
      cases v; rfl
    · show vw_values_B (vw_value n) (vw_values n) l = some l
      unfold vw_values_B
      rw [jn_eq]
      have hlen := AValue.wtL_len l
      have key : ∀ (m i : Nat), l.length - i < m → i ≤ l.length → loopK (vw_values_L1 (vw_value n) l fun s => some s) m (l.take i, (i : Int)) = some l := by
        intro m
        induction m with
        | zero => intro i h; omega
        | succ m ihm =>
          intro i hm hi
          show vw_values_L1 (vw_value n) l (fun s => some s) (loopK _ m) (l.take i, (i : Int)) = some l
          generalize loopK (vw_values_L1 (vw_value n) l fun s => some s) m = again at ihm ⊢
          unfold vw_values_L1
          dsimp only
          by_cases hl : i < l.length
          · have hx := AValue.wtL_mem (List.getElem_mem hl)
            rw [nz_lt hl, sel_true, idxO_at hl, bind_some', ih.1 l[i] (by omega) (by omega), bind_some', appO_eq (by simp; omega), bind_some', wrap_id (by omega) (by omega)]
            have e : l.take i ++ [l[i]] = l.take (i + 1) := by rw [List.take_add_one, List.getElem?_eq_getElem hl]; rfl
            rw [e]
            exact ihm (i + 1) (by omega) (by omega)
          · rw [nz_ge (by omega), sel_false, List.take_of_length_le (by omega)]
      have := key N0 0 (by unfold N0; omega) (by omega)
      simpa using this
theorem copy_big {v : AValue} (h : v.wt < 1000000) : vw_value N0 v = some v := (copy_ok N0).1 v (by unfold N0; omega) h
/-! ### a value compared with itself -/
theorem same_ok : ∀ n : Nat, (∀ v : AValue, v.wt ≤ n → v.wt < 1000000 → r11_Same n v v = some true) := by
  intro n
  induction n with
  | zero => exact fun v h => by have := v.wt_pos; omega
  | succ n ih =>
    intro v h hb
    show r11_Same_B (r11_Same n) (r11_SameValues n) v v = some true
    unfold r11_Same_B
    have hw := v.wt_eq
    have hlen := AValue.wtL_len v.L
    simp only [bne_self_eq_false, beq_self_eq_true, Bool.not_true, Bool.or_self, sel_false, jn_eq]
    refine passLoop (n := v.L.length) (by unfold N0; omega) (fun again i hi => ?_) (fun again i hi => by unfold r11_Same_L1; rw [nz_ge hi, sel_false])
    unfold r11_Same_L1
    have hx := AValue.wtL_mem (List.getElem_mem hi)
    rw [nz_lt hi, sel_true, idxO_at hi, bind_some', bind_some', ih v.L[i] (by omega) (by omega), bind_some', Bool.not_true, sel_false, wrap_suc hi (by unfold N0; omega)]
theorem same_big {v : AValue} (h : v.wt < 1000000) : r11_Same N0 v v = some true := same_ok N0 v (by unfold N0; omega) h
/-! ### attributes -/
/-- the first attribute of a name -/
def attrP (name : Str) : List Attr → Option AValue
  | [] => none
  | a :: r => if a.Name.toList == name.toList then some a.Value else attrP name r
def attrR (o : Option AValue) : AValue × Bool := match o with
  | some v => (v, true)
  | none => (⟨0, 0, ByteArray.empty, []⟩, false)
def AttrsOk (l : List Attr) : Prop := l.length ≤ 1000 ∧ ∀ a ∈ l, a.Value.wt < 1000000
theorem rAttr_eq {l : List Attr} (name : Str) (h : l.length ≤ 1000) : r14_Attr l name = some (attrR (attrP name l)) := by
  unfold r14_Attr
  rw [jn_eq]
  have key : ∀ (m i : Nat), l.length - i < m → i ≤ l.length → loopK (r14_Attr_L1 l name fun _ => some (⟨0, 0, ByteArray.empty, []⟩, false)) m (i : Int) = some (attrR (attrP name (l.drop i))) := by
    intro m
    induction m with
    | zero => intro i h; omega
    | succ m ih =>
      intro i hm hi
      show r14_Attr_L1 l name _ (loopK _ m) (i : Int) = _
      generalize loopK (r14_Attr_L1 l name fun _ => some (⟨0, 0, ByteArray.empty, []⟩, false)) m = again at ih ⊢
      unfold r14_Attr_L1
      by_cases hl : i < l.length
      · rw [nz_lt hl, sel_true, idxO_at hl, bind_some', List.drop_eq_getElem_cons hl]
        unfold attrP
        cases hn : (l[i].Name.toList == name.toList) with
        | true => rw [sel_true, bind_some', if_pos rfl]; rfl
        | false =>
          rw [sel_false, wrap_suc hl (by unfold N0; omega), if_neg (by simp)]
          exact ih (i + 1) (by omega) (by omega)
      · rw [nz_ge (by omega), sel_false, List.drop_eq_nil_of_le (by omega)]; rfl
  exact key N0 0 (by unfold N0; omega) (by omega)
theorem vAttr_eq {l : List Attr} (name : Str) (h : AttrsOk l) : vw_Attr l name = some (attrR (attrP name l)) := by
  obtain ⟨h, hv⟩ := h
  unfold vw_Attr
  rw [jn_eq]
  have key : ∀ (m i : Nat), l.length - i < m → i ≤ l.length → loopK (vw_Attr_L1 l name fun _ => some (⟨0, 0, ByteArray.empty, []⟩, false)) m (i : Int) = some (attrR (attrP name (l.drop i))) := by
    intro m
    induction m with
    | zero => intro i h; omega
    | succ m ih =>
      intro i hm hi
      show vw_Attr_L1 l name _ (loopK _ m) (i : Int) = _
      generalize loopK (vw_Attr_L1 l name fun _ => some (⟨0, 0, ByteArray.empty, []⟩, false)) m = again at ih ⊢
      unfold vw_Attr_L1
      by_cases hl : i < l.length
      · rw [nz_lt hl, sel_true, idxO_at hl, bind_some', List.drop_eq_getElem_cons hl]
        unfold attrP
        cases hn : (l[i].Name.toList == name.toList) with
        | true => rw [sel_true, copy_big (hv _ (List.getElem_mem hl)), bind_some', if_pos rfl]; rfl
        | false =>
          rw [sel_false, wrap_suc hl (by unfold N0; omega), if_neg (by simp)]
          exact ih (i + 1) (by omega) (by omega)
      · rw [nz_ge (by omega), sel_false, List.drop_eq_nil_of_le (by omega)]; rfl
  exact key N0 0 (by unfold N0; omega) (by omega)
theorem attrR_wt {l : List Attr} (name : Str) (h : AttrsOk l) : (attrR (attrP name l)).1.wt < 1000000 := by
  have : ∀ l : List Attr, (∀ a ∈ l, a.Value.wt < 1000000) → (attrR (attrP name l)).1.wt < 1000000 := by
    intro l
    induction l with
    | nil => intro _; show AValue.wt ⟨0, 0, ByteArray.empty, []⟩ < _; rw [AValue.wt_eq, AValue.wtL_nil]; omega
    | cons a r ih =>
      intro h
      unfold attrP
      split
      · exact h a (by simp)
      · exact ih (fun b hb => h b (by simp [hb]))
  exact this l h.2
theorem text_eq {l : List Attr} (name : Str) (h : AttrsOk l) : ∃ t, vw_Text l name = some t ∧ r14_Text l name = some t := by
  unfold vw_Text r14_Text
  rw [vAttr_eq name h, rAttr_eq name h.1, bind_some', bind_some']
  generalize attrR (attrP name l) = x
  by_cases hk : x.1.Kind = 3
  · exact ⟨x.1.S, by simp [hk], by simp [hk]⟩
  · exact ⟨_, by rw [show (x.1.Kind == 3) = false by simpa using hk, sel_false], by rw [show (x.1.Kind != 3) = true by simpa using hk, sel_true]⟩
theorem number_eq {l : List Attr} (name : Str) (other : Int) (h : AttrsOk l) : ∃ t, vw_Number l name other = some t ∧ r14_Number l name other = some t := by
  unfold vw_Number r14_Number
  rw [vAttr_eq name h, rAttr_eq name h.1, bind_some', bind_some']
  generalize attrR (attrP name l) = x
  by_cases hk : x.1.Kind = 1
  · exact ⟨x.1.N, by simp [hk], by simp [hk]⟩
  · exact ⟨_, by rw [show (x.1.Kind == 1) = false by simpa using hk, sel_false], by rw [show (x.1.Kind != 1) = true by simpa using hk, sel_true]⟩
theorem flag_eq {l : List Attr} (name : Str) (h : AttrsOk l) : ∃ t, vw_Flag l name = some t ∧ r14_Flag l name = some t := by
  unfold vw_Flag r14_Flag
  rw [vAttr_eq name h, rAttr_eq name h.1, bind_some']
  exact ⟨_, rfl, rfl⟩
/-! ### the laws of the attributes and the keys -/
theorem attrs_true (a0 : List Attr) (a1 : Str) (a2 : Int) : l14_ViewAttrs a0 a1 a2 = some true := by
  unfold l14_ViewAttrs
  by_cases h40 : a0.length ≤ 40
  · rw [show decide ((a0.length : Int) > 40) = false from decide_eq_false (by omega), sel_false, jn_eq]
    have hN : a0.length < N0 := by unfold N0; omega
    refine allLoop (n := a0.length) hN (fun i => ∀ x, a0[i]? = some x → x.Value.wt < 1000000) (fun again i hi => ?_) (fun again i hi => by unfold l14_ViewAttrs_L3; rw [nz_ge hi, sel_false]) (fun hall => ?_)
    · unfold l14_ViewAttrs_L3
      rw [nz_lt hi, sel_true, idxO_at hi, bind_some']
      obtain ⟨r, e1, ⟨e2, e3⟩, e4⟩ := load_big (v := a0[i].Value) (left := 200) (by omega) (by omega)
      rw [e1, bind_some']
      by_cases hr : r ≤ 0
      · rw [show decide (r ≤ 0) = true from decide_eq_true hr, sel_true]; exact .inl rfl
      · rw [show decide (r ≤ 0) = false from decide_eq_false hr, sel_false, wrap_suc hi hN]
        refine .inr ⟨fun x hx => ?_, rfl⟩
        rw [List.getElem?_eq_getElem hi] at hx
        cases hx
        by_cases hb : (200 : Int) ≤ a0[i].Value.wt
        · exact absurd (e3 hb) hr
        · omega
    · have hok : AttrsOk a0 := ⟨by omega, fun a ha => by
        obtain ⟨j, hj⟩ := List.getElem?_of_mem ha
        exact hall j (List.getElem?_eq_some_iff.1 hj).1 a hj⟩
      rw [jn_eq]
      have names : ∀ k5 : List Str → Option Bool, (∀ l : List Str, l.length ≤ 41 → k5 l = some true) → loopK (l14_ViewAttrs_L2 a0 k5) N0 ([a1], 0) = some true := by
        intro k5 hk
        have key := loopK_ind (B := l14_ViewAttrs_L2 a0 k5) (fun st o => ∀ i : Nat, st.2 = i → i ≤ a0.length → st.1.length = i + 1 → o = some true) (fun st => a0.length - st.2.toNat) (fun st again ih => by
          obtain ⟨l, iz⟩ := st
          intro i hi hil hl
          dsimp only at hi hl ih ⊢
          subst hi
          unfold l14_ViewAttrs_L2
          dsimp only
          by_cases hlt : i < a0.length
          · rw [nz_lt hlt, sel_true, idxO_at hlt, bind_some', appO_eq (by simp; omega), bind_some', wrap_suc hlt hN]
            exact ih _ (by dsimp only; omega) (i + 1) rfl (by omega) (by simp; omega)
          · rw [nz_ge (by omega), sel_false]
            exact hk l (by omega)) N0 ([a1], 0) (by dsimp only; unfold N0; omega) 0 rfl (by omega) rfl
        exact key
      refine names _ (fun l hl => ?_)
      rw [jn_eq]
      refine Eq.trans (passLoop (n := l.length) (o := l14_awake.bind fun x8 => some x8) (by unfold N0; omega) (fun again i hi => ?_) (fun again i hi => by unfold l14_ViewAttrs_L1; rw [nz_ge hi, sel_false])) (by rw [awake_true]; rfl)
      unfold l14_ViewAttrs_L1
      rw [nz_lt hi, sel_true, idxO_at hi]
      simp only [bind_some']
      generalize l[i] = name
      rw [vAttr_eq name hok, rAttr_eq name hok.1]
      simp only [bind_some', bne_self_eq_false, Bool.not_false, gO_true, Bool.false_or]
      rw [same_big (attrR_wt name hok)]
      obtain ⟨t1, p1, p2⟩ := text_eq name hok
      obtain ⟨t2, p3, p4⟩ := number_eq name a2 hok
      obtain ⟨t3, p5, p6⟩ := flag_eq name hok
      simp only [bind_some', Bool.not_true, Bool.not_false, gO_true, p1, p2, p3, p4, p5, p6, beq_self_eq_true, Bool.or_self, bne_self_eq_false, sel_false]
      rw [wrap_suc hi (by unfold N0; omega)]
  · rw [show decide ((a0.length : Int) > 40) = true from decide_eq_true (by omega), sel_true]
theorem key_eq (s : Str) : r13_Key s = vw_Key s := rfl
theorem keys_true (s : Str) : l14_ViewKeys s = some true := by
  unfold l14_ViewKeys
  by_cases h : s.size ≤ 100
  · have hk : ∃ b, vw_Key s = some b := by
      unfold vw_Key
      rw [jn_eq]
      have key := loopK_ind (B := vw_Key_L1 s fun _ => some (decide ((s.size : Int) ≤ 24))) (fun st o => ∀ i : Nat, st = i → ∃ b, o = some b) (fun st => s.size - st.toNat) (fun st again ih => by
        intro i hi
        subst hi
        unfold vw_Key_L1
        by_cases hl : i < s.size
        · rw [nz_lt hl, sel_true]
          obtain ⟨x, hx⟩ : ∃ x, sidxO s (i : Int) = some x := by
            unfold sidxO
            rw [if_pos (by omega), Int.toNat_natCast]
            have : s[i]? = some s[i] := by rw [getElem?_pos s i hl]
            rw [this]; exact ⟨_, rfl⟩
          rw [hx, bind_some', wrap_suc hl (by unfold N0; omega)]
          generalize ((((((decide (x < 97)) || (decide (x > 122))) && ((decide (x < 65)) || (decide (x > 90)))) && ((decide (x < 48)) || (decide (x > 57)))) && (x != 45)) && (x != 95)) = b
          cases b with
          | true => exact ⟨false, rfl⟩
          | false => exact ih _ (by omega) (i + 1) rfl
        · rw [nz_ge (by omega), sel_false]; exact ⟨_, rfl⟩) N0 0 (by unfold N0; omega) 0 rfl
      exact key
    obtain ⟨b, hb⟩ := hk
    have h0 : vw_Key (ByteArray.mk #[]) = some true := by kernel_rfl
    have hr : r14_Key s = some b := by unfold r14_Key; rw [key_eq, hb]; rfl
    rw [show decide ((s.size : Int) > 100) = false from decide_eq_false (by omega)]
    simp only [Bool.not_false, gO_true, Bool.true_and, Bool.false_or]
    rw [hb, hr, h0, awake_true]
    simp
  · rw [show decide ((s.size : Int) > 100) = true from decide_eq_true (by omega)]
    simp
end Go.Proofs.YtcfegecdlbbeaaaDoor

/-
  Part 6 of the texts under the law DispatchRaw: the calculus, the plain functions, their walks, plain facts.
-/
import Derived.Test.YtcenpkkficeaaaaDoorDispatchRawB5
import Derived.KernelRfl
section
namespace Go.Proofs.YtcenpkkficeaaaaDoor
open Go Go.E2
structure Gd (t : Tree) : Prop where
 shp : Shp t
 err : errV (dscT t) = 0
section
variable {t : Tree}
theorem Gd.len (G : Gd t) : t.Nodes.length ≤ 400:=G.shp.lim.2.2.2
theorem Gd.node (G : Gd t) {d : Nat} {x : Int} (h : Reach t.Nodes t.Root d x) : AttrsOk (nd t.Nodes x).Attrs ∧ ActsOk (nd t.Nodes x).Actions ∧ (nd t.Nodes x).Attrs.length ≤ 24 ∧ (nd t.Nodes x).Actions.length ≤ 24:=by
 have h1:=(good_node G.shp G.err h).2
 exact ⟨h1.attsOk,h1.actsOk,h1.atts,h1.acts⟩
theorem Gd.tb (G : Gd t) : TB t:=fun n hn=>by
 obtain ⟨d,hd⟩:=whole_reach G.shp.to0 G.shp.whole (show n.ID ∈ ids t.Nodes from List.mem_map_of_mem hn)
 have e : nd t.Nodes n.ID = n:=nd_look (look_of G.shp.to0.uniq hn)
 have h1:=G.node hd
 have h2:=kids100 G.shp G.err hd
 have h3:=key24 G.shp G.err hd
 rw [e] at h1 h2 h3
 exact ⟨h1.1,h1.2.1,by omega,by unfold N0;omega⟩
theorem Gd.find (G : Gd t) {d : Nat} {x : Int} (h : Reach t.Nodes t.Root d x) : vw_Find t x = some (nd t.Nodes x,true):=by
 obtain ⟨n,n1,_⟩:=reach_mem G.shp.to0 h
 rcases find_ok G.tb (by have:=G.len;unfold N0;omega) x with ⟨m,m1,m2⟩ | ⟨m1,_⟩
 ·rw [m2,nd_look m1]
 ·rw [m1] at n1;cases n1
theorem Gd.find29 (G : Gd t) {d : Nat} {x : Int} (h : Reach t.Nodes t.Root d x) : r29_Find t x = some (nd t.Nodes x,true):=by
 have hl : t.Nodes.length < N0:=by have:=G.len;unfold N0;omega
 obtain ⟨n,n1,_⟩:=reach_mem G.shp.to0 h
 unfold r29_Find
 rcases Index_ok t x hl with ⟨i,m,e1,e2,e3⟩ | ⟨e1,e2⟩
 ·rw [e1,bind_some',show decide ((i : Int) < 0) = false from decide_eq_false (by omega),sel_false,Node_ok t x hl];rfl
 ·rw [e2] at n1;cases n1
theorem Gd.nid (G : Gd t) {d : Nat} {x : Int} (h : Reach t.Nodes t.Root d x) : (nd t.Nodes x).ID = x:=by
 obtain ⟨n,n1,n2,n3⟩:=reach_mem G.shp.to0 h
 rw [nd_look n1,n3]
def disA : Str:=ByteArray.mk #[100,105,115,97,98,108,101,100]
def flagOf (n : Node) : Bool:=((attrR (attrP disA n.Attrs)).1.Kind == 2) && ((attrR (attrP disA n.Attrs)).1.N == 1)
theorem Gd.flagV (G : Gd t) {d : Nat} {x : Int} (h : Reach t.Nodes t.Root d x) : vw_Flag (nd t.Nodes x).Attrs disA = some (flagOf (nd t.Nodes x)):=by
 unfold vw_Flag
 rw [vAttr_eq disA (G.node h).1];rfl
theorem Gd.flagR (G : Gd t) {d : Nat} {x : Int} (h : Reach t.Nodes t.Root d x) : r14_Flag (nd t.Nodes x).Attrs disA = some (flagOf (nd t.Nodes x)):=by
 unfold r14_Flag
 rw [rAttr_eq disA (G.node h).1.1];rfl
def stp (L : List Node) : Bool → List Int → List dispatch_step
 | _,[]=>[]
 | b,x :: r=>⟨nd L x,b || flagOf (nd L x)⟩ :: stp L (b || flagOf (nd L x)) r
def On (t : Tree) (p : List Int) : Prop:=p.length ≤ 400 ∧ ∀ x ∈ p,∃ d,Reach t.Nodes t.Root d x
theorem steps_loop (G : Gd t) {p : List Int} (hp : On t p) (k : List dispatch_step → Option (List dispatch_step)) : ∀ (m i : Nat) (acc : List dispatch_step) (b : Bool),p.length - i < m → i ≤ p.length → acc.length ≤ i →
  loopK (dp_steps_L1 t k p) m (acc,b,(i : Int)) = k (acc ++ stp t.Nodes b (p.drop i)):=by
 obtain ⟨hl,hp⟩:=hp
 intro m
 induction m with
 | zero=>intro i _ _ h;omega
 | succ m ih =>
  intro i acc b hm hi ha
  show dp_steps_L1 t k p (loopK _ m) (acc,b,(i : Int)) = _
  generalize loopK (dp_steps_L1 t k p) m = again at ih ⊢
  unfold dp_steps_L1
  by_cases h : i < p.length
  ·obtain ⟨d,hd⟩:=hp _ (List.getElem_mem h)
   simp only
   rw [nz_lt h,sel_true,idxO_at h,bind_some',G.find hd,bind_some',List.drop_eq_getElem_cons h]
   have hf : (gO (!b) (vw_Flag (nd t.Nodes p[i]).Attrs disA)).bind (fun x9=>(appO acc ([(dispatch_step.mk (nd t.Nodes p[i]) (b || x9))])).bind fun x10=>again (x10,b || x9,IntKind.i64.wrap ((i : Int) + 1))) = again (acc ++ [dispatch_step.mk (nd t.Nodes p[i]) (b || flagOf (nd t.Nodes p[i]))],b || flagOf (nd t.Nodes p[i]),((i + 1 : Nat) : Int)):=by
    rw [wrap_suc h (by unfold N0;omega)]
    cases b with
    | true =>
     rw [Bool.not_true,gO_false,bind_some',Bool.true_or,appO_eq (by simp;omega),bind_some',Bool.true_or]
    | false =>
     rw [Bool.not_false,gO_true,G.flagV hd,bind_some',Bool.false_or,appO_eq (by simp;omega),bind_some']
   refine hf.trans ?_
   rw [ih (i + 1) _ _ (by omega) (by omega) (by simp;omega),List.append_assoc]
   rfl
  ·simp only
   rw [nz_ge (by omega),sel_false,List.drop_eq_nil_of_le (by omega)]
   show k acc = k (acc ++ [])
   rw [List.append_nil]
theorem off_loop (G : Gd t) {p : List Int} (hp : On t p) (k : Unit → Option Bool) : ∀ (m i : Nat),p.length - i < m → i ≤ p.length →
  loopK (r30_off_L1 t p k) m (i : Int) = if (p.drop i).any (fun x=>flagOf (nd t.Nodes x)) = true then some true else k ():=by
 obtain ⟨hl,hp⟩:=hp
 intro m
 induction m with
 | zero=>intro i h;omega
 | succ m ih =>
  intro i hm hi
  show r30_off_L1 t p k (loopK _ m) (i : Int) = _
  generalize loopK (r30_off_L1 t p k) m = again at ih ⊢
  unfold r30_off_L1
  by_cases h : i < p.length
  ·obtain ⟨d,hd⟩:=hp _ (List.getElem_mem h)
   rw [nz_lt h,sel_true,idxO_at h,bind_some',G.find29 hd,bind_some']
   show (r14_Flag (nd t.Nodes p[i]).Attrs disA).bind _ = _
   rw [G.flagR hd,bind_some',List.drop_eq_getElem_cons h,List.any_cons,wrap_suc h (by unfold N0;omega),ih (i + 1) (by omega) (by omega)]
   cases flagOf (nd t.Nodes p[i]) with
   | true=>rw [sel_true,Bool.true_or,if_pos rfl]
   | false=>rw [sel_false,Bool.false_or]
  ·rw [nz_ge (by omega),sel_false,List.drop_eq_nil_of_le (by omega)];rfl
theorem off_ok (G : Gd t) {p : List Int} (hp : On t p) : r30_off t p = some (p.any fun x=>flagOf (nd t.Nodes x)):=by
 unfold r30_off
 rw [jn_eq]
 have:=off_loop G hp (fun _=>some false) N0 0 (by have:=hp.1;unfold N0;omega) (Nat.zero_le _)
 rw [show ((0 : Nat) : Int) = 0 from rfl,List.drop_zero] at this
 rw [this]
 cases p.any fun x=>flagOf (nd t.Nodes x) <;> rfl
end
end Go.Proofs.YtcenpkkficeaaaaDoor
end
section
namespace Go.Proofs.YtcenpkkficeaaaaDoor
open Go Go.E2
theorem dcopy_ok : ∀ n : Nat,(∀ v : AValue,2 * v.wt ≤ n → v.wt < 1000000 → dp_copyValue n v = some v) ∧ (∀ l : List AValue,2 * AValue.wtL l + 1 ≤ n → AValue.wtL l < 1000000 → dp_copyValues n l = some l):=by
 intro n
 induction n with
 | zero=>exact ⟨fun v h=>by have:=v.wt_pos;omega,fun l h=>by omega⟩
 | succ n ih =>
  refine ⟨fun v h hb=>?_,fun l h hb=>?_⟩
  ·show dp_copyValue_B (dp_copyValue n) (dp_copyValues n) v = some v
   unfold dp_copyValue_B
   have hw:=v.wt_eq
   rw [ih.2 v.L (by omega) (by omega)]
   cases v;rfl
  ·show dp_copyValues_B (dp_copyValue n) (dp_copyValues n) l = some l
   unfold dp_copyValues_B
   rw [jn_eq]
   have hlen:=AValue.wtL_len l
   have key : ∀ (m i : Nat),l.length - i < m → i ≤ l.length → loopK (dp_copyValues_L1 (dp_copyValue n) l fun s=>some s) m (l.take i,(i : Int)) = some l:=by
    intro m
    induction m with
    | zero=>intro i h;omega
    | succ m ihm =>
     intro i hm hi
     show dp_copyValues_L1 (dp_copyValue n) l (fun s=>some s) (loopK _ m) (l.take i,(i : Int)) = some l
     generalize loopK (dp_copyValues_L1 (dp_copyValue n) l fun s=>some s) m = again at ihm ⊢
     unfold dp_copyValues_L1
     dsimp only
     by_cases hl : i < l.length
     ·have hx:=AValue.wtL_mem (List.getElem_mem hl)
      rw [nz_lt hl,sel_true,idxO_at hl,bind_some',ih.1 l[i] (by omega) (by omega),bind_some',appO_eq (by simp;omega),bind_some',wrap_id (by omega) (by omega)]
      have e : l.take i ++ [l[i]] = l.take (i + 1):=by rw [List.take_add_one,List.getElem?_eq_getElem hl];rfl
      rw [e]
      exact ihm (i + 1) (by omega) (by omega)
     ·rw [nz_ge (by omega),sel_false,List.take_of_length_le (by omega)]
   have:=key N0 0 (by unfold N0;omega) (by omega)
   simpa using this
theorem dcopy_big {l : List AValue} (h : AValue.wtL l < 1000000) : dp_copyValues N0 l = some l:=(dcopy_ok N0).2 l (by unfold N0;omega) h
def isT (text : Str) (y : AValue) : Bool:=(y.Kind == 3) && (y.S.toList == text.toList)
theorem idx_loop {l : List AValue} (hl : l.length < N0) (text : Str) (k : Unit → Option Int) : ∀ (m i : Nat),l.length - i < m → i ≤ l.length →
  (((l.drop i).any (isT text) = true ∧ ∃ j : Nat,loopK (slices_IndexFunc_Sl_Value_Value_L1 l text k) m (i : Int) = some (j : Int)) ∨ ((l.drop i).any (isT text) = false ∧ loopK (slices_IndexFunc_Sl_Value_Value_L1 l text k) m (i : Int) = k ())):=by
 intro m
 induction m with
 | zero=>intro i h;omega
 | succ m ih =>
  intro i hm hi
  show ((l.drop i).any (isT text) = true ∧ ∃ j : Nat,slices_IndexFunc_Sl_Value_Value_L1 l text k (loopK _ m) (i : Int) = some (j : Int)) ∨ ((l.drop i).any (isT text) = false ∧ slices_IndexFunc_Sl_Value_Value_L1 l text k (loopK _ m) (i : Int) = k ())
  generalize loopK (slices_IndexFunc_Sl_Value_Value_L1 l text k) m = again at ih ⊢
  unfold slices_IndexFunc_Sl_Value_Value_L1
  by_cases h : i < l.length
  ·rw [nz_lt h,sel_true,idxO_at h,bind_some',List.drop_eq_getElem_cons h,List.any_cons,wrap_suc h hl]
   show (isT text l[i] || (l.drop (i + 1)).any (isT text)) = true ∧ (∃ j : Nat,sel (isT text l[i]) (some (i : Int)) (again ((i + 1 : Nat) : Int)) = some (j : Int)) ∨ (isT text l[i] || (l.drop (i + 1)).any (isT text)) = false ∧ sel (isT text l[i]) (some (i : Int)) (again ((i + 1 : Nat) : Int)) = k ()
   cases isT text l[i] with
   | true=>exact .inl ⟨rfl,i,rfl⟩
   | false=>rw [sel_false,Bool.false_or];exact ih (i + 1) (by omega) (by omega)
  ·rw [nz_ge (by omega),sel_false,List.drop_eq_nil_of_le (by omega)]
   exact .inr ⟨rfl,rfl⟩
theorem contains_ok {l : List AValue} (hl : l.length < N0) (text : Str) : slices_ContainsFunc_Sl_Value_Value l text = some (l.any (isT text)):=by
 unfold slices_ContainsFunc_Sl_Value_Value slices_IndexFunc_Sl_Value_Value
 rw [jn_eq]
 rcases idx_loop hl text (fun _=>some (-1)) N0 0 (by omega) (Nat.zero_le _) with ⟨h1,j,h2⟩ | ⟨h1,h2⟩
 ·rw [List.drop_zero] at h1
  rw [show (0 : Int) = ((0 : Nat) : Int) from rfl,h2,h1,bind_some']
  exact congrArg some (decide_eq_true (by omega))
 ·rw [List.drop_zero] at h1
  rw [show (0 : Int) = ((0 : Nat) : Int) from rfl,h2,h1];rfl
theorem rlists_loop {x : AValue × Bool} (hl : x.1.L.length < N0) (text : Str) (k : Unit → Option Bool) : ∀ (m i : Nat),x.1.L.length - i < m → i ≤ x.1.L.length →
  loopK (r30_Lists_L1 text x k) m (i : Int) = if (x.1.L.drop i).any (isT text) = true then some true else k ():=by
 intro m
 induction m with
 | zero=>intro i h;omega
 | succ m ih =>
  intro i hm hi
  show r30_Lists_L1 text x k (loopK _ m) (i : Int) = _
  generalize loopK (r30_Lists_L1 text x k) m = again at ih ⊢
  unfold r30_Lists_L1
  by_cases h : i < x.1.L.length
  ·rw [nz_lt h,sel_true,idxO_at h,bind_some',List.drop_eq_getElem_cons h,List.any_cons,wrap_suc h hl]
   unfold isT
   cases hk : (x.1.L[i].Kind == 3) with
   | false =>
    rw [gO_false,bind_some',Bool.false_and,sel_false,Bool.false_and,Bool.false_or]
    exact ih (i + 1) (by omega) (by omega)
   | true =>
    rw [gO_true,bind_some',Bool.true_and]
    cases (x.1.L[i].S.toList == text.toList) with
    | true=>rw [sel_true,Bool.true_or,if_pos rfl]
    | false=>rw [sel_false,Bool.false_or];exact ih (i + 1) (by omega) (by omega)
  ·rw [nz_ge (by omega),sel_false,List.drop_eq_nil_of_le (by omega)];rfl
def listsF (name text : Str) (l : List Attr) : Bool:=(attrR (attrP name l)).2 && (isT text (attrR (attrP name l)).1 || ((attrR (attrP name l)).1.Kind == 4 && (attrR (attrP name l)).1.L.any (isT text)))
theorem lists_ok {n : Node} (h : AttrsOk n.Attrs) (name text : Str) : dp_lists n name text = some (listsF name text n.Attrs):=by
 have hw:=attrR_wt name h
 unfold dp_lists listsF
 rw [vAttr_eq name h,bind_some']
 generalize attrR (attrP name n.Attrs) = v at hw ⊢
 have hl : v.1.L.length < N0:=by
  have h1:=AValue.wtL_len v.1.L
  have h2:=v.1.wt_eq
  unfold N0;omega
 cases v.2 with
 | false=>rfl
 | true =>
  rw [Bool.not_true,sel_false,Bool.true_and]
  show (sel (!(isT text v.1) && (v.1.Kind == 4)) (slices_ContainsFunc_Sl_Value_Value v.1.L text) (some (default : Bool))).bind (fun x4=>some (isT text v.1 || ((v.1.Kind == 4) && x4))) = _
  rw [contains_ok hl]
  cases isT text v.1 <;> cases (v.1.Kind == 4) <;> rfl
theorem rlists_ok {l : List Attr} (h : AttrsOk l) (name text : Str) : r30_Lists l name text = some (listsF name text l):=by
 have hw:=attrR_wt name h
 unfold r30_Lists listsF
 rw [rAttr_eq name h.1,bind_some']
 generalize attrR (attrP name l) = v at hw ⊢
 have hl : v.1.L.length < N0:=by
  have h1:=AValue.wtL_len v.1.L
  have h2:=v.1.wt_eq
  unfold N0;omega
 cases v.2 with
 | false=>rfl
 | true =>
  rw [Bool.not_true,sel_false,Bool.true_and]
  unfold isT
  by_cases h3 : v.1.Kind = 3
  ·rw [h3]
   show some _ = some _
   rw [show ((3 : Int) == 4) = false from rfl,Bool.false_and,Bool.or_false];rfl
  ·rw [show (v.1.Kind == 3) = false by simpa using h3,sel_false,Bool.false_and,Bool.false_or]
   by_cases h4 : v.1.Kind = 4
   ·rw [h4,show ((4 : Int) != 4) = false from rfl,sel_false,jn_eq,show (0 : Int) = ((0 : Nat) : Int) from rfl,rlists_loop hl text _ N0 0 (by omega) (Nat.zero_le _),List.drop_zero,show ((4 : Int) == 4) = true from rfl,Bool.true_and]
    show (if v.1.L.any (isT text) = true then some true else some false) = some (v.1.L.any (isT text))
    cases v.1.L.any (isT text) <;> rfl
   ·rw [show (v.1.Kind != 4) = true by simpa using h4,sel_true,show (v.1.Kind == 4) = false by simpa using h4,Bool.false_and]
def actP (event : Str) : List Action → Option Action
 | []=>none
 | a :: r=>if a.Event.toList == event.toList then some a else actP event r
def zA : Action:=⟨ByteArray.empty,ByteArray.empty,ByteArray.empty,[]⟩
theorem ract_ok {n : Node} (h : ActsOk n.Actions) (event : Str) : r30_action n event = some (match actP event n.Actions with | some a=>(a,true) | none=>(zA,false)):=by
 unfold r30_action
 rw [jn_eq]
 have key : ∀ (m i : Nat),n.Actions.length - i < m → i ≤ n.Actions.length → loopK (r30_action_L1 n event fun _=>some (zA,false)) m (i : Int) = some (match actP event (n.Actions.drop i) with | some a=>(a,true) | none=>(zA,false)):=by
  have hlen:=h.1
  intro m
  induction m with
  | zero=>intro i h;omega
  | succ m ih =>
   intro i hm hi
   show r30_action_L1 n event _ (loopK _ m) (i : Int) = _
   generalize loopK (r30_action_L1 n event fun _=>some (zA,false)) m = again at ih ⊢
   unfold r30_action_L1
   by_cases hl : i < n.Actions.length
   ·rw [nz_lt hl,sel_true,idxO_at hl,bind_some',List.drop_eq_getElem_cons hl,bind_some']
    unfold actP
    cases (n.Actions[i].Event.toList == event.toList) with
    | true=>rw [sel_true,if_pos rfl]
    | false =>
     rw [sel_false,wrap_suc hl (by unfold N0;omega),if_neg (by simp)]
     exact ih (i + 1) (by omega) (by omega)
   ·rw [nz_ge (by omega),sel_false,List.drop_eq_nil_of_le (by omega)];rfl
 exact key N0 0 (by have:=h.1;unfold N0;omega) (by omega)
theorem invoke_ok {s : dispatch_step} (h : ActsOk s.node.Actions) (phase : Int) (event : Str) : dp_step_invoke s phase event = some (match actP event s.node.Actions with | some a=>(⟨s.node.ID,phase,a⟩,true) | none=>(⟨0,0,zA⟩,false)):=by
 unfold dp_step_invoke
 rw [jn_eq]
 have key : ∀ (m i : Nat),s.node.Actions.length - i < m → i ≤ s.node.Actions.length → loopK (dp_step_invoke_L1 s phase event fun _=>some (⟨0,0,zA⟩,false)) m (i : Int) = some (match actP event (s.node.Actions.drop i) with | some a=>(⟨s.node.ID,phase,a⟩,true) | none=>(⟨0,0,zA⟩,false)):=by
  have hlen:=h.1
  intro m
  induction m with
  | zero=>intro i h;omega
  | succ m ih =>
   intro i hm hi
   show dp_step_invoke_L1 s phase event _ (loopK _ m) (i : Int) = _
   generalize loopK (dp_step_invoke_L1 s phase event fun _=>some (⟨0,0,zA⟩,false)) m = again at ih ⊢
   unfold dp_step_invoke_L1
   by_cases hl : i < s.node.Actions.length
   ·rw [nz_lt hl,sel_true,idxO_at hl,bind_some',List.drop_eq_getElem_cons hl]
    unfold actP
    cases (s.node.Actions[i].Event.toList == event.toList) with
    | true=>rw [sel_true,dcopy_big (h.2 _ (List.getElem_mem hl)),bind_some',if_pos rfl]
    | false =>
     rw [sel_false,wrap_suc hl (by unfold N0;omega),if_neg (by simp)]
     exact ih (i + 1) (by omega) (by omega)
   ·rw [nz_ge (by omega),sel_false,List.drop_eq_nil_of_le (by omega)];rfl
 exact key N0 0 (by have:=h.1;unfold N0;omega) (by omega)
end Go.Proofs.YtcenpkkficeaaaaDoor
end
section
namespace Go.Proofs.YtcenpkkficeaaaaDoor
open Go Go.E2
theorem reacts_same (kind : Int) (event : Str) : ∃ b,dp_reacts kind event = some b ∧ r30_reacts kind event = some b:=by
 have x12 : (event.toList == (ByteArray.mk #[112,114,101,115,115]).toList) = true → (event.toList == (ByteArray.mk #[99,104,97,110,103,101]).toList) = false:=fun h=>by rw [eq_of_beq h];decide +kernel
 have x13 : (event.toList == (ByteArray.mk #[112,114,101,115,115]).toList) = true → (event.toList == (ByteArray.mk #[115,99,114,111,108,108]).toList) = false:=fun h=>by rw [eq_of_beq h];decide +kernel
 have x14 : (event.toList == (ByteArray.mk #[112,114,101,115,115]).toList) = true → (event.toList == (ByteArray.mk #[100,105,115,109,105,115,115]).toList) = false:=fun h=>by rw [eq_of_beq h];decide +kernel
 have x23 : (event.toList == (ByteArray.mk #[99,104,97,110,103,101]).toList) = true → (event.toList == (ByteArray.mk #[115,99,114,111,108,108]).toList) = false:=fun h=>by rw [eq_of_beq h];decide +kernel
 have x24 : (event.toList == (ByteArray.mk #[99,104,97,110,103,101]).toList) = true → (event.toList == (ByteArray.mk #[100,105,115,109,105,115,115]).toList) = false:=fun h=>by rw [eq_of_beq h];decide +kernel
 have x34 : (event.toList == (ByteArray.mk #[115,99,114,111,108,108]).toList) = true → (event.toList == (ByteArray.mk #[100,105,115,109,105,115,115]).toList) = false:=fun h=>by rw [eq_of_beq h];decide +kernel
 unfold dp_reacts r30_reacts
 simp only [jnN]
 generalize (event.toList == (ByteArray.mk #[112,114,101,115,115]).toList) = b1 at *
 generalize (event.toList == (ByteArray.mk #[99,104,97,110,103,101]).toList) = b2 at *
 generalize (event.toList == (ByteArray.mk #[115,99,114,111,108,108]).toList) = b3 at *
 generalize (event.toList == (ByteArray.mk #[100,105,115,109,105,115,115]).toList) = b4 at *
 rcases (by omega : kind = 3 ∨ kind = 6 ∨ kind = 7 ∨ kind = 4 ∨ kind = 13 ∨ kind = 8 ∨ kind = 12 ∨ (kind ≠ 3 ∧ kind ≠ 6 ∧ kind ≠ 7 ∧ kind ≠ 4 ∧ kind ≠ 13 ∧ kind ≠ 8 ∧ kind ≠ 12)) with rfl | rfl | rfl | rfl | rfl | rfl | rfl | ⟨h1,h2,h3,h4,h5,h6,h7⟩
 ·revert b1 b2 b3 b4;decide +kernel
 ·revert b1 b2 b3 b4;decide +kernel
 ·revert b1 b2 b3 b4;decide +kernel
 ·revert b1 b2 b3 b4;decide +kernel
 ·revert b1 b2 b3 b4;decide +kernel
 ·revert b1 b2 b3 b4;decide +kernel
 ·revert b1 b2 b3 b4;decide +kernel
 ·rw [show (kind == 3) = false by simpa using h1,show (kind == 6) = false by simpa using h2,show (kind == 7) = false by simpa using h3,show (kind == 4) = false by simpa using h4,show (kind == 13) = false by simpa using h5,show (kind == 8) = false by simpa using h6,show (kind == 12) = false by simpa using h7]
  revert b1 b2 b3 b4;decide +kernel
section
variable {t : Tree}
theorem stp_len (L : List Node) : ∀ (b : Bool) (p : List Int),(stp L b p).length = p.length
 | _,[]=>rfl
 | b,x :: r=>by show (stp L _ r).length + 1 = r.length + 1;rw [stp_len L _ r]
theorem stp_get (L : List Node) : ∀ (b : Bool) (p : List Int) (i : Nat) (h : i < p.length),(stp L b p)[i]? = some ⟨nd L p[i],b || (p.take (i + 1)).any fun x=>flagOf (nd L x)⟩
 | b,x :: r,0,_=>by
  show some (dispatch_step.mk (nd L x) (b || flagOf (nd L x))) = some ⟨nd L x,b || (flagOf (nd L x) || false)⟩
  rw [Bool.or_false]
 | b,x :: r,i + 1,h=>by
  show (stp L (b || flagOf (nd L x)) r)[i]? = _
  have hi : i < r.length:=by simpa using h
  rw [stp_get L _ r i hi]
  show some (dispatch_step.mk (nd L (r[i]'hi)) ((b || flagOf (nd L x)) || (r.take (i + 1)).any _)) = some ⟨nd L (r[i]'hi),b || (flagOf (nd L x) || (r.take (i + 1)).any _)⟩
  rw [Bool.or_assoc]
theorem steps_ok (G : Gd t) {p : List Int} (hp : On t p) {a : Int} (hv : vw_Path t a = some p) : dp_steps t a = some (stp t.Nodes false p):=by
 unfold dp_steps
 rw [jn_eq,hv,bind_some']
 have:=steps_loop G hp (fun s=>some s) N0 0 [] false (by have:=hp.1;unfold N0;omega) (Nat.zero_le _) (Nat.zero_le _)
 rw [List.drop_zero,List.nil_append] at this
 exact this
def disOf (t : Tree) (p : List Int) (i : Nat) : Bool:=(p.take (i + 1)).any fun x=>flagOf (nd t.Nodes x)
theorem step_at (p : List Int) {i : Nat} (h : i < p.length) : (stp t.Nodes false p)[i]? = some ⟨nd t.Nodes p[i],disOf t p i⟩:=by
 rw [stp_get t.Nodes false p i h,Bool.false_or];rfl
theorem On.take {p : List Int} (hp : On t p) (n : Nat) : On t (p.take n):=⟨by have:=hp.1;rw [List.length_take];omega,fun x hx=>hp.2 x (List.mem_of_mem_take hx)⟩
theorem off_at (G : Gd t) {p : List Int} (hp : On t p) {i : Nat} (h : i < p.length) : (slcO p 0 (((i + 1 : Nat)) : Int)).bind (fun q=>r30_off t q) = some (disOf t p i):=by
 rw [slcO_eq (by omega),bind_some',off_ok G (hp.take _)];rfl
theorem disabled_same (G : Gd t) {p : List Int} (hp : On t p) {a : Int} (hv : vw_Path t a = some p) (hr : r14_Path t a = some p) : ∃ b,dp_Disabled t a = some b ∧ r30_Disabled t a = some b:=by
 refine ⟨p.any fun x=>flagOf (nd t.Nodes x),?_,?_⟩
 ·unfold dp_Disabled
  rw [steps_ok G hp hv,bind_some',stp_len]
  have h4:=hp.1
  cases hl : p.length with
  | zero =>
   have : p = []:=List.eq_nil_of_length_eq_zero hl
   subst this;rfl
  | succ n =>
   have hn : n < p.length:=by omega
   rw [show decide ((((n + 1 : Nat)) : Int) > 0) = true from decide_eq_true (by omega),gO_true,wrap_id (by omega) (by omega),show (((n + 1 : Nat)) : Int) - 1 = (n : Int) by omega,idxO_nat,step_at p hn,bind_some',Bool.true_and]
   show some (disOf t p n) = _
   unfold disOf
   rw [List.take_of_length_le (by omega)]
 ·unfold r30_Disabled
  rw [hr,bind_some',off_ok G hp];rfl
theorem default_loop (G : Gd t) {p : List Int} (hp : On t p) (event : Str) (k : Unit → Option Int) (hk : ∃ r,k () = some r) : ∀ (m i : Nat),i < m → i ≤ p.length →
  ∃ r,loopK (dp_Default_L1 event (stp t.Nodes false p) k) m ((i : Int) - 1) = some r ∧ loopK (r30_Default_L1 t event p k) m ((i : Int) - 1) = some r:=by
 intro m
 induction m with
 | zero=>intro i h;omega
 | succ m ih =>
  intro i hm hi
  have h4:=hp.1
  show ∃ r,dp_Default_L1 event (stp t.Nodes false p) k (loopK _ m) ((i : Int) - 1) = some r ∧ r30_Default_L1 t event p k (loopK _ m) ((i : Int) - 1) = some r
  generalize loopK (dp_Default_L1 event (stp t.Nodes false p) k) m = again1 at ih ⊢
  generalize loopK (r30_Default_L1 t event p k) m = again2 at ih ⊢
  unfold dp_Default_L1 r30_Default_L1
  cases i with
  | zero =>
   obtain ⟨r,h⟩:=hk
   exact ⟨r,h,h⟩
  | succ j =>
   have hj : j < p.length:=by omega
   obtain ⟨d,hd⟩:=hp.2 _ (List.getElem_mem hj)
   have hpos : decide ((((j + 1 : Nat)) : Int) - 1 ≥ 0) = true:=decide_eq_true (by omega)
   have e1 : (((j + 1 : Nat)) : Int) - 1 = (j : Int):=by omega
   obtain ⟨r,g1,g2⟩:=ih j (by omega) (by omega)
   have ho:=off_at G hp hj
   rw [hpos,sel_true,sel_true,jn_eq,e1,wrap_id (x:=(j : Int) - 1) (by omega) (by omega),show IntKind.i64.wrap ((j : Int) + 1) = ((j + 1 : Nat) : Int) from wrap_suc hj (by unfold N0;omega),idxO_nat,step_at p hj,bind_some',slcO_eq (by omega),bind_some',off_ok G (hp.take _),bind_some']
   show ∃ r,sel (disOf t p j) _ _ = some r ∧ sel (disOf t p j) _ _ = some r
   cases disOf t p j with
   | true=>exact ⟨r,g1,g2⟩
   | false =>
    rw [sel_false,sel_false,lists_ok (G.node hd).1,bind_some',idxO_at hj,bind_some',G.find29 hd,bind_some',rlists_ok (G.node hd).1,bind_some']
    obtain ⟨c,c1,c2⟩:=reacts_same (nd t.Nodes p[j]).Kind event
    cases listsF (ByteArray.mk #[112,114,101,118,101,110,116,115]) event (nd t.Nodes p[j]).Attrs with
    | true=>exact ⟨0,rfl,rfl⟩
    | false =>
     rw [sel_false,sel_false,c1,c2,bind_some',bind_some']
     cases c with
     | true=>exact ⟨p[j],congrArg some (G.nid hd),rfl⟩
     | false=>exact ⟨r,g1,g2⟩
theorem default_same (G : Gd t) {p : List Int} (hp : On t p) {a : Int} (event : Str) (hv : vw_Path t a = some p) (hr : r14_Path t a = some p) : ∃ r,dp_Default t a event = some r ∧ r30_Default t a event = some r:=by
 have h4:=hp.1
 unfold dp_Default r30_Default
 rw [jn_eq,steps_ok G hp hv,hr,bind_some',bind_some',jn_eq,jn_eq,stp_len,wrap_id (by omega) (by omega)]
 exact default_loop G hp event (fun _=>some 0) ⟨0,rfl⟩ N0 p.length (by unfold N0;omega) (Nat.le_refl _)
end
end Go.Proofs.YtcenpkkficeaaaaDoor
end
section
namespace Go.Proofs.YtcenpkkficeaaaaDoor
open Go Go.E2
def RI (l : List Invocation) (n : Nat) : Prop:=l.length ≤ n ∧ ∀ v ∈ l,AValue.wtL v.Action.Args < 1000000
theorem RI.up {l : List Invocation} {n m : Nat} (h : RI l n) (hm : n ≤ m) : RI l m:=⟨Nat.le_trans h.1 hm,h.2⟩
theorem actP_mem {e : Str} : ∀ {l : List Action} {a : Action},actP e l = some a → a ∈ l
 | x :: r,a,h=>by
  unfold actP at h
  split at h
  ·cases h;exact List.mem_cons_self
  ·exact List.mem_cons_of_mem _ (actP_mem h)
def stF (L : List Node) (phase : Int) (name : Str) (x : Int) (out : List Invocation) : List Invocation:=match actP name (nd L x).Actions with
 | some a=>out ++ [⟨x,phase,a⟩]
 | none=>out
section
variable {t : Tree}
theorem stF_RI (G : Gd t) {d : Nat} {x : Int} (hd : Reach t.Nodes t.Root d x) {phase : Int} {name : Str} {out : List Invocation} {n : Nat} (h : RI out n) : RI (stF t.Nodes phase name x out) (n + 1):=by
 unfold stF
 split
 ·rename_i a ha
  refine ⟨by have:=h.1;simp;omega,fun v hv=>?_⟩
  rcases List.mem_append.1 hv with hv | hv
  ·exact h.2 v hv
  ·rw [List.mem_singleton.1 hv]
   exact (G.node hd).2.1.2 a (actP_mem ha)
 ·exact h.up (by omega)
theorem route1_ok (G : Gd t) {d : Nat} {x : Int} (hd : Reach t.Nodes t.Root d x) (b : Bool) (phase : Int) (name en event : Str) {out : List Invocation} (h : out.length ≤ 10000) :
  dp_Route_1 ⟨nd t.Nodes x,b⟩ phase name en out event = some (if b = true then (false,out) else (listsF en event (nd t.Nodes x).Attrs,stF t.Nodes phase name x out)):=by
 unfold dp_Route_1 stF
 cases b with
 | true=>rfl
 | false =>
  show sel false _ _ = _
  rw [sel_false,jn_eq,invoke_ok (s:=⟨nd t.Nodes x,false⟩) (G.node hd).2.1,bind_some',if_neg (by simp)]
  show sel (match actP name (nd t.Nodes x).Actions with | some a=>((⟨(nd t.Nodes x).ID,phase,a⟩ : Invocation),true) | none=>(⟨0,0,zA⟩,false)).2 _ _ = _
  cases actP name (nd t.Nodes x).Actions with
  | none =>
   show sel false _ _ = _
   rw [sel_false,lists_ok (G.node hd).1];rfl
  | some a =>
   show sel true _ _ = _
   rw [sel_true,appO_eq (by simp;omega),bind_some',lists_ok (G.node hd).1]
   show some (_,out ++ [(⟨(nd t.Nodes x).ID,phase,a⟩ : Invocation)]) = some (_,out ++ [⟨x,phase,a⟩])
   rw [G.nid hd]
theorem rbody (G : Gd t) {p : List Int} (hp : On t p) {j : Nat} (hj : j < p.length) (phase : Int) (name en event : Str) {out : List Invocation} (h : out.length ≤ 10000) (again : List Invocation → Option (List Invocation)) :
  ((slcO p 0 (((j + 1 : Nat)) : Int)).bind fun x13=>(r30_off t x13).bind fun x14=>sel x14 (again out) ((idxO p (j : Int)).bind fun x16=>(r29_Find t x16).bind fun x17=>jn (fun (s18 : (List Invocation))=>(r30_Lists x17.1.Attrs en event).bind fun x20=>sel x20 (some s18) (again s18)) fun k19=>(r30_action x17.1 name).bind fun x22=>sel x22.2 ((idxO p (j : Int)).bind fun x24=>(appO out ([(Invocation.mk x24 phase x22.1)])).bind fun x25=>k19 x25) (k19 out))) =
   if disOf t p j = true then again out else if listsF en event (nd t.Nodes p[j]).Attrs = true then some (stF t.Nodes phase name p[j] out) else again (stF t.Nodes phase name p[j] out):=by
 obtain ⟨d,hd⟩:=hp.2 _ (List.getElem_mem hj)
 rw [slcO_eq (by omega),bind_some',off_ok G (hp.take _),bind_some']
 show sel (disOf t p j) _ _ = _
 cases disOf t p j with
 | true=>rw [sel_true,if_pos rfl]
 | false =>
  rw [sel_false,if_neg (by simp),idxO_at hj,bind_some',G.find29 hd,bind_some',jn_eq,ract_ok (G.node hd).2.1,bind_some']
  unfold stF
  cases actP name (nd t.Nodes p[j]).Actions with
  | none =>
   show sel false _ _ = _
   rw [sel_false,rlists_ok (G.node hd).1]
   show sel (listsF en event (nd t.Nodes p[j]).Attrs) (some out) (again out) = _
   cases listsF en event (nd t.Nodes p[j]).Attrs <;> rfl
  | some a =>
   show sel true _ _ = _
   rw [sel_true,bind_some',appO_eq (by simp;omega),bind_some',rlists_ok (G.node hd).1]
   show sel (listsF en event (nd t.Nodes p[j]).Attrs) (some (out ++ [⟨p[j],phase,a⟩])) (again (out ++ [⟨p[j],phase,a⟩])) = _
   cases listsF en event (nd t.Nodes p[j]).Attrs <;> rfl
theorem bubble (G : Gd t) {p : List Int} (hp : On t p) (event : Str) (k : List Invocation → Option (List Invocation)) (hk : ∀ out,RI out 1000 → ∃ l,k out = some l ∧ RI l 1000) : ∀ (m i : Nat) (out : List Invocation) (n : Nat),i < m → i ≤ p.length → RI out n → n + i ≤ 1000 →
  ∃ l,loopK (dp_Route_L1 event (stp t.Nodes false p) k) m ((i : Int) - 1,out) = some l ∧ loopK (r30_Route_L1 t event p k) m (out,(i : Int) - 1) = some l ∧ RI l 1000:=by
 intro m
 induction m with
 | zero=>intro i _ _ h;omega
 | succ m ih =>
  intro i out n hm hi ho hn
  have h4:=hp.1
  show ∃ l,dp_Route_L1 event (stp t.Nodes false p) k (loopK _ m) ((i : Int) - 1,out) = some l ∧ r30_Route_L1 t event p k (loopK _ m) (out,(i : Int) - 1) = some l ∧ RI l 1000
  generalize loopK (dp_Route_L1 event (stp t.Nodes false p) k) m = again1 at ih ⊢
  generalize loopK (r30_Route_L1 t event p k) m = again2 at ih ⊢
  unfold dp_Route_L1 r30_Route_L1
  cases i with
  | zero =>
   obtain ⟨l,h,h'⟩:=hk out (ho.up (by omega))
   exact ⟨l,h,h,h'⟩
  | succ j =>
   have hj : j < p.length:=by omega
   obtain ⟨d,hd⟩:=hp.2 _ (List.getElem_mem hj)
   have hpos : decide ((((j + 1 : Nat)) : Int) - 1 ≥ 0) = true:=decide_eq_true (by omega)
   have e1 : (((j + 1 : Nat)) : Int) - 1 = (j : Int):=by omega
   have hlen : out.length ≤ 10000:=by have:=ho.1;omega
   simp only
   rw [hpos,sel_true,sel_true,jn_eq,e1,wrap_id (x:=(j : Int) - 1) (by omega) (by omega),show IntKind.i64.wrap ((j : Int) + 1) = ((j + 1 : Nat) : Int) from wrap_suc hj (by unfold N0;omega),idxO_nat,step_at p hj,bind_some',route1_ok G hd _ _ _ _ _ hlen,bind_some']
   have hb:=rbody G hp hj 2 event (ByteArray.mk #[115,116,111,112,115]) event hlen (fun s=>again2 (s,(j : Int) - 1))
   rw [idxO_nat] at hb
   cases hdis : disOf t p j with
   | true =>
    rw [hdis,if_pos rfl] at hb
    rw [if_pos rfl]
    obtain ⟨l,g1,g2,g3⟩:=ih j out n (by omega) (by omega) ho (by omega)
    exact ⟨l,g1,hb.trans g2,g3⟩
   | false =>
    rw [hdis,if_neg (by simp)] at hb
    rw [if_neg (by simp)]
    have hs:=stF_RI G hd (phase:=2) (name:=event) ho
    cases hlf : listsF (ByteArray.mk #[115,116,111,112,115]) event (nd t.Nodes p[j]).Attrs with
    | true =>
     rw [hlf,if_pos rfl] at hb
     exact ⟨_,rfl,hb,hs.up (by omega)⟩
    | false =>
     rw [hlf,if_neg (by simp)] at hb
     obtain ⟨l,g1,g2,g3⟩:=ih j _ (n + 1) (by omega) (by omega) hs (by omega)
     exact ⟨l,g1,hb.trans g2,g3⟩
theorem capture (G : Gd t) {p : List Int} (hp : On t p) {event : Str} (hev : event.size ≤ 140737488351232) (k k' : List Invocation → Option (List Invocation)) (hk : ∀ out,RI out 500 → ∃ l,k out = some l ∧ k' out = some l ∧ RI l 1000) : ∀ (m i : Nat) (out : List Invocation),p.length - i < m → i ≤ p.length → RI out i →
  ∃ l,loopK (dp_Route_L2 event (stp t.Nodes false p) k) m ((i : Int),out) = some l ∧ loopK (r30_Route_L2 t event p k') m (out,(i : Int)) = some l ∧ RI l 1000:=by
 intro m
 induction m with
 | zero=>intro i _ h;omega
 | succ m ih =>
  intro i out hm hi ho
  have h4:=hp.1
  show ∃ l,dp_Route_L2 event (stp t.Nodes false p) k (loopK _ m) ((i : Int),out) = some l ∧ r30_Route_L2 t event p k' (loopK _ m) (out,(i : Int)) = some l ∧ RI l 1000
  generalize loopK (dp_Route_L2 event (stp t.Nodes false p) k) m = again1 at ih ⊢
  generalize loopK (r30_Route_L2 t event p k') m = again2 at ih ⊢
  unfold dp_Route_L2 r30_Route_L2
  have hcat : catO (ByteArray.mk #[99,97,112,116,117,114,101,45]) event = some (ByteArray.mk #[99,97,112,116,117,114,101,45] ++ event):=if_pos (by show 8 + event.size ≤ _;omega)
  simp only [hcat,bindN]
  generalize ByteArray.mk #[99,97,112,116,117,114,101,45] ++ event = nm
  by_cases hj : i < p.length
  ·obtain ⟨d,hd⟩:=hp.2 _ (List.getElem_mem hj)
   have hlen : out.length ≤ 10000:=by have:=ho.1;omega
   rw [nz_lt (by rw [stp_len];exact hj),nz_lt hj,sel_true,sel_true,jn_eq,show IntKind.i64.wrap ((i : Int) + 1) = ((i + 1 : Nat) : Int) from wrap_suc hj (by unfold N0;omega),idxO_nat,step_at p hj,bind_some',route1_ok G hd _ _ _ _ _ hlen,bind_some']
   have hb:=rbody G hp hj 1 nm (ByteArray.mk #[98,108,111,99,107,115]) event hlen (fun s=>again2 (s,((i + 1 : Nat) : Int)))
   rw [idxO_nat] at hb
   cases hdis : disOf t p i with
   | true =>
    rw [hdis,if_pos rfl] at hb
    rw [if_pos rfl]
    obtain ⟨l,g1,g2,g3⟩:=ih (i + 1) out (by omega) (by omega) (ho.up (by omega))
    exact ⟨l,g1,hb.trans g2,g3⟩
   | false =>
    rw [hdis,if_neg (by simp)] at hb
    rw [if_neg (by simp)]
    have hs:=stF_RI G hd (phase:=1) (name:=nm) ho
    cases hlf : listsF (ByteArray.mk #[98,108,111,99,107,115]) event (nd t.Nodes p[i]).Attrs with
    | true =>
     rw [hlf,if_pos rfl] at hb
     exact ⟨_,rfl,hb,hs.up (by omega)⟩
    | false =>
     rw [hlf,if_neg (by simp)] at hb
     obtain ⟨l,g1,g2,g3⟩:=ih (i + 1) _ (by omega) (by omega) hs
     exact ⟨l,g1,hb.trans g2,g3⟩
  ·rw [nz_ge (by rw [stp_len];omega),nz_ge (by omega),sel_false,sel_false]
   exact hk out (ho.up (by omega))
end
end Go.Proofs.YtcenpkkficeaaaaDoor
end
section
set_option maxRecDepth 100000
namespace Go.Proofs.YtcenpkkficeaaaaDoor
open Go Go.E2
theorem same_loop {l : List Invocation} (h : RI l 1000) (k : Unit → Option Bool) : ∀ (m i : Nat),l.length - i < m → i ≤ l.length → loopK (l30_same_L1 l l k) m (i : Int) = k ():=by
 intro m
 induction m with
 | zero=>intro i h;omega
 | succ m ih =>
  intro i hm hi
  show l30_same_L1 l l k (loopK _ m) (i : Int) = k ()
  generalize loopK (l30_same_L1 l l k) m = again at ih ⊢
  unfold l30_same_L1
  by_cases hj : i < l.length
  ·have hw:=h.2 _ (List.getElem_mem hj)
   have hA : ActsOk [l[i].Action]:=⟨by simp,fun a ha=>by rw [List.mem_singleton.1 ha];exact hw⟩
   obtain ⟨c,c1,c2⟩:=rsameC_ok (b:=[l[i].Action]) hA
   have hc : c = true:=c2.2 rfl
   subst hc
   rw [nz_lt hj,sel_true,idxO_at hj]
   simp only [bindN,bne_self_eq_false,Bool.not_false,gOT',Bool.false_or,c1,Bool.not_true,selF']
   rw [wrap_suc hj (by have:=h.1;unfold N0;omega)]
   exact ih (i + 1) (by omega) (by omega)
  ·rw [nz_ge (by omega),sel_false]
theorem same_refl {l : List Invocation} (h : RI l 1000) : l30_same l l = some true:=by
 unfold l30_same
 rw [show ((l.length : Int) != (l.length : Int)) = false by simp,sel_false,jn_eq]
 exact same_loop h _ N0 0 (by have:=h.1;unfold N0;omega) (Nat.zero_le _)
theorem pre_same (event : Str) (o1 o2 : Option (List Invocation)) : ∃ b,strings_HasPrefix event (ByteArray.mk #[99,97,112,116,117,114,101,45]) = some b ∧ (gO (decide ((event.size : Int) ≥ 8)) (sslcO event 0 8)).bind (fun x2=>sel ((decide ((event.size : Int) ≥ 8)) && (x2.toList == (ByteArray.mk #[99,97,112,116,117,114,101,45]).toList)) o1 o2) = sel b o1 o2:=by
 unfold strings_HasPrefix stringslite_HasPrefix
 rw [show (((ByteArray.mk #[99,97,112,116,117,114,101,45]).size : Nat) : Int) = 8 from rfl]
 by_cases h : 8 ≤ event.size
 ·rw [show decide ((event.size : Int) ≥ 8) = true from decide_eq_true (by omega),gO_true,show sslcO event 0 8 = some (event.extract (0 : Int).toNat (8 : Int).toNat) from if_pos ⟨by omega,by omega,by omega⟩]
  exact ⟨_,rfl,rfl⟩
 ·rw [show decide ((event.size : Int) ≥ 8) = false from decide_eq_false (by omega),gO_false]
  exact ⟨false,rfl,rfl⟩
section
variable {t : Tree}
theorem route_same (G : Gd t) {p : List Int} (hp : On t p) {a : Int} {event : Str} (hev : event.size ≤ 140737488351232) (hv : vw_Path t a = some p) (hr : r14_Path t a = some p) : ∃ l, dp_Route t a event = some l ∧ r30_Route t a event = some l ∧ RI l 1000 := by
  have h4 := hp.1
  unfold dp_Route r30_Route
  obtain ⟨b, b1, b2⟩ := pre_same event (some ([] : List Invocation)) (jn (fun (s4 : (List Invocation)) => jn (fun (s6 : (List Invocation)) => some s6) fun k7 => loopK (r30_Route_L1 t event p k7) N0 (s4, IntKind.i64.wrap ((p.length : Int) - 1))) fun k5 => loopK (r30_Route_L2 t event p k5) N0 (([] : (List Invocation)), 0))
  rw [hr, bind_some', b1, bind_some']
  have key : ∃ l, (dp_steps t a).bind (fun x3 => jn (fun (s4 : (List Invocation)) => jn (fun (s6 : (List Invocation)) => some s6) fun k7 => jn (fun (s8 : (List Invocation)) => k7 s8) fun k9 => loopK (dp_Route_L1 event x3 k9) N0 (IntKind.i64.wrap ((x3.length : Int) - 1), s4)) fun k5 => loopK (dp_Route_L2 event x3 k5) N0 (0, ([] : (List Invocation)))) = some l ∧
      jn (fun (s4 : (List Invocation)) => jn (fun (s6 : (List Invocation)) => some s6) fun k7 => loopK (r30_Route_L1 t event p k7) N0 (s4, IntKind.i64.wrap ((p.length : Int) - 1))) (fun k5 => loopK (r30_Route_L2 t event p k5) N0 (([] : (List Invocation)), 0)) = some l ∧ RI l 1000 := by
    rw [steps_ok G hp hv, bind_some', jn_eq, jn_eq]
    refine capture G hp hev _ _ (fun out ho => ?_) N0 0 [] (by unfold N0; omega) (Nat.zero_le _) ⟨Nat.le_refl _, fun v hv => by cases hv⟩
    rw [jn_eq, jn_eq, jn_eq, stp_len, wrap_id (by omega) (by omega)]
    exact bubble G hp event (fun s => some s) (fun o ho => ⟨o, rfl, ho⟩) N0 p.length out 500 (by unfold N0; omega) (Nat.le_refl _) ho (by omega)
  obtain ⟨l, g1, g2, g3⟩ := key
  cases b with
  | true => exact ⟨[], rfl, b2, by simp, fun v hv => by cases hv⟩
  | false => exact ⟨l, g1, b2.trans g2, g3⟩
end
theorem nil_agrees {t : Tree} {a : Int} (event : Str) (hv : vw_Path t a = some []) (hr : r14_Path t a = some []) : l30_agrees t a event = some true:=by
 have hs : dp_steps t a = some []:=by
  unfold dp_steps
  rw [jn_eq,hv];rfl
 have d1 : dp_Disabled t a = some false:=by unfold dp_Disabled;rw [hs];rfl
 have d2 : r30_Disabled t a = some false:=by unfold r30_Disabled;rw [hr];rfl
 have r1 : dp_Route t a event = some []:=by
  unfold dp_Route
  obtain ⟨b,b1,_⟩:=pre_same event none none
  rw [b1,bind_some']
  cases b with
  | true=>rfl
  | false=>rw [sel_false,hs];rfl
 have r2 : r30_Route t a event = some []:=by
  unfold r30_Route
  obtain ⟨b,_,b2⟩:=pre_same event (some ([] : List Invocation)) (jn (fun (s4 : (List Invocation))=>jn (fun (s6 : (List Invocation))=>some s6) fun k7=>loopK (r30_Route_L1 t event [] k7) N0 (s4,IntKind.i64.wrap ((([] : List Int).length : Int) - 1))) fun k5=>loopK (r30_Route_L2 t event [] k5) N0 (([] : (List Invocation)),0))
  rw [hr,bind_some']
  refine b2.trans ?_
  cases b <;> rfl
 have f1 : dp_Default t a event = some 0:=by unfold dp_Default;rw [jn_eq,hs];rfl
 have f2 : r30_Default t a event = some 0:=by unfold r30_Default;rw [hr];rfl
 unfold l30_agrees
 rw [d1,d2,bind_some',bind_some',r1,r2,f1,f2];rfl
theorem agrees_ok {t : Tree} (h : TK t) (a : Int) {event : Str} (hev : event.size ≤ 140737488351232) : l30_agrees t a event = some true:=by
 rcases path_K h a with ⟨S,he,d,hd,hv,hr⟩ | ⟨hv,hr⟩
 ·have G : Gd t:=⟨S,he⟩
  have hdl:=reach_depth S.to0 hd
  have hl:=S.lim.2.2.2
  have hp : On t (pth t.Nodes d a):=⟨by rw [pth_len];omega,fun x hx=>by
   obtain ⟨i,hi,rfl⟩:=List.mem_iff_getElem.1 hx
   exact ⟨i,(pth_get S.to0 hd i _ (List.getElem?_eq_getElem hi)).2.1⟩⟩
  obtain ⟨b,d1,d2⟩:=disabled_same G hp hv hr
  obtain ⟨l,r1,r2,r3⟩:=route_same G hp hev hv hr
  obtain ⟨f,f1,f2⟩:=default_same G hp event hv hr
  unfold l30_agrees
  rw [d1,d2,bind_some',bind_some',show (b == b) = true by simp,gO_true,gO_true,r1,r2,bind_some',bind_some',gO_true,same_refl r3,bind_some',Bool.true_and,gO_true,gO_true,f1,f2,bind_some',bind_some',show (f == f) = true by simp];rfl
 ·exact nil_agrees event hv hr
theorem awake30_true : l30_awake = some true:=by kernel_rfl
end Go.Proofs.YtcenpkkficeaaaaDoor
end
section
namespace Go.Proofs.YtcenpkkficeaaaaDoor
open Go Go.E2
theorem raw30_loop {t : Tree} (hl : t.Nodes.length ≤ 20) (k : Unit → Option Bool) (hk : (∀ n ∈ t.Nodes,n.Kids.length ≤ 20) → k () = some true) : ∀ (m i : Nat),t.Nodes.length - i < m → i ≤ t.Nodes.length → (∀ n ∈ t.Nodes.take i,n.Kids.length ≤ 20) → loopK (l30_DispatchRaw_L1 t k) m (i : Int) = some true:=by
 intro m
 induction m with
 | zero=>intro i h;omega
 | succ m ih =>
  intro i hm hi hp
  show l30_DispatchRaw_L1 t k (loopK _ m) (i : Int) = some true
  generalize loopK (l30_DispatchRaw_L1 t k) m = again at ih ⊢
  unfold l30_DispatchRaw_L1
  by_cases hj : i < t.Nodes.length
  ·rw [nz_lt hj,sel_true,idxO_at hj]
   simp only [bindN]
   by_cases h1 : (t.Nodes[i].Kids.length : Int) > 20
   ·simp only [decide_eq_true h1,Bool.not_true,gOF',bindN,Bool.true_or,selT']
   ·simp only [decide_eq_false h1,Bool.not_false,gOT',bindN,Bool.false_or]
    have hrest : again ((i + 1 : Nat) : Int) = some true:=by
     refine ih (i + 1) (by omega) (by omega) (fun n hn=>?_)
     rw [List.take_add_one,List.getElem?_eq_getElem hj] at hn
     rcases List.mem_append.1 hn with hn | hn
     ·exact hp n hn
     ·have : n = t.Nodes[i]:=by simpa using hn
      subst this;omega
    rw [wrap_suc hj (by unfold N0;omega),hrest]
    by_cases h2 : (t.Nodes[i].Attrs.length : Int) > 20
    ·simp only [decide_eq_true h2,Bool.not_true,gOF',bindN,Bool.true_or,selT']
    ·simp only [decide_eq_false h2,Bool.not_false,gOT',bindN,Bool.false_or]
     by_cases h3 : (t.Nodes[i].Actions.length : Int) > 20
     ·simp only [decide_eq_true h3,selT']
     ·simp only [decide_eq_false h3,selF']
  ·rw [nz_ge (by omega),sel_false]
   exact hk (fun n hn=>hp n (by rw [List.take_of_length_le (by omega)];exact hn))
theorem raw30_true (t : Tree) (a : Int) (event : Str) (hN : ∀ n ∈ t.Nodes,n.Key.size < N0) (hev : event.size ≤ 140737488351232) : l30_DispatchRaw t a event = some true:=by
 unfold l30_DispatchRaw
 by_cases h : (t.Nodes.length : Int) > 20
 ·rw [decide_eq_true h,sel_true]
 ·rw [decide_eq_false h,sel_false,jn_eq]
  refine raw30_loop (by omega) _ (fun hk=>?_) N0 0 (by unfold N0;omega) (Nat.zero_le _) (fun n hn=>by simp at hn)
  have hT : TK t:=fun n hn=>⟨by have:=hk n hn;omega,hN n hn⟩
  show (l30_agrees t a event).bind _ = _
  rw [agrees_ok hT a hev,bind_some',gO_true,awake30_true];rfl
end Go.Proofs.YtcenpkkficeaaaaDoor
end
section
namespace Go.E2
open Go
theorem open_str {P : Program} {t : TypeId} {H : Type} {enc : TypeId × Value → H} {W : World} {r : Reach} {b0 : Nat} {v : Value} {d : DataW H} {p : List MemPlace} (hu : P.underlying t = some .string) (hv : Value.okWide P W r b0 t v) (h : DataW.Trod enc P W 0 (fun _=>true) true t v d p) (hw : (d.weights P t).all (· ≤ reachBytes) = true) :
  ∃ a : Str,a.size ≤ reachBytes ∧ ∀ x,eStr a = [x] → ∀ ρ,A1.rep ρ (M1 W) (.c (.d x)) v:=by
 obtain ⟨fuel,hf⟩:=h
 obtain ⟨n,e1,e2,_⟩:=DataW.trod_string hu hf
 rw [oneCell_cells (by unfold oneCell;rw [hu]) hv] at e1
 cases e1
 cases e2
 refine ⟨n,?_,fun x hx ρ=>?_⟩
 ·unfold DataW.weights at hw
  simpa using hw
 ·cases hx
  exact Rep.v _
end Go.E2
end

/-
  Part 6 of the texts under the law DispatchBuilt: the calculus, the plain functions, their walks, plain facts.
-/
import Derived.Test.YtcenpkkficeaaaaGreatDoorDispatchBuiltB5
import Derived.KernelRfl
section
namespace Go.Proofs.YtcenpkkficeaaaaGreatDoor
open Go Go.E2
section
variable {L : List Node} {root : Int}
theorem kids_len (S : Shp0 L root) (x : Int) : (nd L x).Kids.length ≤ L.length:=by
 cases hl : look L x with
 | none=>rw [nd_none hl];exact Nat.zero_le _
 | some n =>
  rw [nd_look hl]
  have hn:=(look_mem hl).1
  have:=nodup_len (M:=ids L) (S.nod n hn) (fun k hk=>by
   obtain ⟨y,y1,_⟩:=S.kid n hn k hk
   exact ids_look y1)
  rwa [ids_len] at this
theorem preorder_ok (S : Shp0 L root) (h400 : L.length ≤ 400) : ∀ (f n d : Nat) (x : Int),Reach L root d x → L.length ≤ f + d → f ≤ n → vw_preorder n (mpo L) x = some (pre L f x)
 | 0,n,d,x,hr,hf,_=>by have:=reach_depth S hr;omega
 | f + 1,0,d,x,hr,hf,h=>by omega
 | f + 1,n + 1,d,x,hr,hf,h=>by
  have hk:=kids_len S x
  show vw_preorder_B (vw_preorder n) (mpo L) x = _
  unfold vw_preorder_B
  rw [jn_eq,mpo_getO,bind_some']
  have hfull:=pre_len S (f:=f + 1) hr
  refine loopI (L:=(nd L x).Kids) (fun (s : List Int) i=>(s,(i : Int))) (fun i s=>s = x :: ((nd L x).Kids.take i).flatMap (pre L f)) (fun r=>r = some (pre L (f + 1) x)) (by unfold N0;omega) ?_ ?_ [x] rfl
  ·intro again s i k hk1 hi hs
   refine .inr ⟨x :: ((nd L x).Kids.take (i + 1)).flatMap (pre L f),rfl,?_⟩
   have hkm : k ∈ (nd L x).Kids:=List.mem_of_getElem? hk1
   unfold vw_preorder_L1
   simp only [nz_lt hi,sel_true,idxO_nat,hk1,bind_some']
   rw [preorder_ok S h400 f n (d + 1) k (Reach.s hr hkm) (by omega) (by omega),bind_some']
   have hl : s.length ≤ L.length:=by
    subst hs
    have:=flat_take_len (pre L f) (nd L x).Kids i
    have e : (pre L (f + 1) x).length = 1 + ((nd L x).Kids.flatMap (pre L f)).length:=by show (x :: _).length = _;rw [List.length_cons];omega
    rw [List.length_cons];omega
   have hp:=pre_len S (f:=f) (Reach.s hr hkm)
   rw [appO_eq (by omega),bind_some',wrap_suc hi (by unfold N0;omega),take_suc hk1,hs]
   simp
  ·intro again s hs
   unfold vw_preorder_L1
   simp only [nz_ge (Nat.le_refl _),sel_false]
   rw [hs,List.take_length];rfl
theorem described_ok (S : Shp0 L root) (h400 : L.length ≤ 400) : ∀ (f n d : Nat) (x : Int),Reach L root d x → L.length ≤ f + d → f ≤ n → vw_described n (mpo L) x = some (dsc L f x)
 | 0,n,d,x,hr,hf,_=>by have:=reach_depth S hr;omega
 | f + 1,0,d,x,hr,hf,h=>by omega
 | f + 1,n + 1,d,x,hr,hf,h=>by
  have hk:=kids_len S x
  show vw_described_B (vw_described n) (mpo L) x = _
  unfold vw_described_B
  rw [mpo_getO,bind_some',jn_eq]
  refine loopI (L:=(nd L x).Kids) (fun (s : List View) i=>((i : Int),s)) (fun i s=>s = ((nd L x).Kids.take i).map (dsc L f)) (fun r=>r = some (dsc L (f + 1) x)) (by unfold N0;omega) ?_ ?_ [] rfl
  ·intro again s i k hk1 hi hs
   refine .inr ⟨((nd L x).Kids.take (i + 1)).map (dsc L f),rfl,?_⟩
   have hkm : k ∈ (nd L x).Kids:=List.mem_of_getElem? hk1
   unfold vw_described_L1
   simp only [nz_lt hi,sel_true,idxO_nat,hk1,bind_some']
   rw [described_ok S h400 f n (d + 1) k (Reach.s hr hkm) (by omega) (by omega),bind_some']
   have hl : s.length ≤ L.length:=by subst hs;simp;omega
   rw [appO_eq (by simp;omega),bind_some',wrap_suc hi (by unfold N0;omega),take_suc hk1,hs]
   simp
  ·intro again s hs
   unfold vw_described_L1
   simp only [nz_ge (Nat.le_refl _),sel_false]
   rw [hs,List.take_length];rfl
theorem reverse_ok {l : List Int} (h : l.length ≤ 1073741824) : slices_Reverse_Sl_int_int l = some l.reverse:=by
 unfold slices_Reverse_Sl_int_int
 rw [jn_eq]
 by_cases h0 : l = []
 ·subst h0;rfl
 have hpos : 0 < l.length:=List.length_pos_iff.2 h0
 rw [wrap_id (by omega) (by omega)]
 have key:=loopN (n:=l.length / 2) (B:=slices_Reverse_Sl_int_int_L1 fun s1=>some s1) (fun (m : List Int) i=>((i : Int),(l.length : Int) - 1 - i,m))
  (fun i m=>m.length = l.length ∧ ∀ k,k < l.length → m[k]? = if k < i ∨ l.length - i ≤ k then l[l.length - 1 - k]? else l[k]?) (fun r=>r = some l.reverse) (by unfold N0;omega) ?_ ?_ l ⟨rfl,fun k hk=>by rw [if_neg (by omega)]⟩
 ·have e : ((0 : Nat) : Int) = 0:=rfl
  simp only [e,Int.sub_zero] at key
  exact key
 ·intro again m i hi hm
  have hm1 : i < m.length:=by omega
  have hm2 : l.length - 1 - i < m.length:=by omega
  refine .inr ⟨(m.set i m[l.length - 1 - i]).set (l.length - 1 - i) m[i],⟨by simp [hm.1],fun k hk=>?_⟩,?_⟩
  ·have e1:=hm.2 i (by omega)
   have e2:=hm.2 (l.length - 1 - i) (by omega)
   have e3:=hm.2 k hk
   rw [if_neg (by omega)] at e1 e2
   rw [List.getElem?_eq_getElem hm1] at e1
   rw [List.getElem?_eq_getElem hm2] at e2
   rw [List.getElem?_set,List.getElem?_set,List.length_set]
   by_cases c1 : l.length - 1 - i = k
   ·rw [if_pos c1,if_pos (by omega),if_pos (by omega),e1,show l.length - 1 - k = i by omega]
   ·rw [if_neg c1]
    by_cases c2 : i = k
    ·rw [if_pos c2,if_pos (by omega),if_pos (by omega),e2,← c2]
    ·rw [if_neg c2,e3]
     by_cases c3 : k < i ∨ l.length - i ≤ k
     ·rw [if_pos c3,if_pos (by omega)]
     ·rw [if_neg c3,if_neg (by omega)]
  ·unfold slices_Reverse_Sl_int_int_L1
   have hj : (l.length : Int) - 1 - i = ((l.length - 1 - i : Nat) : Int):=by omega
   simp only [hj]
   rw [show decide ((i : Int) < ((l.length - 1 - i : Nat) : Int)) = true by simp;omega,sel_true]
   simp only [ixO_nat hm1,ixO_nat hm2,bind_some',List.getElem?_eq_getElem hm1,List.getElem?_eq_getElem hm2,List.length_set]
   rw [wrap_suc (n:=l.length) (by omega) (by unfold N0;omega),wrap_id (by omega) (by omega)]
   rw [show ((l.length - 1 - i : Nat) : Int) - 1 = ((l.length - 1 - (i + 1) : Nat) : Int) by omega,show (l.length : Int) - 1 - ((i + 1 : Nat) : Int) = ((l.length - 1 - (i + 1) : Nat) : Int) by omega]
 ·intro again m hm
  unfold slices_Reverse_Sl_int_int_L1
  simp only
  rw [show decide (((l.length / 2 : Nat) : Int) < (l.length : Int) - 1 - ((l.length / 2 : Nat) : Int)) = false by simp;omega,sel_false]
  rw [rev_done hm.1 (fun k hk=>by
   rw [hm.2 k hk]
   by_cases c : k < l.length / 2 ∨ l.length - l.length / 2 ≤ k
   ·rw [if_pos c]
   ·rw [if_neg c,show l.length - 1 - k = k by omega])]
def pst (acc : List Int) (n : Node) (ok : Bool) : (List Int) × Int × Int × Int × Str × (List Attr) × (List Action) × (List Int) × Bool:=(acc,n.ID,n.Parent,n.Kind,n.Key,n.Attrs,n.Actions,n.Kids,ok)
theorem look_zero (S : Shp0 L root) : look L 0 = none:=by
 cases h : look L 0 with
 | none=>rfl
 | some n =>
  have:=look_mem h
  have:=S.pos n this.1
  omega
theorem path_loop (S : Shp0 L root) (h400 : L.length ≤ 400) (k2 : List Int → Option (List Int)) : ∀ (d n : Nat) (x : Int) (acc : List Int),Reach L root d x → d + 2 ≤ n → acc.length + d ≤ 400 →
  loopK (vw_path_L1 (mpo L) k2) n (pst acc (nd L x) true) = k2 (acc ++ (pth L d x).reverse)
 | d,0,_,_,_,h,_=>by omega
 | d,n + 1,x,acc,hr,h,hl=>by
  show vw_path_L1 (mpo L) k2 (loopK (vw_path_L1 (mpo L) k2) n) _ = _
  have hx : (nd L x).ID = x:=by
   obtain ⟨m,m1,m2,m3⟩:=reach_mem S hr
   rw [nd_look m1,m3]
  have hstep : vw_path_L1 (mpo L) k2 (loopK (vw_path_L1 (mpo L) k2) n) (pst acc (nd L x) true) = loopK (vw_path_L1 (mpo L) k2) n (pst (acc ++ [x]) (nd L (up L x)) (look L (up L x)).isSome):=by
   generalize loopK (vw_path_L1 (mpo L) k2) n = again
   unfold vw_path_L1 pst
   simp only [sel_true]
   rw [hx,appO_eq (by simp;omega),bind_some',mpo_getO,bind_some']
   rfl
  rw [hstep]
  cases d with
  | zero =>
   have hx0:=reach_zero hr
   subst hx0
   rw [up_root S,look_zero S]
   obtain ⟨n,rfl⟩ : ∃ m,n = m + 1:=⟨n - 1,by omega⟩
   show vw_path_L1 (mpo L) k2 (loopK (vw_path_L1 (mpo L) k2) n) _ = _
   generalize loopK (vw_path_L1 (mpo L) k2) n = again
   unfold vw_path_L1 pst
   simp only [Option.isSome_none,sel_false]
   rfl
  | succ d =>
   have hu:=(reach_up S hr).1
   obtain ⟨m,m1,_⟩:=reach_mem S hu
   rw [m1,Option.isSome_some,path_loop S h400 k2 d n _ _ hu (by omega) (by simp;omega)]
   congr 1
   show _ = acc ++ (pth L d (up L x) ++ [x]).reverse
   simp
theorem path_ok (S : Shp0 L root) (h400 : L.length ≤ 400) {d : Nat} {x : Int} (hr : Reach L root d x) : vw_path (mpo L) x = some (pth L d x):=by
 have hd:=reach_depth S hr
 obtain ⟨m,m1,_⟩:=reach_mem S hr
 unfold vw_path
 rw [jn_eq,mpo_getO,bind_some',m1]
 refine Eq.trans (path_loop S h400 _ d N0 x [] hr (by unfold N0;omega) (by simp;omega)) ?_
 rw [List.nil_append,reverse_ok (by rw [List.length_reverse,pth_len];omega),bind_some',List.reverse_reverse]
theorem path_none (x : Int) (h : look L x = none) : vw_path (mpo L) x = some []:=by
 unfold vw_path
 rw [jn_eq,mpo_getO,bind_some',h,loopK_first]
 generalize loopK (vw_path_L1 (mpo L) _) (N0 - 1) = again
 unfold vw_path_L1
 simp only [Option.isSome_none,sel_false]
 rfl
end
end Go.Proofs.YtcenpkkficeaaaaGreatDoor
end
section
namespace Go.Proofs.YtcenpkkficeaaaaGreatDoor
open Go Go.E2
def pvid (L : List Node) (i : Nat) : Int:=if i = 0 then 0 else match L[i - 1]? with
 | some n=>n.ID
 | none=>0
theorem pvid_suc {L : List Node} {i : Nat} {n : Node} (h : L[i]? = some n) : pvid L (i + 1) = n.ID:=by
 unfold pvid;rw [if_neg (by omega),Nat.add_sub_cancel,h]
def IncN (L : List Node) (next : Int) (m : Nat) : Prop:=∀ i n,i < m → L[i]? = some n → pvid L i < n.ID ∧ n.ID < next
theorem inc_pos {L : List Node} {next : Int} {m : Nat} (h : IncN L next m) : ∀ (i : Nat) (n : Node),i < m → L[i]? = some n → 0 < n.ID
 | 0,n,hi,hn=>(h 0 n hi hn).1
 | i + 1,n,hi,hn=>by
  have h1:=(h (i + 1) n hi hn).1
  obtain ⟨hl,_⟩:=List.getElem?_eq_some_iff.1 hn
  have hp : L[i]? = some L[i]:=List.getElem?_eq_getElem (by omega)
  rw [pvid_suc hp] at h1
  have:=inc_pos h i _ (by omega) hp
  omega
theorem inc_lt {L : List Node} {next : Int} {m : Nat} (h : IncN L next m) : ∀ (j i : Nat) (a b : Node),i < j → j < m → L[i]? = some a → L[j]? = some b → a.ID < b.ID
 | 0,i,a,b,hi,_,_,_=>by omega
 | j + 1,i,a,b,hi,hj,ha,hb=>by
  have h1:=(h (j + 1) b hj hb).1
  obtain ⟨hl,_⟩:=List.getElem?_eq_some_iff.1 hb
  have hp : L[j]? = some L[j]:=List.getElem?_eq_getElem (by omega)
  rw [pvid_suc hp] at h1
  rcases (by omega : i = j ∨ i < j) with e | e
  ·subst e;rw [hp] at ha;cases ha;exact h1
  ·have:=inc_lt h j i a _ e (by omega) ha hp
   omega
structure Shp (t : Tree) : Prop where
 lim : 2 ≤ t.Next ∧ t.Next ≤ 1099511627776 ∧ 1 ≤ t.Nodes.length ∧ t.Nodes.length ≤ 400
 inc : IncN t.Nodes t.Next t.Nodes.length
 par : ∀ n ∈ t.Nodes,n.Parent = 0 ↔ n.ID = t.Root
 rt : ∃ n,look t.Nodes t.Root = some n
 kid : ∀ n ∈ t.Nodes,∀ k ∈ n.Kids,∃ x,look t.Nodes k = some x ∧ x.Parent = n.ID
 nod : ∀ n ∈ t.Nodes,n.Kids.Nodup
 tot : (t.Nodes.flatMap (·.Kids)).length + 1 = t.Nodes.length
 whole : Whole t.Nodes t.Root
theorem inc_uniq {L : List Node} {next : Int} (h : IncN L next L.length) : (∀ n ∈ L,0 < n.ID) ∧ (ids L).Nodup:=by
 constructor
 ·intro n hn
  obtain ⟨i,hi,rfl⟩:=List.mem_iff_getElem.1 hn
  exact inc_pos h i _ hi (List.getElem?_eq_getElem hi)
 ·unfold ids
  rw [List.Nodup,List.pairwise_iff_getElem]
  intro i j hi hj hij
  simp only [List.length_map] at hi hj
  have:=inc_lt h j i _ _ hij hj (List.getElem?_eq_getElem hi) (List.getElem?_eq_getElem hj)
  simp only [List.getElem_map]
  omega
theorem Shp.to0 {t : Tree} (S : Shp t) : Shp0 t.Nodes t.Root:=⟨(inc_uniq S.inc).1,(inc_uniq S.inc).2,S.rt,S.par,S.kid,S.nod⟩
def tr (K : List Int) : List (Int × Bool):=K.map fun k=>(k,true)
theorem tr_get : ∀ (K : List Int) (k : Int),mgetO (tr K) k false = some (decide (k ∈ K),decide (k ∈ K))
 | [],k=>by simp [tr,mgetO,mget1]
 | a :: K,k=>by
  have h:=tr_get K k
  unfold mgetO at h ⊢
  have e0 : mget1 (tr (a :: K)) k = match k == a with
   | true=>some true
   | false=>mget1 (tr K) k:=rfl
  rw [e0]
  by_cases e : k = a
  ·subst e;simp
  ·rw [show (k == a) = false by simp [e]]
   simp only
   rw [h]
   simp [e]
theorem tr_set : ∀ (K : List Int) (k : Int),k ∉ K → msetL (tr K) k true = tr (K ++ [k])
 | [],_,_=>rfl
 | a :: K,k,h=>by
  have h1 : ¬ k = a:=fun e=>h (by simp [e])
  show (match k == a with | true=>(k,true) :: tr K | false=>(a,true) :: msetL (tr K) k true) = (a,true) :: tr (K ++ [k])
  rw [show (k == a) = false by simp [h1]]
  simp only
  rw [tr_set K k (fun e=>h (by simp [e]))]
theorem tr_len (K : List Int) : (tr K).length = K.length:=List.length_map ..
theorem flat_kids {L : List Node} {k : Int} {i : Nat} : k ∈ (L.take i).flatMap (·.Kids) → ∃ (j : Nat) (n : Node),j < i ∧ L[j]? = some n ∧ k ∈ n.Kids:=by
 intro h
 obtain ⟨n,n1,n2⟩:=List.mem_flatMap.1 h
 obtain ⟨j,hj,rfl⟩:=List.mem_iff_getElem.1 n1
 simp only [List.length_take] at hj
 refine ⟨j,(L.take i)[j],by omega,?_,n2⟩
 rw [List.getElem_take]
 exact List.getElem?_eq_getElem (by omega)
def GQ (t : Tree) (r : Option ((List (Int × Node)) × Bool)) : Prop:=∃ m b,r = some (m,b) ∧ (b = true ↔ Shp t) ∧ (b = true → m = mpo t.Nodes)
theorem GQ.bad {t : Tree} (h : ¬ Shp t) (m : List (Int × Node)) : GQ t (some (m,false)):=⟨m,false,rfl,⟨fun e=>Bool.noConfusion e,fun e=>absurd e h⟩,fun e=>Bool.noConfusion e⟩
structure Pre1 (t : Tree) : Prop where
 inc : IncN t.Nodes t.Next t.Nodes.length
 par : ∀ n ∈ t.Nodes,n.Parent = 0 ↔ n.ID = t.Root
 rt : ∃ n,look t.Nodes t.Root = some n
theorem kid_not_seen {t : Tree} (S : Pre1 t) {i : Nat} {n x : Node} {k : Int} (hn : t.Nodes[i]? = some n) (hk : look t.Nodes k = some x) (hp : x.Parent = n.ID)
  (hkid : ∀ j m,j < i → t.Nodes[j]? = some m → ∀ k ∈ m.Kids,∃ x,look t.Nodes k = some x ∧ x.Parent = m.ID) : k ≠ t.Root ∧ k ∉ (t.Nodes.take i).flatMap (·.Kids):=by
 have hl:=(List.getElem?_eq_some_iff.1 hn).1
 have hpos:=inc_pos S.inc i n hl hn
 constructor
 ·intro e
  subst e
  have h1:=look_mem hk
  have:=(S.par x h1.1).2 h1.2
  omega
 ·intro e
  obtain ⟨j,m,j1,j2,j3⟩:=flat_kids e
  obtain ⟨y,y1,y2⟩:=hkid j m j1 j2 k j3
  rw [hk] at y1;cases y1
  have:=inc_lt S.inc i j m n j1 hl j2 hn
  omega
theorem graph_L1_ok {t : Tree} (S : Pre1 t) {i : Nat} {n : Node} (hn : t.Nodes[i]? = some n) (hK : n.Kids.length ≤ 1000000)
  (hkid : ∀ j m,j < i → t.Nodes[j]? = some m → ∀ k ∈ m.Kids,∃ x,look t.Nodes k = some x ∧ x.Parent = m.ID)
  (k17 : List (Int × Bool) → Option ((List (Int × Node)) × Bool)) (K0 : List Int) (hK0 : K0 = t.Root :: (t.Nodes.take i).flatMap (·.Kids)) :
  GQ t (loopK (vw_graph_L1 (mpo t.Nodes) n k17) N0 (0,tr K0)) ∨ (loopK (vw_graph_L1 (mpo t.Nodes) n k17) N0 (0,tr K0) = k17 (tr (K0 ++ n.Kids)) ∧ n.Kids.Nodup ∧ ∀ k ∈ n.Kids,∃ x,look t.Nodes k = some x ∧ x.Parent = n.ID):=by
 have hmem : n ∈ t.Nodes:=List.mem_of_getElem? hn
 refine loopI (L:=n.Kids) (fun (s : List (Int × Bool)) j=>((j : Int),s)) (fun j s=>s = tr (K0 ++ n.Kids.take j) ∧ (n.Kids.take j).Nodup ∧ ∀ k ∈ n.Kids.take j,∃ x,look t.Nodes k = some x ∧ x.Parent = n.ID)
  (fun r=>GQ t r ∨ (r = k17 (tr (K0 ++ n.Kids)) ∧ n.Kids.Nodup ∧ ∀ k ∈ n.Kids,∃ x,look t.Nodes k = some x ∧ x.Parent = n.ID)) (by unfold N0;omega) ?_ ?_ (tr K0) ⟨by simp,by simp,by simp⟩
 ·intro again s j k hk hj ⟨h1,h2,h3⟩
  have hkm : k ∈ n.Kids:=List.mem_of_getElem? hk
  unfold vw_graph_L1
  simp only [nz_lt hj,sel_true,idxO_nat,hk,bind_some',mpo_getO]
  cases hx : look t.Nodes k with
  | none =>
   simp only [Option.isSome_none,Bool.not_false,Bool.true_or,Bool.not_true,gO_false,bind_some',sel_true]
   refine .inl (.inl (GQ.bad (fun S'=>?_) _))
   obtain ⟨y,y1,_⟩:=S'.kid n hmem k hkm
   rw [hx] at y1;cases y1
  | some x =>
   rw [nd_look hx]
   simp only [Option.isSome_some,Bool.not_true,Bool.false_or]
   by_cases hp : x.Parent = n.ID
   ·rw [show (x.Parent != n.ID) = false by simp [hp]]
    simp only [Bool.not_false,gO_true,Bool.false_or]
    rw [h1,tr_get,bind_some']
    have hns:=kid_not_seen S hn hx hp hkid
    by_cases hd : k ∈ n.Kids.take j
    ·rw [show decide (k ∈ K0 ++ n.Kids.take j) = true by simp [hd],sel_true]
     refine .inl (.inl (GQ.bad (fun S'=>?_) _))
     have:=S'.nod n hmem
     rw [← List.take_append_drop j n.Kids,drop_cons' hk] at this
     exact (List.nodup_append.1 this).2.2 k hd k (by simp) rfl
    ·have hnk : k ∉ K0 ++ n.Kids.take j:=by
      intro e
      rcases List.mem_append.1 e with e | e
      ·rw [hK0] at e
       rcases List.mem_cons.1 e with e | e
       ·exact hns.1 e
       ·exact hns.2 e
      ·exact hd e
     rw [show decide (k ∈ K0 ++ n.Kids.take j) = false by simp [hnk],sel_false]
     refine .inr ⟨_,⟨rfl,?_,?_⟩,?_⟩
     ·rw [take_suc hk]
      refine List.nodup_append.2 ⟨h2,by simp,?_⟩
      intro a ha b hb e
      subst e
      rw [List.mem_singleton.1 hb] at ha
      exact hd ha
     ·intro k' hk'
      rw [take_suc hk] at hk'
      rcases List.mem_append.1 hk' with e | e
      ·exact h3 k' e
      ·rw [List.mem_singleton.1 e];exact ⟨x,hx,hp⟩
     ·rw [tr_set _ _ hnk,wrap_suc hj (by unfold N0;omega),take_suc hk,List.append_assoc]
   ·rw [show (x.Parent != n.ID) = true by simp [hp]]
    simp only [Bool.not_true,gO_false,bind_some',Bool.true_or,sel_true]
    refine .inl (.inl (GQ.bad (fun S'=>?_) _))
    obtain ⟨y,y1,y2⟩:=S'.kid n hmem k hkm
    rw [hx] at y1;cases y1
    exact hp y2
 ·intro again s ⟨h1,h2,h3⟩
  rw [List.take_length] at h1 h2 h3
  unfold vw_graph_L1
  simp only [nz_ge (Nat.le_refl _),sel_false]
  exact .inr ⟨by rw [h1],h2,h3⟩
theorem graph_L2_ok {t : Tree} (S : Pre1 t) (hl : t.Nodes.length ≤ 400) (hK : ∀ n ∈ t.Nodes,n.Kids.length ≤ 1000000) (k7 : List (Int × Bool) → Option ((List (Int × Node)) × Bool))
  (hk7 : (∀ n ∈ t.Nodes,n.Kids.Nodup) → (∀ n ∈ t.Nodes,∀ k ∈ n.Kids,∃ x,look t.Nodes k = some x ∧ x.Parent = n.ID) → GQ t (k7 (tr (t.Root :: t.Nodes.flatMap (·.Kids))))) :
  GQ t (loopK (vw_graph_L2 t (mpo t.Nodes) k7) N0 (0,tr [t.Root])):=by
 refine loopI (L:=t.Nodes) (fun (s : List (Int × Bool)) i=>((i : Int),s)) (fun i s=>s = tr (t.Root :: (t.Nodes.take i).flatMap (·.Kids)) ∧ (∀ j m,j < i → t.Nodes[j]? = some m → m.Kids.Nodup) ∧ ∀ j m,j < i → t.Nodes[j]? = some m → ∀ k ∈ m.Kids,∃ x,look t.Nodes k = some x ∧ x.Parent = m.ID)
  (GQ t) (by unfold N0;omega) ?_ ?_ (tr [t.Root]) ⟨by simp,fun j m hj=>by omega,fun j m hj=>by omega⟩
 ·intro again s i n hn hi ⟨h1,h2,h3⟩
  unfold vw_graph_L2
  simp only [nz_lt hi,selT',idxO_nat,hn,bindN,jnN]
  rw [h1]
  rcases graph_L1_ok S hn (hK n (List.mem_of_getElem? hn)) h3 (fun s16=>again (IntKind.i64.wrap ((i : Int) + 1),s16)) _ rfl with h | ⟨h4,h5,h6⟩
  ·exact .inl h
  ·refine .inr ⟨_,⟨rfl,?_,?_⟩,?_⟩
   ·intro j m hj hm
    rcases (by omega : j = i ∨ j < i) with e | e
    ·subst e;rw [hn] at hm;cases hm;exact h5
    ·exact h2 j m e hm
   ·intro j m hj hm
    rcases (by omega : j = i ∨ j < i) with e | e
    ·subst e;rw [hn] at hm;cases hm;exact h6
    ·exact h3 j m e hm
   ·refine h4.trans ?_
    rw [wrap_suc hi (by unfold N0;omega),take_suc hn]
    simp
 ·intro again s ⟨h1,h2,h3⟩
  unfold vw_graph_L2
  simp only [nz_ge (Nat.le_refl _),sel_false]
  rw [h1,List.take_length]
  refine hk7 (fun n hn=>?_) (fun n hn=>?_)
  ·obtain ⟨j,hj,rfl⟩:=List.mem_iff_getElem.1 hn
   exact h2 j _ hj (List.getElem?_eq_getElem hj)
  ·obtain ⟨j,hj,rfl⟩:=List.mem_iff_getElem.1 hn
   exact h3 j _ hj (List.getElem?_eq_getElem hj)
theorem graph_L3_ok {t : Tree} (hl : t.Nodes.length ≤ 400) (k3 : List (Int × Node) → Option ((List (Int × Node)) × Bool))
  (hk3 : IncN t.Nodes t.Next t.Nodes.length → (∀ n ∈ t.Nodes,n.Parent = 0 ↔ n.ID = t.Root) → GQ t (k3 (mpo t.Nodes))) :
  GQ t (loopK (vw_graph_L3 t k3) N0 (0,0,[])):=by
 refine loopI (L:=t.Nodes) (fun (s : Int × List (Int × Node)) i=>(s.1,(i : Int),s.2)) (fun i s=>s = (pvid t.Nodes i,mpo (t.Nodes.take i)) ∧ IncN t.Nodes t.Next i ∧ ∀ j m,j < i → t.Nodes[j]? = some m → (m.Parent = 0 ↔ m.ID = t.Root))
  (GQ t) (by unfold N0;omega) ?_ ?_ (0,[]) ⟨rfl,fun j m hj=>by omega,fun j m hj=>by omega⟩
 ·intro again s i n hn hi ⟨h1,h2,h3⟩
  subst h1
  unfold vw_graph_L3
  simp only [nz_lt hi,sel_true,idxO_nat,hn,bind_some']
  by_cases c1 : pvid t.Nodes i < n.ID ∧ n.ID < t.Next
  ·by_cases c2 : n.Parent = 0 ↔ n.ID = t.Root
   ·have e : (((decide (n.ID ≤ pvid t.Nodes i)) || (decide (n.ID ≥ t.Next))) || ((n.Parent == 0) != (n.ID == t.Root))) = false:=by
     rw [show (n.Parent == 0) = (n.ID == t.Root) from by rw [Bool.eq_iff_iff];simp only [beq_iff_eq];exact c2]
     simp;omega
    rw [e,sel_false]
    have hinc : IncN t.Nodes t.Next (i + 1):=by
     intro j m hj hm
     rcases (by omega : j = i ∨ j < i) with e | e
     ·subst e;rw [hn] at hm;cases hm;exact c1
     ·exact h2 j m e hm
    refine .inr ⟨(pvid t.Nodes (i + 1),mpo (t.Nodes.take (i + 1))),⟨rfl,hinc,?_⟩,?_⟩
    ·intro j m hj hm
     rcases (by omega : j = i ∨ j < i) with e | e
     ·subst e;rw [hn] at hm;cases hm;exact c2
     ·exact h3 j m e hm
    ·rw [pvid_suc hn,wrap_suc hi (by unfold N0;omega),mpo_set,take_suc hn]
     intro hmem
     obtain ⟨m,m1,m2⟩:=List.mem_map.1 hmem
     obtain ⟨j,hj,rfl⟩:=List.mem_iff_getElem.1 m1
     simp only [List.length_take] at hj
     rw [List.getElem_take] at m2
     have:=inc_lt hinc i j _ n (by omega) (by omega) (List.getElem?_eq_getElem (by omega)) hn
     omega
   ·have e : ((n.Parent == 0) != (n.ID == t.Root)) = true:=by
     by_cases c3 : n.Parent = 0
     ·have : ¬ n.ID = t.Root:=fun e=>c2 ⟨fun _=>e,fun _=>c3⟩
      simp [c3,this]
     ·have : n.ID = t.Root:=Classical.byContradiction fun e=>c2 ⟨fun h=>absurd h c3,fun h=>absurd h e⟩
      simp [c3,this]
    rw [e,Bool.or_true,sel_true]
    exact .inl (GQ.bad (fun S=>c2 (S.par n (List.mem_of_getElem? hn))) _)
  ·have e : ((decide (n.ID ≤ pvid t.Nodes i)) || (decide (n.ID ≥ t.Next))) = true:=by simp;omega
   rw [e,Bool.true_or,sel_true]
   exact .inl (GQ.bad (fun S=>c1 (S.inc i n hi hn)) _)
 ·intro again s ⟨h1,h2,h3⟩
  subst h1
  unfold vw_graph_L3
  simp only [nz_ge (Nat.le_refl _),sel_false]
  rw [List.take_length]
  refine hk3 h2 (fun n hn=>?_)
  obtain ⟨j,hj,rfl⟩:=List.mem_iff_getElem.1 hn
  exact h3 j _ hj (List.getElem?_eq_getElem hj)
theorem graph_ok (t : Tree) (hK : ∀ n ∈ t.Nodes,n.Kids.length ≤ 1000000) : GQ t (vw_graph t):=by
 unfold vw_graph
 by_cases c0 : 2 ≤ t.Next ∧ t.Next ≤ 1099511627776 ∧ 1 ≤ t.Nodes.length ∧ t.Nodes.length ≤ 400
 ·have e : ((((decide (t.Next < 2)) || (decide (t.Next > 1099511627776))) || (decide ((t.Nodes.length : Int) < 1))) || (decide ((t.Nodes.length : Int) > 400))) = false:=by simp;omega
  rw [e,sel_false,jn_eq]
  refine graph_L3_ok c0.2.2.2 _ (fun hinc hpar=>?_)
  simp only [mpo_getO,bind_some']
  cases hr : look t.Nodes t.Root with
  | none =>
   simp only [Option.isSome_none,Bool.not_false,sel_true]
   refine GQ.bad (fun S=>?_) _
   obtain ⟨n,hn⟩:=S.rt
   rw [hr] at hn;cases hn
  | some r =>
   simp only [Option.isSome_some,Bool.not_true,sel_false,jn_eq]
   have S : Pre1 t:=⟨hinc,hpar,r,hr⟩
   refine graph_L2_ok S c0.2.2.2 hK _ (fun hnod hkid=>?_)
   rw [tr_len,mpo_len,List.length_cons]
   have S0 : Shp0 t.Nodes t.Root:=⟨(inc_uniq hinc).1,(inc_uniq hinc).2,⟨r,hr⟩,hpar,hkid,hnod⟩
   by_cases ct : (t.Nodes.flatMap (·.Kids)).length + 1 = t.Nodes.length
   ·rw [show ((((t.Nodes.flatMap (·.Kids)).length + 1 : Nat) : Int) != (t.Nodes.length : Int)) = false by rw [bne_eq_false_iff_eq];omega,sel_false]
    rw [preorder_ok S0 c0.2.2.2 t.Nodes.length N0 0 t.Root Reach.z (by omega) (by unfold N0;omega),bind_some']
    refine ⟨_,_,rfl,?_,fun _=>rfl⟩
    simp only [beq_iff_eq]
    constructor
    ·intro h
     exact ⟨c0,hinc,hpar,⟨r,hr⟩,hkid,hnod,ct,by unfold Whole;omega⟩
    ·intro S'
     have:=S'.whole
     unfold Whole at this
     rw [this]
   ·rw [show ((((t.Nodes.flatMap (·.Kids)).length + 1 : Nat) : Int) != (t.Nodes.length : Int)) = true by rw [bne_iff_ne];omega,sel_true]
    exact GQ.bad (fun S'=>ct S'.tot) _
 ·have e : ((((decide (t.Next < 2)) || (decide (t.Next > 1099511627776))) || (decide ((t.Nodes.length : Int) < 1))) || (decide ((t.Nodes.length : Int) > 400))) = true:=by
   simp only [Bool.or_eq_true,decide_eq_true_eq];omega
  rw [e,sel_true]
  exact GQ.bad (fun S=>c0 S.lim) _
end Go.Proofs.YtcenpkkficeaaaaGreatDoor
end
section
namespace Go.Proofs.YtcenpkkficeaaaaGreatDoor
open Go Go.E2
theorem sidx_ok {s : Str} {i : Nat} (h : i < s.size) : ∃ b : Int,sidxO s (i : Int) = some b:=by
 obtain ⟨b,_,_,hb⟩:=sidx_bl h
 exact ⟨b,hb⟩
def byt (s : Str) (i : Nat) : Int:=match sidxO s (i : Int) with
 | some b=>b
 | none=>0
theorem byt_eq {s : Str} {i : Nat} (h : i < s.size) : sidxO s (i : Int) = some (byt s i):=by
 obtain ⟨b,hb⟩:=sidx_ok h
 unfold byt;rw [hb]
def ltr (c : Int) : Bool:=((decide (c ≥ 97)) && (decide (c ≤ 122))) || ((decide (c ≥ 65)) && (decide (c ≤ 90)))
def nch (c : Int) : Bool:=ltr c || (decide (48 ≤ c) && decide (c ≤ 57)) || c == 45 || c == 95
def namE (s : Str) : Bool:=decide (1 ≤ s.size ∧ s.size ≤ 24 ∧ ltr (byt s 0) = true ∧ ∀ i,i < s.size → nch (byt s i) = true)
theorem nch_ltr {c : Int} (h : ltr c = true) : nch c = true:=by unfold nch;rw [h];rfl
theorem exName_eq (s : Str) : ex_Name s = some (namE s):=by
 unfold ex_Name
 by_cases h0 : 1 ≤ s.size ∧ s.size ≤ 24
 ·rw [show (((s.size : Int) == 0) || (decide ((s.size : Int) > 24))) = false by rw [Bool.or_eq_false_iff,beq_eq_false_iff_ne,decide_eq_false_iff_not];omega,sel_false,jn_eq]
  refine loopN (n:=s.size) (fun (_ : Unit) i=>(i : Int)) (fun i _=>∀ j,j < i → nch (byt s j) = true ∧ (j = 0 → ltr (byt s j) = true)) (fun r=>r = some (namE s)) (by unfold N0;omega) ?_ ?_ () (fun j hj=>by omega)
  ·intro again _ i hi hp
   unfold ex_Name_L1
   rw [nz_lt hi,sel_true,byt_eq hi,bind_some',wrap_suc hi (by unfold N0;omega)]
   by_cases hg : nch (byt s i) = true ∧ (i = 0 → ltr (byt s i) = true)
   ·refine .inr ⟨(),fun j hj=>?_,?_⟩
    ·rcases (by omega : j = i ∨ j < i) with e | e
     ·subst e;exact hg
     ·exact hp j e
    ·refine sel_f ?_ _ _
     show ((!(ltr (byt s i))) && (((i : Int) == 0) || ((((decide (byt s i < 48)) || (decide (byt s i > 57))) && (byt s i != 45)) && (byt s i != 95)))) = false
     obtain ⟨g1,g2⟩:=hg
     cases hl : ltr (byt s i) with
     | true=>rfl
     | false =>
      rw [hl] at g2
      have h0 : ¬ i = 0:=fun e=>Bool.noConfusion (g2 e)
      unfold nch at g1
      rw [hl] at g1
      simp only [Bool.not_false,Bool.true_and,Bool.or_eq_false_iff,Bool.and_eq_false_iff,beq_eq_false_iff_ne,bne_eq_false_iff_eq,decide_eq_false_iff_not]
      simp only [Bool.false_or,Bool.or_eq_true,Bool.and_eq_true,decide_eq_true_eq,beq_iff_eq] at g1
      omega
   ·refine .inl ?_
    rw [show namE s = false from decide_eq_false (fun h=>hg ⟨h.2.2.2 i hi,fun e=>by subst e;exact h.2.2.1⟩)]
    refine sel_t ?_ _ _
    show ((!(ltr (byt s i))) && (((i : Int) == 0) || ((((decide (byt s i < 48)) || (decide (byt s i > 57))) && (byt s i != 45)) && (byt s i != 95)))) = true
    cases hl : ltr (byt s i) with
    | true=>exact absurd ⟨nch_ltr hl,fun _=>hl⟩ hg
    | false =>
     by_cases h0 : i = 0
     ·subst h0;rfl
     ·have g1 : ¬ nch (byt s i) = true:=fun h=>hg ⟨h,fun e=>absurd e h0⟩
      unfold nch at g1
      rw [hl] at g1
      simp only [Bool.not_false,Bool.true_and,Bool.or_eq_true,Bool.and_eq_true,beq_iff_eq,bne_iff_ne,decide_eq_true_eq]
      simp only [Bool.false_or,Bool.or_eq_true,Bool.and_eq_true,decide_eq_true_eq,beq_iff_eq] at g1
      omega
  ·intro again _ hp
   unfold ex_Name_L1
   rw [nz_ge (Nat.le_refl _),sel_false]
   rw [show namE s = true from decide_eq_true ⟨h0.1,h0.2,(hp 0 (by omega)).2 rfl,fun i hi=>(hp i hi).1⟩]
 ·rw [show (((s.size : Int) == 0) || (decide ((s.size : Int) > 24))) = true by simp only [Bool.or_eq_true,beq_iff_eq,decide_eq_true_eq];omega,sel_true]
  rw [show namE s = false from decide_eq_false (fun h=>h0 ⟨h.1,h.2.1⟩)]
theorem rName_eq (s : Str) : r11_Name s = some (namE s):=by
 unfold r11_Name r11_letter
 by_cases h0 : 1 ≤ s.size ∧ s.size ≤ 24
 ·rw [show ((decide ((s.size : Int) < 1)) || (decide ((s.size : Int) > 24))) = false by simp;omega]
  have hb : sidxO s 0 = some (byt s 0):=byt_eq (i:=0) (by omega)
  rw [Bool.not_false,gO_true,hb,bind_some',gO_true,bind_some',Bool.false_or]
  show sel (!(ltr (byt s 0))) _ _ = _
  cases hl : ltr (byt s 0) with
  | false =>
   rw [Bool.not_false,sel_true,show namE s = false from decide_eq_false (fun h=>by rw [hl] at h;exact Bool.noConfusion h.2.2.1)]
  | true =>
   rw [Bool.not_true,sel_false,jn_eq]
   refine loopNF (n:=s.size) (fun (_ : Unit) i=>(i : Int)) (fun i _=>∀ j,j < i → nch (byt s j) = true) (fun r=>r = some (namE s)) ?_ ?_ N0 1 () (by omega) (by unfold N0;omega) (fun j hj=>by rw [show j = 0 by omega];exact nch_ltr hl)
   ·intro again _ i hi hp
    unfold r11_Name_L1 r11_letter
    rw [nz_lt hi,sel_true,byt_eq hi,bind_some',bind_some',wrap_suc hi (by unfold N0;omega)]
    have key : ∀ (F : Int → Int → Int → Int → Option Bool),((gO (!(ltr (byt s i))) (some (byt s i))).bind fun x11=>(gO ((!(ltr (byt s i))) && !(decide (x11 < 48))) (some (byt s i))).bind fun x12=>(gO ((!(ltr (byt s i))) && ((decide (x11 < 48)) || (decide (x12 > 57)))) (some (byt s i))).bind fun x13=>(gO (((!(ltr (byt s i))) && ((decide (x11 < 48)) || (decide (x12 > 57)))) && (x13 != 45)) (some (byt s i))).bind fun x14=>F x11 x12 x13 x14) = F (if ltr (byt s i) then default else byt s i) (if ltr (byt s i) then default else if byt s i < 48 then default else byt s i) (if ltr (byt s i) then default else if byt s i < 48 ∨ byt s i > 57 then byt s i else default) (if ltr (byt s i) then default else if (byt s i < 48 ∨ byt s i > 57) ∧ byt s i ≠ 45 then byt s i else default):=by
     intro F
     cases hl2 : ltr (byt s i) with
     | true=>simp
     | false =>
      by_cases c1 : byt s i < 48
      ·by_cases c3 : byt s i = 45
       ·simp [c3]
       ·have c3' : (byt s i != 45) = true:=by simp [c3]
        simp [c1,c3,c3']
      ·by_cases c2 : byt s i > 57
       ·by_cases c3 : byt s i = 45
        ·simp [c3]
        ·have c3' : (byt s i != 45) = true:=by simp [c3]
         simp [c1,c2,c3,c3']
       ·simp [c1,c2]
    by_cases hg : nch (byt s i) = true
    ·refine .inr ⟨(),fun j hj=>?_,?_⟩
     ·rcases (by omega : j = i ∨ j < i) with e | e
      ·subst e;exact hg
      ·exact hp j e
     ·refine (key _).trans (sel_f ?_ _ _)
      show ((((!(ltr (byt s i))) && _) && _) && _) = false
      cases hl2 : ltr (byt s i) with
      | true=>rfl
      | false =>
       unfold nch at hg
       rw [hl2] at hg
       simp only [Bool.false_or,Bool.or_eq_true,Bool.and_eq_true,decide_eq_true_eq,beq_iff_eq] at hg
       by_cases c1 : byt s i < 48
       ·by_cases c3 : byt s i = 45
        ·simp [c3]
        ·omega
       ·by_cases c2 : byt s i > 57
        ·have : byt s i = 95:=by omega
         simp [this]
        ·simp [c1,c2]
    ·refine .inl ?_
     rw [show namE s = false from decide_eq_false (fun h=>hg (h.2.2.2 i hi))]
     refine (key _).trans (sel_t ?_ _ _)
     show ((((!(ltr (byt s i))) && _) && _) && _) = true
     cases hl2 : ltr (byt s i) with
     | true=>exact absurd (nch_ltr hl2) hg
     | false =>
      unfold nch at hg
      rw [hl2] at hg
      simp only [Bool.false_or,Bool.or_eq_true,Bool.and_eq_true,decide_eq_true_eq,beq_iff_eq] at hg
      have c3 : ¬ byt s i = 45:=by omega
      have c4 : ¬ byt s i = 95:=by omega
      by_cases c1 : byt s i < 48
      ·simp [c1,c3,c4]
      ·have c2 : byt s i > 57:=by omega
       simp [c1,c2,c3,c4]
   ·intro again _ hp
    unfold r11_Name_L1
    rw [nz_ge (Nat.le_refl _),sel_false]
    rw [show namE s = true from decide_eq_true ⟨h0.1,h0.2,hl,fun i hi=>hp i hi⟩]
 ·rw [show ((decide ((s.size : Int) < 1)) || (decide ((s.size : Int) > 24))) = true by simp only [Bool.or_eq_true,decide_eq_true_eq];omega]
  rw [show namE s = false from decide_eq_false (fun h=>h0 ⟨h.1,h.2.1⟩)]
  rfl
end Go.Proofs.YtcenpkkficeaaaaGreatDoor
end
section
namespace Go.Proofs.YtcenpkkficeaaaaGreatDoor
open Go Go.E2
def keyE (s : Str) : Bool:=decide (s.size ≤ 24 ∧ ∀ i,i < s.size → nch (byt s i) = true)
theorem nch_not (c : Int) : ((((((decide (c < 97)) || (decide (c > 122))) && ((decide (c < 65)) || (decide (c > 90)))) && ((decide (c < 48)) || (decide (c > 57)))) && (c != 45)) && (c != 95)) = !(nch c):=by
 rw [Bool.eq_iff_iff]
 unfold nch ltr
 simp only [Bool.not_eq_true',Bool.or_eq_true,Bool.and_eq_true,Bool.or_eq_false_iff,Bool.and_eq_false_iff,decide_eq_true_eq,decide_eq_false_iff_not,beq_eq_false_iff_ne,bne_iff_ne]
 omega
theorem key_ok {s : Str} (h : s.size < N0) : vw_Key s = some (keyE s):=by
 unfold vw_Key
 rw [jn_eq]
 refine loopN (n:=s.size) (fun (_ : Unit) i=>(i : Int)) (fun i _=>∀ j,j < i → nch (byt s j) = true) (fun r=>r = some (keyE s)) h ?_ ?_ () (fun j hj=>by omega)
 ·intro again _ i hi hp
  unfold vw_Key_L1
  rw [nz_lt hi,sel_true,byt_eq hi,bind_some',wrap_suc hi h,nch_not]
  cases hg : nch (byt s i) with
  | true =>
   refine .inr ⟨(),fun j hj=>?_,rfl⟩
   rcases (by omega : j = i ∨ j < i) with e | e
   ·subst e;exact hg
   ·exact hp j e
  | false =>
   refine .inl ?_
   rw [show keyE s = false from decide_eq_false (fun h=>by have:=h.2 i hi;rw [hg] at this;cases this)]
   rfl
 ·intro again _ hp
  unfold vw_Key_L1
  rw [nz_ge (Nat.le_refl _),sel_false]
  show some (decide ((s.size : Int) ≤ 24)) = some (decide (s.size ≤ 24 ∧ ∀ i,i < s.size → nch (byt s i) = true))
  rw [Option.some.injEq,decide_eq_decide]
  exact ⟨fun h=>⟨by omega,hp⟩,fun h=>by omega⟩
theorem rkey_ok {s : Str} (h : s.size < N0) : r14_Key s = some (keyE s):=by
 unfold r14_Key
 rw [show r13_Key s = vw_Key s from rfl,key_ok h];rfl
def chE (v : AValue) : Int:=match ex_Check v with
 | some e=>e
 | none=>0
theorem chE_x (v : AValue) : ex_Check v = some (chE v):=by
 obtain ⟨e,h,_⟩:=Check_eq v
 unfold chE;rw [h]
theorem chE_r (v : AValue) : r11_Check v = some (chE v):=by
 obtain ⟨e,h,h'⟩:=Check_eq v
 unfold chE;rw [h,h']
def prv {α : Type} (l : List α) (i : Nat) : Option α:=if i = 0 then none else l[i - 1]?
theorem prv_suc {α : Type} {l : List α} {i : Nat} {x : α} (h : l[i]? = some x) : prv l (i + 1) = some x:=by
 unfold prv;rw [if_neg (by omega),Nat.add_sub_cancel,h]
def nle (o : Option Str) (s : Str) : Bool:=match o with
 | none=>false
 | some t=>!(Op.bytesLess t.toList s.toList)
def atF : Option Attr → List Attr → Int
 | _,[]=>0
 | p,a :: r=>if namE a.Name = false then 4 else if nle (p.map (·.Name)) a.Name = true then 10 else if chE a.Value ≠ 0 then chE a.Value else atF (some a) r
def vaF : List AValue → Int
 | []=>0
 | v :: r=>if chE v ≠ 0 then chE v else vaF r
def acF : Option Action → List Action → Int
 | _,[]=>0
 | p,a :: r=>if (namE a.Event && namE a.Handler) = false then 4 else if nle (p.map (·.Event)) a.Event = true then 10 else if a.Instance.size > 400 ∨ a.Args.length > 100 then 2 else if vaF a.Args ≠ 0 then vaF a.Args else acF (some a) r
theorem atF_cons (p : Option Attr) (a : Attr) (r : List Attr) : atF p (a :: r) = if namE a.Name = false then 4 else if nle (p.map (·.Name)) a.Name = true then 10 else if chE a.Value ≠ 0 then chE a.Value else atF (some a) r:=rfl
theorem vaF_cons (v : AValue) (r : List AValue) : vaF (v :: r) = if chE v ≠ 0 then chE v else vaF r:=rfl
theorem acF_cons (p : Option Action) (a : Action) (r : List Action) : acF p (a :: r) = if (namE a.Event && namE a.Handler) = false then 4 else if nle (p.map (·.Event)) a.Event = true then 10 else if a.Instance.size > 400 ∨ a.Args.length > 100 then 2 else if vaF a.Args ≠ 0 then vaF a.Args else acF (some a) r:=rfl
theorem prv_at {α : Type} {l : List α} {i : Nat} (hi : i < l.length) (h0 : ¬ i = 0) : ∃ x,prv l i = some x ∧ idxO l (IntKind.i64.wrap ((i : Int) - 1)) = some x ∨ l.length ≥ N0:=by
 rcases Nat.lt_or_ge l.length N0 with h | h
 ·refine ⟨l[i - 1],.inl ⟨?_,?_⟩⟩
  ·unfold prv;rw [if_neg h0,List.getElem?_eq_getElem]
  ·unfold N0 at h
   rw [wrap_id (by omega) (by omega),show (i : Int) - 1 = ((i - 1 : Nat) : Int) by omega,idxO_nat,List.getElem?_eq_getElem]
 ·exact ⟨l[i],.inr h⟩
theorem prv_cmp {α R : Type} [Inhabited α] {l : List α} {i : Nat} (hi : i < l.length) (hn : l.length < N0) (nm : α → Str) (s : Str) (A B : Option R) :
  ((gO (decide ((i : Int) > 0)) (idxO l (IntKind.i64.wrap ((i : Int) - 1)))).bind fun x9=>sel ((decide ((i : Int) > 0)) && (!(Op.bytesLess (nm x9).toList s.toList))) A B) = sel (nle ((prv l i).map nm) s) A B:=by
 by_cases h0 : i = 0
 ·subst h0;rfl
 ·rw [show decide ((i : Int) > 0) = true from decide_eq_true (by omega),gO_true]
  obtain ⟨x,⟨h1,h2⟩ | h⟩:=prv_at hi h0
  ·rw [h1,h2];rfl
  ·omega
theorem attributes_ok {l : List Attr} (hn : l.length < N0) : vw_attributes l = some (atF none l):=by
 unfold vw_attributes
 rw [jn_eq]
 refine loopI (L:=l) (fun (_ : Unit) i=>(i : Int)) (fun i _=>atF none l = atF (prv l i) (l.drop i)) (fun r=>r = some (atF none l)) hn ?_ ?_ () rfl
 ·intro again _ i a ha hi hp
  rw [drop_cons' ha] at hp
  unfold vw_attributes_L1
  rw [nz_lt hi,sel_true,idxO_nat,ha,bind_some',exName_eq,bind_some',wrap_suc hi hn]
  rw [atF_cons] at hp
  cases hb : namE a.Name with
  | false=>rw [if_pos hb] at hp;rw [hp];exact .inl rfl
  | true =>
   rw [if_neg (by rw [hb];exact Bool.noConfusion)] at hp
   rw [Bool.not_true,sel_false,prv_cmp hi hn Attr.Name a.Name]
   cases hc : nle ((prv l i).map Attr.Name) a.Name with
   | true=>rw [if_pos hc] at hp;rw [hp];exact .inl rfl
   | false =>
    rw [if_neg (by rw [hc];exact Bool.noConfusion)] at hp
    rw [sel_false,chE_x,bind_some']
    by_cases he : chE a.Value = 0
    ·rw [if_neg (by simp [he])] at hp
     rw [show (chE a.Value != 0) = false by simp [he],sel_false]
     exact .inr ⟨(),by rw [prv_suc ha];exact hp,rfl⟩
    ·rw [if_pos he] at hp
     rw [show (chE a.Value != 0) = true by simp [he],sel_true,hp]
     exact .inl rfl
 ·intro again _ hp
  rw [List.drop_length] at hp
  unfold vw_attributes_L1
  rw [nz_ge (Nat.le_refl _),sel_false,hp]
  unfold atF;rfl
theorem values_ok {a : Action} (hn : a.Args.length < N0) (k16 : Unit → Option Int) : loopK (vw_actions_L1 a k16) N0 0 = if vaF a.Args = 0 then k16 () else some (vaF a.Args):=by
 refine loopI (L:=a.Args) (fun (_ : Unit) i=>(i : Int)) (fun i _=>vaF a.Args = vaF (a.Args.drop i)) (fun r=>r = if vaF a.Args = 0 then k16 () else some (vaF a.Args)) hn ?_ ?_ () rfl
 ·intro again _ i v hv hi hp
  rw [drop_cons' hv] at hp
  unfold vw_actions_L1
  rw [nz_lt hi,sel_true,idxO_nat,hv,bind_some',chE_x,bind_some',wrap_suc hi hn]
  rw [vaF_cons] at hp
  by_cases he : chE v = 0
  ·rw [if_neg (by simp [he])] at hp
   rw [show (chE v != 0) = false by simp [he],sel_false]
   exact .inr ⟨(),hp,rfl⟩
  ·rw [if_pos he] at hp
   rw [show (chE v != 0) = true by simp [he],sel_true,hp,if_neg he]
   exact .inl rfl
 ·intro again _ hp
  rw [List.drop_length] at hp
  unfold vw_actions_L1
  rw [nz_ge (Nat.le_refl _),sel_false,hp]
  unfold vaF;rfl
theorem actions_ok {l : List Action} (hn : l.length < N0) : vw_actions l = some (acF none l) := by
  unfold vw_actions
  rw [jn_eq]
  refine loopI (L := l) (fun (_ : Unit) i => (i : Int)) (fun i _ => acF none l = acF (prv l i) (l.drop i)) (fun r => r = some (acF none l)) hn ?_ ?_ () rfl
  · intro again _ i a ha hi hp
    rw [drop_cons' ha] at hp
    unfold vw_actions_L2
    rw [nz_lt hi, sel_true, jn_eq, idxO_nat, ha, bind_some', exName_eq, bind_some', exName_eq, wrap_suc hi hn]
    rw [acF_cons] at hp
    have e : (gO (!(!(namE a.Event))) (some (namE a.Handler))).bind (fun x10 => sel ((!(namE a.Event)) || (!x10)) (some (4 : Int)) ((gO (decide ((i : Int) > 0)) (idxO l (IntKind.i64.wrap ((i : Int) - 1)))).bind fun x12 => sel ((decide ((i : Int) > 0)) && (!(Op.bytesLess x12.Event.toList a.Event.toList))) (some 10) (sel ((decide ((a.Instance.size : Int) > 400)) || (decide ((a.Args.length : Int) > 100))) (some 2) (jn (fun (_s15 : Unit) => again ((i + 1 : Nat) : Int)) fun k16 => loopK (vw_actions_L1 a k16) N0 0)))) =
        sel (!(namE a.Event && namE a.Handler)) (some 4) (sel (nle ((prv l i).map Action.Event) a.Event) (some 10) (sel ((decide ((a.Instance.size : Int) > 400)) || (decide ((a.Args.length : Int) > 100))) (some 2) (jn (fun (_s15 : Unit) => again ((i + 1 : Nat) : Int)) fun k16 => loopK (vw_actions_L1 a k16) N0 0))) := by
      rw [← prv_cmp hi hn Action.Event a.Event]
      cases namE a.Event <;> cases namE a.Handler <;> rfl
    rw [e]
    cases hb : (namE a.Event && namE a.Handler) with
    | false => rw [if_pos hb] at hp; rw [hp]; exact .inl rfl
    | true =>
      rw [if_neg (by rw [hb]; exact Bool.noConfusion)] at hp
      rw [Bool.not_true, sel_false]
      cases hc : nle ((prv l i).map Action.Event) a.Event with
      | true => rw [if_pos hc] at hp; rw [hp]; exact .inl rfl
      | false =>
        rw [if_neg (by rw [hc]; exact Bool.noConfusion)] at hp
        rw [sel_false]
        by_cases hd : a.Instance.size > 400 ∨ a.Args.length > 100
        · rw [if_pos hd] at hp
          rw [show ((decide ((a.Instance.size : Int) > 400)) || (decide ((a.Args.length : Int) > 100))) = true by simp only [Bool.or_eq_true, decide_eq_true_eq]; omega, hp]
          exact .inl rfl
        · rw [if_neg hd] at hp
          rw [show ((decide ((a.Instance.size : Int) > 400)) || (decide ((a.Args.length : Int) > 100))) = false by simp only [Bool.or_eq_false_iff, decide_eq_false_iff_not]; omega, sel_false, jn_eq, values_ok (by unfold N0; omega)]
          by_cases he : vaF a.Args = 0
          · rw [if_neg (by simp [he])] at hp
            rw [if_pos he]
            exact .inr ⟨(), by rw [prv_suc ha]; exact hp, rfl⟩
          · rw [if_pos he] at hp
            rw [if_neg he, hp]
            exact .inl rfl
  · intro again _ hp
    rw [List.drop_length] at hp
    unfold vw_actions_L2
    rw [nz_ge (Nat.le_refl _), sel_false, hp]
    unfold acF; rfl
def dupF : List Str → List View → Bool
 | _,[]=>false
 | seen,k :: r=>if k.Key ≠ ByteArray.mk #[] ∧ k.Key ∈ seen then true else dupF (seen ++ [k.Key]) r
theorem dupF_cons (seen : List Str) (k : View) (r : List View) : dupF seen (k :: r) = if k.Key ≠ ByteArray.mk #[] ∧ k.Key ∈ seen then true else dupF (seen ++ [k.Key]) r:=rfl
theorem mget1_set {K V : Type} [BEq K] [LawfulBEq K] : ∀ (m : List (K × V)) (k k' : K) (v : V),mget1 (msetL m k v) k' = match k' == k with
  | true=>some v
  | false=>mget1 m k'
 | [],k,k',v=>rfl
 | (a,u) :: m,k,k',v=>by
  unfold msetL
  cases h : k == a with
  | true =>
   obtain rfl:=eq_of_beq h
   show (match k' == k with | true=>some v | false=>mget1 m k') = match k' == k with | true=>some v | false=>(match k' == k with | true=>some u | false=>mget1 m k')
   cases k' == k <;> rfl
  | false =>
   show (match k' == a with | true=>some u | false=>mget1 (msetL m k v) k') = match k' == k with | true=>some v | false=>(match k' == a with | true=>some u | false=>mget1 m k')
   rw [mget1_set m k k' v]
   cases h1 : k' == a with
   | true =>
    obtain rfl:=eq_of_beq h1
    have : (k' == k) = false:=by
     rw [Bool.eq_false_iff] at h ⊢
     exact fun e=>h (by rw [eq_of_beq e];exact beq_self_eq_true _)
    rw [this]
   | false=>rfl
theorem kd_loop {R : Type} {v : View} (h100 : v.Kids.length ≤ 100) (bad : Option R) (k12 : Unit → Option R) (B : ((Int × List (Str × Bool)) → Option R) → (Int × List (Str × Bool)) → Option R)
  (hB : B = fun again22 s21=>sel (decide (s21.1 < (v.Kids.length : Int))) ((idxO v.Kids s21.1).bind fun x24=>(gO (!(x24.Key.toList == (ByteArray.mk #[]).toList)) (mgetO s21.2 x24.Key false)).bind fun x25=>sel ((!(x24.Key.toList == (ByteArray.mk #[]).toList)) && x25.1) bad (again22 (IntKind.i64.wrap (s21.1 + 1),msetL s21.2 x24.Key true))) (k12 ())) :
  loopK B N0 (0,([] : List (Str × Bool))) = if dupF [] v.Kids = true then bad else k12 ():=by
 refine loopI (L:=v.Kids) (fun (m : List (Str × Bool)) i=>((i : Int),m)) (fun i m=>dupF [] v.Kids = dupF ((v.Kids.take i).map (·.Key)) (v.Kids.drop i) ∧ ∀ k,mget1 m k = if k ∈ (v.Kids.take i).map (·.Key) then some true else none)
  (fun r=>r = if dupF [] v.Kids = true then bad else k12 ()) (by unfold N0;omega) ?_ ?_ [] ⟨rfl,fun k=>rfl⟩
 ·intro again m i x hx hi ⟨h1,h2⟩
  subst hB
  rw [drop_cons' hx] at h1
  rw [dupF_cons] at h1
  have e0 : ∀ (s : Str),(mgetO m s false) = some (decide (s ∈ (v.Kids.take i).map (·.Key)),decide (s ∈ (v.Kids.take i).map (·.Key))):=by
   intro s
   unfold mgetO
   rw [h2 s]
   by_cases h : s ∈ (v.Kids.take i).map (·.Key)
   ·rw [if_pos h,decide_eq_true h]
   ·rw [if_neg h,decide_eq_false h]
  simp only [nz_lt hi,selT',idxO_nat,hx,bindN,bs_eq,e0]
  rw [wrap_suc hi (by unfold N0;omega)]
  have e1 : ∀ (A B : Option R),((gO (!(decide (x.Key = ByteArray.mk #[]))) (some (decide (x.Key ∈ (v.Kids.take i).map (·.Key)),decide (x.Key ∈ (v.Kids.take i).map (·.Key))))).bind fun x25=>sel ((!(decide (x.Key = ByteArray.mk #[]))) && x25.1) A B) = if x.Key ≠ ByteArray.mk #[] ∧ x.Key ∈ (v.Kids.take i).map (·.Key) then A else B:=by
   intro A B
   by_cases c1 : x.Key = ByteArray.mk #[]
   ·rw [if_neg (by simp [c1]),decide_eq_true c1];rfl
   ·rw [decide_eq_false c1,Bool.not_false,gO_true,bind_some',Bool.true_and]
    by_cases c2 : x.Key ∈ (v.Kids.take i).map (·.Key)
    ·rw [if_pos ⟨c1,c2⟩,decide_eq_true c2];rfl
    ·rw [if_neg (fun h=>c2 h.2),decide_eq_false c2];rfl
  rw [e1]
  by_cases c : x.Key ≠ ByteArray.mk #[] ∧ x.Key ∈ (v.Kids.take i).map (·.Key)
  ·rw [if_pos c] at h1
   rw [if_pos c,if_pos h1]
   exact .inl rfl
  ·rw [if_neg c] at h1
   rw [if_neg c]
   refine .inr ⟨_,⟨?_,?_⟩,rfl⟩
   ·rw [h1,take_suc hx];simp
   ·intro k
    rw [mget1_set,h2 k,take_suc hx,List.map_append]
    by_cases e : k = x.Key
    ·subst e;simp
    ·rw [show (k == x.Key) = false by simp [e]]
     by_cases e2 : k ∈ (v.Kids.take i).map (·.Key)
     ·rw [if_pos e2,if_pos (List.mem_append_left _ e2)]
     ·rw [if_neg e2,if_neg (by
       intro h
       rcases List.mem_append.1 h with h | h
       ·exact e2 h
       ·simp at h;exact e h)]
 ·intro again m ⟨h1,h2⟩
  subst hB
  rw [List.drop_length] at h1
  simp only [nz_ge (Nat.le_refl _),selF']
  rw [h1]
  unfold dupF;rfl
def kdF (g : View → Int → Int × Int) : List View → Int → Int × Int
 | [],m=>(0,m)
 | k :: r,m=>if (g k m).1 ≠ 0 then g k m else kdF g r (g k m).2
def valB (g : View → Int → Int × Int) (v : View) (d m : Int) : Int × Int :=
 if d > 16 then (8,m + 1) else if m + 1 > 400 then (2,m + 1) else if v.Kind < 1 ∨ v.Kind > 13 then (9,m + 1) else if keyE v.Key = false then (4,m + 1)
 else if v.Attrs.length > 24 ∨ v.Actions.length > 24 ∨ v.Kids.length > 100 then (2,m + 1) else if atF none v.Attrs ≠ 0 then (atF none v.Attrs,m + 1) else if acF none v.Actions ≠ 0 then (acF none v.Actions,m + 1)
 else if dupF [] v.Kids = true then (6,m + 1) else kdF g v.Kids (m + 1)
def valF : Nat → View → Int → Int → Int × Int
 | 0,_,_,m=>(0,m)
 | f + 1,v,d,m=>valB (fun k m=>valF f k (d + 1) m) v d m
mutual
def View.sm : View → Prop
 | ⟨_,key,_,_,kids⟩=>key.size < N0 ∧ View.smL kids
def View.smL : List View → Prop
 | []=>True
 | x :: r=>View.sm x ∧ View.smL r
end
theorem View.smL_eq : ∀ l,View.smL l ↔ ∀ a ∈ l,View.sm a
 | []=>by unfold View.smL;simp
 | x :: r=>by unfold View.smL;rw [View.smL_eq r];simp
theorem View.sm_eq (v : View) : View.sm v ↔ v.Key.size < N0 ∧ ∀ a ∈ v.Kids,View.sm a:=by
 cases v
 conv=>lhs;unfold View.sm
 rw [View.smL_eq]
theorem kdF_cons (g : View → Int → Int × Int) (k : View) (r : List View) (m : Int) : kdF g (k :: r) m = if (g k m).1 ≠ 0 then g k m else kdF g r (g k m).2:=rfl
theorem vkids_ok {v : View} {d : Int} {se : View → Int → Int → Option (Int × Int)} {g : View → Int → Int × Int} (h100 : v.Kids.length ≤ 100) (hd : -100 ≤ d ∧ d ≤ 100)
  (hs : ∀ k ∈ v.Kids,∀ m,0 ≤ m → m ≤ 400 → se k (d + 1) m = some (g k m) ∧ ((g k m).1 = 0 → 0 ≤ (g k m).2 ∧ (g k m).2 ≤ 400)) {m : Int} (h0 : 0 ≤ m) (h1 : m ≤ 400) :
  loopK (vw_validate_L1 se v d fun s13=>some (0,s13)) N0 (0,m) = some (kdF g v.Kids m) ∧ ((kdF g v.Kids m).1 = 0 → 0 ≤ (kdF g v.Kids m).2 ∧ (kdF g v.Kids m).2 ≤ 400):=by
 refine loopI (L:=v.Kids) (fun (m : Int) i=>((i : Int),m)) (fun i m'=>kdF g v.Kids m = kdF g (v.Kids.drop i) m' ∧ 0 ≤ m' ∧ m' ≤ 400) (fun r=>r = some (kdF g v.Kids m) ∧ ((kdF g v.Kids m).1 = 0 → 0 ≤ (kdF g v.Kids m).2 ∧ (kdF g v.Kids m).2 ≤ 400)) (by unfold N0;omega) ?_ ?_ m ⟨rfl,h0,h1⟩
 ·intro again m' i k hk hi ⟨hp,hp0,hp1⟩
  rw [drop_cons' hk] at hp
  rw [kdF_cons] at hp
  obtain ⟨e1,e2⟩:=hs k (List.mem_of_getElem? hk) m' hp0 hp1
  unfold vw_validate_L1
  simp only
  rw [nz_lt hi,sel_true,idxO_nat,hk,bind_some',wrap_id (x:=d + 1) (by omega) (by omega),e1,bind_some',wrap_suc hi (by unfold N0;omega)]
  by_cases he : (g k m').1 = 0
  ·rw [if_neg (by simp [he])] at hp
   rw [show ((g k m').1 != 0) = false by simp [he],sel_false]
   exact .inr ⟨(g k m').2,⟨hp,e2 he⟩,rfl⟩
  ·rw [if_pos he] at hp
   rw [show ((g k m').1 != 0) = true by simp [he],sel_true,hp]
   exact .inl ⟨rfl,fun h=>absurd h he⟩
 ·intro again m' ⟨hp,hp0,hp1⟩
  rw [List.drop_length] at hp
  unfold vw_validate_L1
  simp only
  rw [nz_ge (Nat.le_refl _),sel_false,hp]
  exact ⟨rfl,fun _=>⟨hp0,hp1⟩⟩
theorem validate_ok : ∀ (f n : Nat) (v : View) (d m : Int),v.sm → 18 ≤ f + d → 1 ≤ d → d ≤ 17 → f ≤ n → 0 ≤ m → m ≤ 400 → vw_validate n v d m = some (valF f v d m) ∧ ((valF f v d m).1 = 0 → 0 ≤ (valF f v d m).2 ∧ (valF f v d m).2 ≤ 400)
 | 0,n,v,d,m,_,h,_,hd,_,_,_=>by omega
 | f + 1,0,v,d,m,_,_,_,_,h,_,_=>by omega
 | f + 1,n + 1,v,d,m,hv,hf,hd,hd7,hn,h0,h1=>by
  rw [View.sm_eq] at hv
  show vw_validate_B (vw_validate n) v d m = some (valB (fun k m=>valF f k (d + 1) m) v d m) ∧ ((valB (fun k m=>valF f k (d + 1) m) v d m).1 = 0 → _ ≤ (valB (fun k m=>valF f k (d + 1) m) v d m).2 ∧ (valB (fun k m=>valF f k (d + 1) m) v d m).2 ≤ 400)
  unfold vw_validate_B valB
  rw [wrap_id (x:=m + 1) (by omega) (by omega)]
  by_cases c1 : d > 16
  ·rw [if_pos c1,decide_eq_true c1];exact ⟨rfl,fun h=>by cases h⟩
  rw [if_neg c1,decide_eq_false c1,sel_false]
  by_cases c2 : m + 1 > 400
  ·rw [if_pos c2,decide_eq_true c2];exact ⟨rfl,fun h=>by cases h⟩
  rw [if_neg c2,decide_eq_false c2,sel_false]
  by_cases c3 : v.Kind < 1 ∨ v.Kind > 13
  ·rw [if_pos c3,show ((decide (v.Kind < 1)) || (decide (v.Kind > 13))) = true by simp only [Bool.or_eq_true,decide_eq_true_eq];exact c3];exact ⟨rfl,fun h=>by cases h⟩
  rw [if_neg c3,show ((decide (v.Kind < 1)) || (decide (v.Kind > 13))) = false by simp only [Bool.or_eq_false_iff,decide_eq_false_iff_not];omega,sel_false,key_ok hv.1,bind_some']
  cases c4 : keyE v.Key with
  | false=>rw [if_pos rfl];exact ⟨rfl,fun h=>by cases h⟩
  | true =>
   rw [if_neg (by exact Bool.noConfusion),Bool.not_true,sel_false]
   by_cases c5 : v.Attrs.length > 24 ∨ v.Actions.length > 24 ∨ v.Kids.length > 100
   ·rw [if_pos c5,show (((decide ((v.Attrs.length : Int) > 24)) || (decide ((v.Actions.length : Int) > 24))) || (decide ((v.Kids.length : Int) > 100))) = true by simp only [Bool.or_eq_true,decide_eq_true_eq];omega];exact ⟨rfl,fun h=>by cases h⟩
   rw [if_neg c5,show (((decide ((v.Attrs.length : Int) > 24)) || (decide ((v.Actions.length : Int) > 24))) || (decide ((v.Kids.length : Int) > 100))) = false by simp only [Bool.or_eq_false_iff,decide_eq_false_iff_not];omega,sel_false]
   rw [attributes_ok (by unfold N0;omega),bind_some']
   by_cases c6 : atF none v.Attrs = 0
   ·rw [if_neg (by simp [c6]),show (atF none v.Attrs != 0) = false by simp [c6],sel_false,actions_ok (by unfold N0;omega),bind_some']
    by_cases c7 : acF none v.Actions = 0
    ·rw [if_neg (by simp [c7]),show (acF none v.Actions != 0) = false by simp [c7],sel_false,jn_eq,jn_eq]
     rw [kd_loop (v:=v) (by omega) (some (6,m + 1)) (fun _=>loopK (vw_validate_L1 (vw_validate n) v d fun s13=>some (0,s13)) N0 (0,m + 1)) _ (by
      funext again s
      unfold vw_validate_L2
      rw [wrap_id (x:=m + 1) (by omega) (by omega)])]
     by_cases c8 : dupF [] v.Kids = true
     ·rw [if_pos c8,if_pos c8];exact ⟨rfl,fun h=>by cases h⟩
     ·rw [if_neg c8,if_neg c8]
      exact vkids_ok (by omega) (by omega) (fun k hk m' h0' h1'=>validate_ok f n k (d + 1) m' (hv.2 k hk) (by omega) (by omega) (by omega) (by omega) h0' h1') (m:=m + 1) (by omega) (by omega)
    ·rw [if_pos c7,show (acF none v.Actions != 0) = true by simp [c7],sel_true];exact ⟨rfl,fun h=>absurd h c7⟩
   ·rw [if_pos c6,show (atF none v.Attrs != 0) = true by simp [c6],sel_true];exact ⟨rfl,fun h=>absurd h c6⟩
def errV (v : View) : Int:=(valF 17 v 1 0).1
theorem Validate_ok {v : View} (h : v.sm) : vw_Validate v = some (errV v):=by
 unfold vw_Validate
 rw [(validate_ok 17 N0 v 1 0 h (by omega) (by omega) (by omega) (by unfold N0;omega) (by omega) (by omega)).1]
 rfl
end Go.Proofs.YtcenpkkficeaaaaGreatDoor
end
section
namespace Go.Proofs.YtcenpkkficeaaaaGreatDoor
open Go Go.E2
theorem ble : ∀ (a b : List UInt8),(Op.bytesLess b a || b == a) = !(Op.bytesLess a b)
 | [],[]=>rfl
 | [],_ :: _=>rfl
 | _ :: _,[]=>rfl
 | x :: a,y :: b=>by
  unfold Op.bytesLess
  have ih:=ble a b
  rw [show ((y :: b) == (x :: a)) = ((y == x) && (b == a)) from rfl]
  rcases Nat.lt_trichotomy x.toNat y.toNat with h | h | h
  ·have h1 : x < y:=h
   have h2 : ¬ y < x:=fun e=>by have e : y.toNat < x.toNat:=e;omega
   have h3 : (y == x) = false:=by
    rw [beq_eq_false_iff_ne];intro e;subst e;omega
   simp [h1,h2,h3]
  ·have h0 : x = y:=UInt8.toNat_inj.1 h
   subst h0
   have h1 : ¬ x < x:=fun e=>by have e : x.toNat < x.toNat:=e;omega
   simp only [h1,decide_false,beq_self_eq_true,Bool.true_and,Bool.false_or]
   exact ih
  ·have h1 : y < x:=h
   have h2 : ¬ x < y:=fun e=>by have e : x.toNat < y.toNat:=e;omega
   have h3 : (x == y) = false:=by
    rw [beq_eq_false_iff_ne];intro e;subst e;omega
   simp [h1,h2,h3]
theorem rprv_cmp {α R : Type} [Inhabited α] {l : List α} {i : Nat} {x : α} (hx : l[i]? = some x) (hi : i < l.length) (hn : l.length < N0) (nm : α → Str) (A B : Option R) :
  ((gO (decide ((i : Int) > 0)) (idxO l (i : Int))).bind fun x8=>(gO (decide ((i : Int) > 0)) (idxO l (IntKind.i64.wrap ((i : Int) - 1)))).bind fun x9=>sel ((decide ((i : Int) > 0)) && (Op.bytesLess (nm x8).toList (nm x9).toList || (nm x8).toList == (nm x9).toList)) A B) = sel (nle ((prv l i).map nm) (nm x)) A B:=by
 by_cases h0 : i = 0
 ·subst h0;rfl
 ·rw [show decide ((i : Int) > 0) = true from decide_eq_true (by omega),gO_true,gO_true,idxO_nat,hx,bind_some']
  obtain ⟨y,⟨h1,h2⟩ | h⟩:=prv_at hi h0
  ·rw [h1,h2,bind_some',ble];rfl
  ·omega
theorem rprv_cmp1 {α R : Type} [Inhabited α] {l : List α} {i : Nat} {x : α} (hi : i < l.length) (hn : l.length < N0) (nm : α → Str) (A B : Option R) :
  ((gO (decide ((i : Int) > 0)) (idxO l (IntKind.i64.wrap ((i : Int) - 1)))).bind fun x9=>sel ((decide ((i : Int) > 0)) && (Op.bytesLess (nm x).toList (nm x9).toList || (nm x).toList == (nm x9).toList)) A B) = sel (nle ((prv l i).map nm) (nm x)) A B:=by
 by_cases h0 : i = 0
 ·subst h0;rfl
 ·rw [show decide ((i : Int) > 0) = true from decide_eq_true (by omega),gO_true]
  obtain ⟨y,⟨h1,h2⟩ | h⟩:=prv_at hi h0
  ·rw [h1,h2,bind_some',ble];rfl
  ·omega
theorem rattr_loop {v : View} {m : Int} (hm : IntKind.i64.wrap (m + 1) = m + 1) (hn : v.Attrs.length < N0) (k8 : Unit → Option (Int × Int)) : loopK (r14_validate_L6 v m k8) N0 0 = if atF none v.Attrs = 0 then k8 () else some (m + 1,atF none v.Attrs):=by
 refine loopI (L:=v.Attrs) (fun (_ : Unit) i=>(i : Int)) (fun i _=>atF none v.Attrs = atF (prv v.Attrs i) (v.Attrs.drop i)) (fun r=>r = if atF none v.Attrs = 0 then k8 () else some (m + 1,atF none v.Attrs)) hn ?_ ?_ () rfl
 ·intro again _ i a ha hi hp
  rw [drop_cons' ha,atF_cons] at hp
  unfold r14_validate_L6
  rw [nz_lt hi,sel_true,idxO_nat,ha,bind_some',rName_eq,bind_some',wrap_suc hi hn,hm]
  cases hb : namE a.Name with
  | false=>rw [if_pos hb] at hp;rw [hp];exact .inl rfl
  | true =>
   rw [if_neg (by rw [hb];exact Bool.noConfusion)] at hp
   have ha' : idxO v.Attrs (i : Int) = some a:=by rw [idxO_nat];exact ha
   rw [Bool.not_true,sel_false,← ha',rprv_cmp ha hi hn Attr.Name,ha']
   cases hc : nle ((prv v.Attrs i).map Attr.Name) a.Name with
   | true=>rw [if_pos hc] at hp;rw [hp];exact .inl rfl
   | false =>
    rw [if_neg (by rw [hc];exact Bool.noConfusion)] at hp
    rw [sel_false,bind_some',chE_r,bind_some']
    by_cases he : chE a.Value = 0
    ·rw [if_neg (by simp [he])] at hp
     rw [show (chE a.Value != 0) = false by simp [he],sel_false]
     exact .inr ⟨(),by rw [prv_suc ha];exact hp,rfl⟩
    ·rw [if_pos he] at hp
     rw [show (chE a.Value != 0) = true by simp [he],sel_true,hp,if_neg he]
     exact .inl rfl
 ·intro again _ hp
  rw [List.drop_length] at hp
  unfold r14_validate_L6
  rw [nz_ge (Nat.le_refl _),sel_false,hp]
  unfold atF;rfl
theorem rvalues_ok {m : Int} (hm : IntKind.i64.wrap (m + 1) = m + 1) {a : Action} (hn : a.Args.length < N0) (k : Unit → Option (Int × Int)) : loopK (r14_validate_L4 m a k) N0 0 = if vaF a.Args = 0 then k () else some (m + 1,vaF a.Args):=by
 refine loopI (L:=a.Args) (fun (_ : Unit) i=>(i : Int)) (fun i _=>vaF a.Args = vaF (a.Args.drop i)) (fun r=>r = if vaF a.Args = 0 then k () else some (m + 1,vaF a.Args)) hn ?_ ?_ () rfl
 ·intro again _ i v hv hi hp
  rw [drop_cons' hv,vaF_cons] at hp
  unfold r14_validate_L4
  rw [nz_lt hi,sel_true,idxO_nat,hv,bind_some',chE_r,bind_some',wrap_suc hi hn,hm]
  by_cases he : chE v = 0
  ·rw [if_neg (by simp [he])] at hp
   rw [show (chE v != 0) = false by simp [he],sel_false]
   exact .inr ⟨(),hp,rfl⟩
  ·rw [if_pos he] at hp
   rw [show (chE v != 0) = true by simp [he],sel_true,hp,if_neg he]
   exact .inl rfl
 ·intro again _ hp
  rw [List.drop_length] at hp
  unfold r14_validate_L4
  rw [nz_ge (Nat.le_refl _),sel_false,hp]
  unfold vaF;rfl
theorem ract_loop {v : View} {m : Int} (hm : IntKind.i64.wrap (m + 1) = m + 1) (hn : v.Actions.length < N0) (k10 : Unit → Option (Int × Int)) : loopK (r14_validate_L5 v m k10) N0 0 = if acF none v.Actions = 0 then k10 () else some (m + 1, acF none v.Actions) := by
  refine loopI (L := v.Actions) (fun (_ : Unit) i => (i : Int)) (fun i _ => acF none v.Actions = acF (prv v.Actions i) (v.Actions.drop i)) (fun r => r = if acF none v.Actions = 0 then k10 () else some (m + 1, acF none v.Actions)) hn ?_ ?_ () rfl
  · intro again _ i a ha hi hp
    rw [drop_cons' ha, acF_cons] at hp
    unfold r14_validate_L5
    rw [nz_lt hi, sel_true, jn_eq, idxO_nat, ha, bind_some', rName_eq, bind_some', rName_eq, wrap_suc hi hn, hm]
    have e : (gO (!(!(namE a.Event))) (some (namE a.Handler))).bind (fun x10 => sel ((!(namE a.Event)) || (!x10)) (some ((m + 1 : Int), (4 : Int))) ((gO (decide ((i : Int) > 0)) (idxO v.Actions (IntKind.i64.wrap ((i : Int) - 1)))).bind fun x12 => sel ((decide ((i : Int) > 0)) && (Op.bytesLess a.Event.toList x12.Event.toList || a.Event.toList == x12.Event.toList)) (some (m + 1, 10)) (sel ((decide ((a.Instance.size : Int) > 400)) || (decide ((a.Args.length : Int) > 100))) (some (m + 1, 2)) (jn (fun (_s15 : Unit) => again ((i + 1 : Nat) : Int)) fun k16 => loopK (r14_validate_L4 m a k16) N0 0)))) =
        sel (!(namE a.Event && namE a.Handler)) (some (m + 1, 4)) (sel (nle ((prv v.Actions i).map Action.Event) a.Event) (some (m + 1, 10)) (sel ((decide ((a.Instance.size : Int) > 400)) || (decide ((a.Args.length : Int) > 100))) (some (m + 1, 2)) (jn (fun (_s15 : Unit) => again ((i + 1 : Nat) : Int)) fun k16 => loopK (r14_validate_L4 m a k16) N0 0))) := by
      rw [← rprv_cmp1 (x := a) hi hn Action.Event]
      cases namE a.Event <;> cases namE a.Handler <;> rfl
    rw [e]
    cases hb : (namE a.Event && namE a.Handler) with
    | false => rw [if_pos hb] at hp; rw [hp]; exact .inl rfl
    | true =>
      rw [if_neg (by rw [hb]; exact Bool.noConfusion)] at hp
      rw [Bool.not_true, sel_false]
      cases hc : nle ((prv v.Actions i).map Action.Event) a.Event with
      | true => rw [if_pos hc] at hp; rw [hp]; exact .inl rfl
      | false =>
        rw [if_neg (by rw [hc]; exact Bool.noConfusion)] at hp
        rw [sel_false]
        by_cases hd : a.Instance.size > 400 ∨ a.Args.length > 100
        · rw [if_pos hd] at hp
          rw [show ((decide ((a.Instance.size : Int) > 400)) || (decide ((a.Args.length : Int) > 100))) = true by simp only [Bool.or_eq_true, decide_eq_true_eq]; omega, hp]
          exact .inl rfl
        · rw [if_neg hd] at hp
          rw [show ((decide ((a.Instance.size : Int) > 400)) || (decide ((a.Args.length : Int) > 100))) = false by simp only [Bool.or_eq_false_iff, decide_eq_false_iff_not]; omega, sel_false, jn_eq, rvalues_ok hm (by unfold N0; omega)]
          by_cases he : vaF a.Args = 0
          · rw [if_neg (by simp [he])] at hp
            rw [if_pos he]
            exact .inr ⟨(), by rw [prv_suc ha]; exact hp, rfl⟩
          · rw [if_pos he] at hp
            rw [if_neg he, hp, if_neg he]
            exact .inl rfl
  · intro again _ hp
    rw [List.drop_length] at hp
    unfold r14_validate_L5
    rw [nz_ge (Nat.le_refl _), sel_false, hp]
    unfold acF; rfl
theorem rdup1 {v : View} {m : Int} (hm : IntKind.i64.wrap (m + 1) = m + 1) (h100 : v.Kids.length ≤ 100) {i : Nat} {x : View} (hx : v.Kids[i]? = some x) (hi : i < v.Kids.length) (k27 : Unit → Option (Int × Int)) :
  loopK (r14_validate_L2 v m (i : Int) k27) N0 0 = if x.Key ≠ ByteArray.mk #[] ∧ x.Key ∈ (v.Kids.take i).map (·.Key) then some (m + 1,6) else k27 ():=by
 refine loopN (n:=i) (fun (_ : Unit) j=>(j : Int)) (fun j _=>¬ (x.Key ≠ ByteArray.mk #[] ∧ x.Key ∈ (v.Kids.take j).map (·.Key))) (fun r=>r = if x.Key ≠ ByteArray.mk #[] ∧ x.Key ∈ (v.Kids.take i).map (·.Key) then some (m + 1,6) else k27 ()) (by unfold N0;omega) ?_ ?_ () (by simp)
 ·intro again _ j hj hp
  have hy : v.Kids[j]? = some v.Kids[j]:=List.getElem?_eq_getElem (by omega)
  unfold r14_validate_L2
  simp only [nz_lt hj,selT',idxO_nat,hx,hy,bindN,bs_eq]
  rw [wrap_suc hj (by unfold N0;omega),hm]
  by_cases c1 : x.Key = ByteArray.mk #[]
  ·rw [decide_eq_true c1]
   exact .inr ⟨(),fun h=>h.1 c1,rfl⟩
  ·rw [decide_eq_false c1,Bool.not_false,gO_true,bind_some',gO_true,bind_some',Bool.true_and]
   by_cases c2 : x.Key = v.Kids[j].Key
   ·rw [decide_eq_true c2,if_pos ⟨c1,List.mem_map.2 ⟨v.Kids[j],List.mem_take_iff_getElem.2 ⟨j,by omega,rfl⟩,c2.symm⟩⟩]
    exact .inl rfl
   ·rw [decide_eq_false c2]
    refine .inr ⟨(),fun h=>?_,rfl⟩
    rw [take_suc hy,List.map_append] at h
    rcases List.mem_append.1 h.2 with h' | h'
    ·exact hp ⟨c1,h'⟩
    ·simp at h';exact c2 h'
 ·intro again _ hp
  unfold r14_validate_L2
  rw [nz_ge (Nat.le_refl _),sel_false,if_neg hp]
theorem rdup_loop {v : View} {m : Int} (hm : IntKind.i64.wrap (m + 1) = m + 1) (h100 : v.Kids.length ≤ 100) (k12 : Unit → Option (Int × Int)) :
  loopK (r14_validate_L3 v m k12) N0 0 = if dupF [] v.Kids = true then some (m + 1,6) else k12 ():=by
 refine loopI (L:=v.Kids) (fun (_ : Unit) i=>(i : Int)) (fun i _=>dupF [] v.Kids = dupF ((v.Kids.take i).map (·.Key)) (v.Kids.drop i)) (fun r=>r = if dupF [] v.Kids = true then some (m + 1,6) else k12 ()) (by unfold N0;omega) ?_ ?_ () rfl
 ·intro again _ i x hx hi h1
  rw [drop_cons' hx,dupF_cons] at h1
  unfold r14_validate_L3
  rw [nz_lt hi,sel_true,jn_eq,jn_eq,rdup1 hm h100 hx hi,wrap_suc hi (by unfold N0;omega)]
  by_cases c : x.Key ≠ ByteArray.mk #[] ∧ x.Key ∈ (v.Kids.take i).map (·.Key)
  ·rw [if_pos c] at h1
   rw [if_pos c,if_pos h1]
   exact .inl rfl
  ·rw [if_neg c] at h1
   rw [if_neg c]
   refine .inr ⟨(),?_,rfl⟩
   rw [h1,take_suc hx];simp
 ·intro again _ h1
  rw [List.drop_length] at h1
  unfold r14_validate_L3
  rw [nz_ge (Nat.le_refl _),sel_false,h1]
  unfold dupF;rfl
theorem rkids_ok {v : View} {d : Int} {sr : View → Int → Int → Option (Int × Int)} {g : View → Int → Int × Int} (h100 : v.Kids.length ≤ 100) (hd : -100 ≤ d ∧ d ≤ 100)
  (hs : ∀ k ∈ v.Kids,∀ m,0 ≤ m → m ≤ 400 → sr k (d + 1) m = some ((g k m).2,(g k m).1) ∧ ((g k m).1 = 0 → 0 ≤ (g k m).2 ∧ (g k m).2 ≤ 400)) {m : Int} (h0 : 0 ≤ m) (h1 : m ≤ 400) :
  loopK (r14_validate_L1 sr v d fun s13=>some (s13,0)) N0 (m,0) = some ((kdF g v.Kids m).2,(kdF g v.Kids m).1):=by
 refine loopI (L:=v.Kids) (fun (m : Int) i=>(m,(i : Int))) (fun i m'=>kdF g v.Kids m = kdF g (v.Kids.drop i) m' ∧ 0 ≤ m' ∧ m' ≤ 400) (fun r=>r = some ((kdF g v.Kids m).2,(kdF g v.Kids m).1)) (by unfold N0;omega) ?_ ?_ m ⟨rfl,h0,h1⟩
 ·intro again m' i k hk hi ⟨hp,hp0,hp1⟩
  rw [drop_cons' hk,kdF_cons] at hp
  obtain ⟨e1,e2⟩:=hs k (List.mem_of_getElem? hk) m' hp0 hp1
  unfold r14_validate_L1
  simp only
  rw [nz_lt hi,sel_true,idxO_nat,hk,bind_some',wrap_id (x:=d + 1) (by omega) (by omega),e1,bind_some',wrap_suc hi (by unfold N0;omega)]
  by_cases he : (g k m').1 = 0
  ·rw [if_neg (by simp [he])] at hp
   rw [show ((g k m').1 != 0) = false by simp [he],sel_false]
   exact .inr ⟨(g k m').2,⟨hp,e2 he⟩,rfl⟩
  ·rw [if_pos he] at hp
   rw [show ((g k m').1 != 0) = true by simp [he],sel_true,hp]
   exact .inl rfl
 ·intro again m' ⟨hp,hp0,hp1⟩
  rw [List.drop_length] at hp
  unfold r14_validate_L1
  simp only
  rw [nz_ge (Nat.le_refl _),sel_false,hp]
  rfl
theorem rvalidate_ok : ∀ (f n : Nat) (v : View) (d m : Int),v.sm → 18 ≤ f + d → 1 ≤ d → d ≤ 17 → f ≤ n → 0 ≤ m → m ≤ 400 → r14_validate n v d m = some ((valF f v d m).2,(valF f v d m).1)
 | 0,n,v,d,m,_,h,_,hd,_,_,_=>by omega
 | f + 1,0,v,d,m,_,_,_,_,h,_,_=>by omega
 | f + 1,n + 1,v,d,m,hv,hf,hd,hd7,hn,h0,h1=>by
  have hv0:=hv
  rw [View.sm_eq] at hv
  show r14_validate_B (r14_validate n) v d m = some ((valB (fun k m=>valF f k (d + 1) m) v d m).2,(valB (fun k m=>valF f k (d + 1) m) v d m).1)
  unfold r14_validate_B valB
  have hm:=wrap_id (x:=m + 1) (by omega) (by omega)
  rw [hm]
  by_cases c1 : d > 16
  ·rw [if_pos c1,decide_eq_true c1];rfl
  rw [if_neg c1,decide_eq_false c1,sel_false]
  by_cases c2 : m + 1 > 400
  ·rw [if_pos c2,decide_eq_true c2];rfl
  rw [if_neg c2,decide_eq_false c2,sel_false]
  by_cases c3 : v.Kind < 1 ∨ v.Kind > 13
  ·rw [if_pos c3,show ((decide (v.Kind < 1)) || (decide (v.Kind > 13))) = true by simp only [Bool.or_eq_true,decide_eq_true_eq];exact c3];rfl
  rw [if_neg c3,show ((decide (v.Kind < 1)) || (decide (v.Kind > 13))) = false by simp only [Bool.or_eq_false_iff,decide_eq_false_iff_not];omega,sel_false,rkey_ok hv.1,bind_some']
  cases c4 : keyE v.Key with
  | false=>rw [if_pos rfl];rfl
  | true =>
   rw [if_neg (by exact Bool.noConfusion),Bool.not_true,sel_false]
   by_cases c5 : v.Attrs.length > 24 ∨ v.Actions.length > 24 ∨ v.Kids.length > 100
   ·rw [if_pos c5,show (((decide ((v.Attrs.length : Int) > 24)) || (decide ((v.Actions.length : Int) > 24))) || (decide ((v.Kids.length : Int) > 100))) = true by simp only [Bool.or_eq_true,decide_eq_true_eq];omega];rfl
   rw [if_neg c5,show (((decide ((v.Attrs.length : Int) > 24)) || (decide ((v.Actions.length : Int) > 24))) || (decide ((v.Kids.length : Int) > 100))) = false by simp only [Bool.or_eq_false_iff,decide_eq_false_iff_not];omega,sel_false]
   rw [jn_eq,rattr_loop hm (by unfold N0;omega)]
   by_cases c6 : atF none v.Attrs = 0
   ·rw [if_pos c6,if_neg (by simp [c6]),jn_eq,ract_loop hm (by unfold N0;omega)]
    by_cases c7 : acF none v.Actions = 0
    ·rw [if_pos c7,if_neg (by simp [c7]),jn_eq,rdup_loop hm (by omega)]
     by_cases c8 : dupF [] v.Kids = true
     ·rw [if_pos c8,if_pos c8]
     ·rw [if_neg c8,if_neg c8,jn_eq]
      exact rkids_ok (by omega) (by omega) (fun k hk m' h0' h1'=>⟨rvalidate_ok f n k (d + 1) m' (hv.2 k hk) (by omega) (by omega) (by omega) (by omega) h0' h1',(validate_ok f f k (d + 1) m' (hv.2 k hk) (by omega) (by omega) (by omega) (by omega) h0' h1').2⟩) (m:=m + 1) (by omega) (by omega)
    ·rw [if_neg c7,if_pos c7]
   ·rw [if_neg c6,if_pos c6]
theorem rValidate_ok {v : View} (h : v.sm) : r14_Validate v = some (errV v):=by
 unfold r14_Validate
 rw [rvalidate_ok 17 N0 v 1 0 h (by omega) (by omega) (by omega) (by unfold N0;omega) (by omega) (by omega)]
 rfl
end Go.Proofs.YtcenpkkficeaaaaGreatDoor
end
section
namespace Go.Proofs.YtcenpkkficeaaaaGreatDoor
open Go Go.E2
theorem Index_ok (t : Tree) (x : Int) (hl : t.Nodes.length < N0) : (∃ (i : Nat) (n : Node),r14_Index t x = some (i : Int) ∧ t.Nodes[i]? = some n ∧ look t.Nodes x = some n) ∨ (r14_Index t x = some (-1) ∧ look t.Nodes x = none):=by
 unfold r14_Index
 rw [jn_eq]
 refine loopI (L:=t.Nodes) (fun (_ : Unit) i=>(i : Int)) (fun i _=>look t.Nodes x = look (t.Nodes.drop i) x) (fun r=>(∃ (i : Nat) (n : Node),r = some (i : Int) ∧ t.Nodes[i]? = some n ∧ look t.Nodes x = some n) ∨ (r = some (-1) ∧ look t.Nodes x = none)) hl ?_ ?_ () rfl
 ·intro again _ i n hn hi hp
  rw [drop_cons' hn] at hp
  have hp : look t.Nodes x = if x = n.ID then some n else look (t.Nodes.drop (i + 1)) x:=hp
  unfold r14_Index_L1
  rw [nz_lt hi,sel_true,idxO_nat,hn,bind_some',wrap_suc hi hl]
  by_cases c : x = n.ID
  ·rw [if_pos c] at hp
   rw [show (n.ID == x) = true by simp [c],sel_true]
   exact .inl (.inl ⟨i,n,rfl,hn,hp⟩)
  ·rw [if_neg c] at hp
   rw [show (n.ID == x) = false by rw [beq_eq_false_iff_ne];exact fun e=>c e.symm,sel_false]
   exact .inr ⟨(),hp,rfl⟩
 ·intro again _ hp
  rw [List.drop_length] at hp
  unfold r14_Index_L1
  rw [nz_ge (Nat.le_refl _),sel_false]
  exact .inr ⟨rfl,hp⟩
theorem Node_ok (t : Tree) (x : Int) (hl : t.Nodes.length < N0) : r14_Node t x = some (nd t.Nodes x):=by
 unfold r14_Node
 rcases Index_ok t x hl with ⟨i,n,h1,h2,h3⟩ | ⟨h1,h2⟩
 ·rw [h1,bind_some',show decide ((i : Int) < 0) = false from decide_eq_false (by omega),sel_false,idxO_nat,h2,nd_look h3];rfl
 ·rw [h1,nd_none h2];rfl
section
variable {t : Tree}
theorem rorder_ok (S : Shp0 t.Nodes t.Root) (h400 : t.Nodes.length ≤ 400) : ∀ (f n d : Nat) (x : Int) (l : List Int),Reach t.Nodes t.Root d x → t.Nodes.length ≤ f + d → f ≤ n → l.length + (pre t.Nodes f x).length ≤ 1000 → r14_order n t x l = some (l ++ pre t.Nodes f x)
 | 0,n,d,x,l,hr,hf,_,_=>by have:=reach_depth S hr;omega
 | f + 1,0,d,x,l,hr,hf,h,_=>by omega
 | f + 1,n + 1,d,x,l,hr,hf,h,hlen=>by
  have hk:=kids_len S x
  have e : (pre t.Nodes (f + 1) x).length = 1 + ((nd t.Nodes x).Kids.flatMap (pre t.Nodes f)).length:=by show (x :: _).length = _;rw [List.length_cons];omega
  show r14_order_B (r14_order n) t x l = _
  unfold r14_order_B
  rw [appO_eq (by simp;omega),bind_some',Node_ok t x (by unfold N0;omega),bind_some',jn_eq]
  refine loopI (L:=(nd t.Nodes x).Kids) (fun (s : List Int) i=>(s,(i : Int))) (fun i s=>s = l ++ x :: ((nd t.Nodes x).Kids.take i).flatMap (pre t.Nodes f)) (fun r=>r = some (l ++ pre t.Nodes (f + 1) x)) (by unfold N0;omega) ?_ ?_ (l ++ [x]) rfl
  ·intro again s i k hk1 hi hs
   refine .inr ⟨l ++ x :: ((nd t.Nodes x).Kids.take (i + 1)).flatMap (pre t.Nodes f),rfl,?_⟩
   have hkm : k ∈ (nd t.Nodes x).Kids:=List.mem_of_getElem? hk1
   unfold r14_order_L1
   simp only [nz_lt hi,sel_true,idxO_nat,hk1,bind_some']
   have hl : s.length + (pre t.Nodes f k).length ≤ 1000:=by
    subst hs
    have:=flat_take_len (pre t.Nodes f) (nd t.Nodes x).Kids (i + 1)
    rw [take_suc hk1,List.flatMap_append,List.length_append,List.flatMap_cons,List.flatMap_nil,List.append_nil] at this
    rw [List.length_append,List.length_cons];omega
   rw [rorder_ok S h400 f n (d + 1) k s (Reach.s hr hkm) (by omega) (by omega) hl,bind_some',wrap_suc hi (by unfold N0;omega),take_suc hk1,hs]
   simp
  ·intro again s hs
   unfold r14_order_L1
   simp only [nz_ge (Nat.le_refl _),sel_false]
   rw [hs,List.take_length];rfl
theorem rdescribe_ok (S : Shp0 t.Nodes t.Root) (h400 : t.Nodes.length ≤ 400) : ∀ (f n d : Nat) (x : Int),Reach t.Nodes t.Root d x → t.Nodes.length ≤ f + d → f ≤ n → r14_describe n t x = some (dsc t.Nodes f x)
 | 0,n,d,x,hr,hf,_=>by have:=reach_depth S hr;omega
 | f + 1,0,d,x,hr,hf,h=>by omega
 | f + 1,n + 1,d,x,hr,hf,h=>by
  have hk:=kids_len S x
  show r14_describe_B (r14_describe n) t x = _
  unfold r14_describe_B
  rw [Node_ok t x (by unfold N0;omega),bind_some',jn_eq]
  refine loopI (L:=(nd t.Nodes x).Kids) (fun (s : List View) i=>((i : Int),s)) (fun i s=>s = ((nd t.Nodes x).Kids.take i).map (dsc t.Nodes f)) (fun r=>r = some (dsc t.Nodes (f + 1) x)) (by unfold N0;omega) ?_ ?_ [] rfl
  ·intro again s i k hk1 hi hs
   refine .inr ⟨((nd t.Nodes x).Kids.take (i + 1)).map (dsc t.Nodes f),rfl,?_⟩
   have hkm : k ∈ (nd t.Nodes x).Kids:=List.mem_of_getElem? hk1
   unfold r14_describe_L1
   simp only [nz_lt hi,sel_true,idxO_nat,hk1,bind_some']
   rw [rdescribe_ok S h400 f n (d + 1) k (Reach.s hr hkm) (by omega) (by omega),bind_some']
   have hl : s.length ≤ t.Nodes.length:=by subst hs;simp;omega
   rw [appO_eq (by simp;omega),bind_some',wrap_suc hi (by unfold N0;omega),take_suc hk1,hs]
   simp
  ·intro again s hs
   unfold r14_describe_L1
   simp only [nz_ge (Nat.le_refl _),sel_false]
   rw [hs,List.take_length];rfl
def RQ (t : Tree) (r : Option Bool) : Prop:=∃ b,r = some b ∧ (b = true ↔ Shp t)
theorem RQ.bad (h : ¬ Shp t) : RQ t (some false):=⟨false,rfl,⟨fun e=>Bool.noConfusion e,fun e=>absurd e h⟩⟩
theorem shaped_L4_ok (hl : t.Nodes.length ≤ 400) (k3 : Unit → Option Bool) (hk3 : IncN t.Nodes t.Next t.Nodes.length → RQ t (k3 ())) : RQ t (loopK (r14_shaped_L4 t k3) N0 (0,0)):=by
 refine loopI (L:=t.Nodes) (fun (s : Int) i=>(s,(i : Int))) (fun i s=>s = pvid t.Nodes i ∧ IncN t.Nodes t.Next i) (RQ t) (by unfold N0;omega) ?_ ?_ 0 ⟨rfl,fun j m hj=>by omega⟩
 ·intro again s i n hn hi ⟨h1,h2⟩
  subst h1
  unfold r14_shaped_L4
  simp only [nz_lt hi,selT',idxO_nat,hn,bindN]
  by_cases c1 : pvid t.Nodes i < n.ID
  ·rw [show decide (n.ID ≤ pvid t.Nodes i) = false from decide_eq_false (by omega),Bool.not_false,gO_true,bind_some',Bool.false_or]
   by_cases c2 : n.ID < t.Next
   ·rw [show decide (n.ID ≥ t.Next) = false from decide_eq_false (by omega),sel_false]
    refine .inr ⟨pvid t.Nodes (i + 1),⟨rfl,fun j m hj hm=>?_⟩,?_⟩
    ·rcases (by omega : j = i ∨ j < i) with e | e
     ·subst e;rw [hn] at hm;cases hm;exact ⟨c1,c2⟩
     ·exact h2 j m e hm
    ·rw [pvid_suc hn,wrap_suc hi (by unfold N0;omega)]
   ·rw [show decide (n.ID ≥ t.Next) = true from decide_eq_true (by omega),sel_true]
    exact .inl (RQ.bad fun S=>c2 (S.inc i n hi hn).2)
  ·rw [show decide (n.ID ≤ pvid t.Nodes i) = true from decide_eq_true (by omega)]
   exact .inl (RQ.bad fun S=>c1 (S.inc i n hi hn).1)
 ·intro again s ⟨h1,h2⟩
  unfold r14_shaped_L4
  simp only [nz_ge (Nat.le_refl _),sel_false]
  exact hk3 h2
theorem shaped_L1_ok {n : Node} {p : Int} {k : Nat} {x : Int} (hK : n.Kids.length ≤ 400) (hx : n.Kids[k]? = some x) (hk : k < n.Kids.length) (k30 : Unit → Option Bool) :
  loopK (r14_shaped_L1 n (p,(k : Int)) k30) N0 0 = if x ∈ n.Kids.take k then some false else k30 ():=by
 refine loopN (n:=k) (fun (_ : Unit) j=>(j : Int)) (fun j _=>x ∉ n.Kids.take j) (fun r=>r = if x ∈ n.Kids.take k then some false else k30 ()) (by unfold N0;omega) ?_ ?_ () (by simp)
 ·intro again _ j hj hp
  have hy : n.Kids[j]? = some n.Kids[j]:=List.getElem?_eq_getElem (by omega)
  unfold r14_shaped_L1
  simp only [nz_lt hj,selT',idxO_nat,hx,hy,bindN]
  rw [wrap_suc hj (by unfold N0;omega)]
  by_cases c : n.Kids[j] = x
  ·rw [show (n.Kids[j] == x) = true by simp [c],sel_true,if_pos (List.mem_take_iff_getElem.2 ⟨j,by omega,c⟩)]
   exact .inl rfl
  ·rw [show (n.Kids[j] == x) = false by simp [c],sel_false]
   refine .inr ⟨(),fun h=>?_,rfl⟩
   rw [take_suc hy] at h
   rcases List.mem_append.1 h with h | h
   ·exact hp h
   ·exact c (List.mem_singleton.1 h).symm
 ·intro again _ hp
  unfold r14_shaped_L1
  rw [nz_ge (Nat.le_refl _),sel_false,if_neg hp]
theorem shaped_L2_ok {n : Node} (hmem : n ∈ t.Nodes) (hl : t.Nodes.length ≤ 400) (hK : n.Kids.length ≤ 400) {p : Nat} (hp : p ≤ 400 * 400) (k19 : Int → Option Bool) :
  RQ t (loopK (r14_shaped_L2 t n k19) N0 ((p : Int),0)) ∨ (loopK (r14_shaped_L2 t n k19) N0 ((p : Int),0) = k19 ((p + n.Kids.length : Nat) : Int) ∧ n.Kids.Nodup ∧ ∀ k ∈ n.Kids,∃ x,look t.Nodes k = some x ∧ x.Parent = n.ID):=by
 refine loopI (L:=n.Kids) (fun (q : Nat) j=>((q : Int),(j : Int))) (fun j q=>q = p + j ∧ (n.Kids.take j).Nodup ∧ ∀ k ∈ n.Kids.take j,∃ x,look t.Nodes k = some x ∧ x.Parent = n.ID)
  (fun r=>RQ t r ∨ (r = k19 ((p + n.Kids.length : Nat) : Int) ∧ n.Kids.Nodup ∧ ∀ k ∈ n.Kids,∃ x,look t.Nodes k = some x ∧ x.Parent = n.ID)) (by unfold N0;omega) ?_ ?_ p ⟨rfl,by simp,by simp⟩
 ·intro again q j k hk hj ⟨h1,h2,h3⟩
  have hkm : k ∈ n.Kids:=List.mem_of_getElem? hk
  unfold r14_shaped_L2
  simp only [nz_lt hj,selT',idxO_nat,hk,bindN,jnN]
  rcases Index_ok t k (by unfold N0;omega) with ⟨i,y,e1,e2,e3⟩ | ⟨e1,e2⟩
  ·rw [e1,bind_some',show decide ((i : Int) < 0) = false from decide_eq_false (by omega),Bool.not_false,gO_true,idxO_nat,e2,bind_some',Bool.false_or]
   by_cases c : y.Parent = n.ID
   ·rw [show (y.Parent != n.ID) = false by simp [c],sel_false,shaped_L1_ok hK hk hj]
    by_cases c2 : k ∈ n.Kids.take j
    ·rw [if_pos c2]
     refine .inl (.inl (RQ.bad fun S'=>?_))
     have:=S'.nod n hmem
     rw [← List.take_append_drop j n.Kids,drop_cons' hk] at this
     exact (List.nodup_append.1 this).2.2 k c2 k (by simp) rfl
    ·rw [if_neg c2]
     refine .inr ⟨q + 1,⟨by omega,?_,?_⟩,?_⟩
     ·rw [take_suc hk]
      refine List.nodup_append.2 ⟨h2,by simp,?_⟩
      intro a ha b hb e
      subst e
      rw [List.mem_singleton.1 hb] at ha
      exact c2 ha
     ·intro k' hk'
      rw [take_suc hk] at hk'
      rcases List.mem_append.1 hk' with e | e
      ·exact h3 k' e
      ·rw [List.mem_singleton.1 e];exact ⟨y,e3,c⟩
     ·rw [wrap_suc hj (by unfold N0;omega),wrap_id (by omega) (by omega)]
      rfl
   ·rw [show (y.Parent != n.ID) = true by simp [c],sel_true]
    refine .inl (.inl (RQ.bad fun S'=>?_))
    obtain ⟨z,y1,y2⟩:=S'.kid n hmem k hkm
    rw [e3] at y1;cases y1
    exact c y2
  ·rw [e1,bind_some']
   refine .inl (.inl (RQ.bad fun S'=>?_))
   obtain ⟨y,y1,_⟩:=S'.kid n hmem k hkm
   rw [e2] at y1;cases y1
 ·intro again q ⟨h1,h2,h3⟩
  rw [List.take_length] at h2 h3
  unfold r14_shaped_L2
  simp only [nz_ge (Nat.le_refl _),selF']
  exact .inr ⟨by rw [h1],h2,h3⟩
theorem shaped_L3_ok (hinc : IncN t.Nodes t.Next t.Nodes.length) {ri : Nat} {rn : Node} (hr1 : t.Nodes[ri]? = some rn) (hr2 : look t.Nodes t.Root = some rn) (hl : t.Nodes.length ≤ 400) (k7 : Int → Option Bool)
  (hk7 : (∀ n ∈ t.Nodes,n.Parent = 0 ↔ n.ID = t.Root) → (∀ n ∈ t.Nodes,n.Kids.Nodup) → (∀ n ∈ t.Nodes,∀ k ∈ n.Kids,∃ x,look t.Nodes k = some x ∧ x.Parent = n.ID) → (∀ n ∈ t.Nodes,n.Kids.length ≤ 400) → RQ t (k7 ((t.Nodes.flatMap (·.Kids)).length : Int))) :
  RQ t (loopK (r14_shaped_L3 t (ri : Int) k7) N0 (0,0)):=by
 refine loopI (L:=t.Nodes) (fun (q : Nat) j=>((q : Int),(j : Int))) (fun i q=>q = ((t.Nodes.take i).flatMap (·.Kids)).length ∧ q ≤ 400 * i ∧ ∀ j m,j < i → t.Nodes[j]? = some m → (m.Parent = 0 ↔ m.ID = t.Root) ∧ m.Kids.Nodup ∧ m.Kids.length ≤ 400 ∧ ∀ k ∈ m.Kids,∃ x,look t.Nodes k = some x ∧ x.Parent = m.ID)
  (RQ t) (by unfold N0;omega) ?_ ?_ 0 ⟨rfl,by omega,fun j m hj=>by omega⟩
 ·intro again q i n hn hi ⟨h1,h2,h3⟩
  have hmem:=List.mem_of_getElem? hn
  unfold r14_shaped_L3
  simp only [nz_lt hi,selT',idxO_nat,hn,bindN,jnN]
  have hri : ((i : Int) == (ri : Int)) = (n.ID == t.Root):=by
   rw [Bool.eq_iff_iff]
   simp only [beq_iff_eq]
   have hrl:=(List.getElem?_eq_some_iff.1 hr1).1
   have hrid:=(look_mem hr2).2
   constructor
   ·intro e
    have : i = ri:=by omega
    subst this
    rw [hn] at hr1;cases hr1
    exact hrid
   ·intro e
    rcases Nat.lt_trichotomy i ri with h | h | h
    ·have:=inc_lt hinc ri i n rn h hrl hn hr1;omega
    ·rw [h]
    ·have:=inc_lt hinc i ri rn n h hi hr1 hn;omega
  rw [hri]
  by_cases c2 : n.Parent = 0 ↔ n.ID = t.Root
  ·rw [show ((n.Parent == 0) != (n.ID == t.Root)) = false from by rw [bne_eq_false_iff_eq,Bool.eq_iff_iff];simp only [beq_iff_eq];exact c2,sel_false]
   by_cases c3 : n.Kids.length ≤ t.Nodes.length
   ·rw [show decide ((n.Kids.length : Int) > (t.Nodes.length : Int)) = false from decide_eq_false (by omega),sel_false]
    rcases shaped_L2_ok hmem hl (by omega) (p:=q) (by omega) (fun s18=>again (s18,IntKind.i64.wrap ((i : Int) + 1))) with h | ⟨h4,h5,h6⟩
    ·exact .inl h
    ·refine .inr ⟨q + n.Kids.length,⟨?_,by omega,?_⟩,?_⟩
     ·rw [take_suc hn,List.flatMap_append,List.length_append,← h1];simp
     ·intro j m hj hm
      rcases (by omega : j = i ∨ j < i) with e | e
      ·subst e;rw [hn] at hm;cases hm;exact ⟨c2,h5,by omega,h6⟩
      ·exact h3 j m e hm
     ·refine h4.trans ?_
      rw [wrap_suc hi (by unfold N0;omega)]
   ·rw [show decide ((n.Kids.length : Int) > (t.Nodes.length : Int)) = true from decide_eq_true (by omega),sel_true]
    refine .inl (RQ.bad fun S=>c3 ?_)
    have:=kids_len S.to0 n.ID
    rwa [nd_look (look_of S.to0.uniq hmem)] at this
  ·rw [show ((n.Parent == 0) != (n.ID == t.Root)) = true from by rw [bne_iff_ne,ne_eq,Bool.eq_iff_iff];simp only [beq_iff_eq];exact c2,sel_true]
   exact .inl (RQ.bad fun S=>c2 (S.par n hmem))
 ·intro again q ⟨h1,h2,h3⟩
  rw [List.take_length] at h1
  unfold r14_shaped_L3
  simp only [nz_ge (Nat.le_refl _),selF']
  rw [h1]
  have key : ∀ n ∈ t.Nodes,(n.Parent = 0 ↔ n.ID = t.Root) ∧ n.Kids.Nodup ∧ n.Kids.length ≤ 400 ∧ ∀ k ∈ n.Kids,∃ x,look t.Nodes k = some x ∧ x.Parent = n.ID:=fun n hn=>by
   obtain ⟨j,hj,e⟩:=List.mem_iff_getElem.1 hn
   exact h3 j n hj (by rw [List.getElem?_eq_getElem hj,e])
  exact hk7 (fun n hn=>(key n hn).1) (fun n hn=>(key n hn).2.1) (fun n hn=>(key n hn).2.2.2) (fun n hn=>(key n hn).2.2.1)
theorem shaped_ok (t : Tree) : RQ t (r14_shaped t):=by
 unfold r14_shaped
 by_cases c0 : 2 ≤ t.Next ∧ t.Next ≤ 1099511627776 ∧ 1 ≤ t.Nodes.length ∧ t.Nodes.length ≤ 400
 ·have e : ((((decide (t.Next < 2)) || (decide (t.Next > 1099511627776))) || (decide ((t.Nodes.length : Int) < 1))) || (decide ((t.Nodes.length : Int) > 400))) = false:=by simp;omega
  rw [e,sel_false,jn_eq]
  refine shaped_L4_ok c0.2.2.2 _ (fun hinc=>?_)
  rcases Index_ok t t.Root (by unfold N0;omega) with ⟨i,y,e1,e2,e3⟩ | ⟨e1,e2⟩
  ·simp only [e1,bindN,jnN]
   rw [show decide ((i : Int) < 0) = false from decide_eq_false (by omega),sel_false]
   refine shaped_L3_ok hinc e2 e3 c0.2.2.2 _ (fun hpar hnod hkid hK=>?_)
   have S0 : Shp0 t.Nodes t.Root:=⟨(inc_uniq hinc).1,(inc_uniq hinc).2,⟨y,e3⟩,hpar,hkid,hnod⟩
   rw [wrap_id (by omega) (by omega)]
   by_cases ct : (t.Nodes.flatMap (·.Kids)).length + 1 = t.Nodes.length
   ·rw [show (((t.Nodes.flatMap (·.Kids)).length : Int) != (t.Nodes.length : Int) - 1) = false by rw [bne_eq_false_iff_eq];omega,sel_false]
    have hpl:=pre_len S0 (f:=t.Nodes.length) Reach.z
    rw [rorder_ok S0 c0.2.2.2 t.Nodes.length N0 0 t.Root [] Reach.z (by omega) (by unfold N0;omega) (by simp only [List.length_nil];omega),bind_some',List.nil_append]
    refine ⟨_,rfl,?_⟩
    simp only [beq_iff_eq]
    constructor
    ·intro h
     exact ⟨c0,hinc,hpar,⟨y,e3⟩,hkid,hnod,ct,by unfold Whole;omega⟩
    ·intro S'
     have:=S'.whole
     unfold Whole at this
     rw [this]
   ·rw [show (((t.Nodes.flatMap (·.Kids)).length : Int) != (t.Nodes.length : Int) - 1) = true by rw [bne_iff_ne];omega,sel_true]
    exact RQ.bad fun S'=>ct S'.tot
  ·simp only [e1,bindN]
   refine RQ.bad fun S=>?_
   obtain ⟨n,hn⟩:=S.rt
   rw [e2] at hn;cases hn
 ·have e : ((((decide (t.Next < 2)) || (decide (t.Next > 1099511627776))) || (decide ((t.Nodes.length : Int) < 1))) || (decide ((t.Nodes.length : Int) > 400))) = true:=by
   simp only [Bool.or_eq_true,decide_eq_true_eq];omega
  rw [e,sel_true]
  exact RQ.bad fun S=>c0 S.lim
end
end Go.Proofs.YtcenpkkficeaaaaGreatDoor
end
section
namespace Go.Proofs.YtcenpkkficeaaaaGreatDoor
open Go Go.E2
mutual
def AValue.wt : AValue → Nat
 | ⟨_,_,_,l⟩=>1 + AValue.wtL l
def AValue.wtL : List AValue → Nat
 | []=>0
 | x :: r=>AValue.wt x + AValue.wtL r
end
theorem AValue.wt_eq (v : AValue) : v.wt = 1 + AValue.wtL v.L:=by cases v;unfold AValue.wt;rfl
theorem AValue.wtL_nil : AValue.wtL [] = 0:=by unfold AValue.wtL;rfl
theorem AValue.wtL_cons (x : AValue) (r : List AValue) : AValue.wtL (x :: r) = x.wt + AValue.wtL r:=by
 conv=>lhs;unfold AValue.wtL
theorem AValue.wt_pos (v : AValue) : 1 ≤ v.wt:=by rw [AValue.wt_eq];omega
theorem AValue.wtL_len : ∀ l : List AValue,l.length ≤ AValue.wtL l
 | []=>by simp
 | x :: r=>by
  have:=AValue.wtL_len r
  have:=x.wt_pos
  rw [AValue.wtL_cons];simp;omega
theorem AValue.wtL_mem : ∀ {l : List AValue} {x : AValue},x ∈ l → x.wt ≤ AValue.wtL l
 | [],x,h=>by cases h
 | y :: r,x,h=>by
  rw [AValue.wtL_cons]
  rcases List.mem_cons.1 h with e | e
  ·subst e;omega
  ·have:=AValue.wtL_mem e;omega
theorem copy_ok : ∀ n : Nat,(∀ v : AValue,2 * v.wt ≤ n → v.wt < 1000000 → vw_value n v = some v) ∧ (∀ l : List AValue,2 * AValue.wtL l + 1 ≤ n → AValue.wtL l < 1000000 → vw_values n l = some l):=by
 intro n
 induction n with
 | zero=>exact ⟨fun v h=>by have:=v.wt_pos;omega,fun l h=>by omega⟩
 | succ n ih =>
  refine ⟨fun v h hb=>?_,fun l h hb=>?_⟩
  ·show vw_value_B (vw_value n) (vw_values n) v = some v
   unfold vw_value_B
   have hw:=v.wt_eq
   rw [ih.2 v.L (by omega) (by omega)]
   cases v;rfl
  ·show vw_values_B (vw_value n) (vw_values n) l = some l
   unfold vw_values_B
   rw [jn_eq]
   have hlen:=AValue.wtL_len l
   have key : ∀ (m i : Nat),l.length - i < m → i ≤ l.length → loopK (vw_values_L1 (vw_value n) l fun s=>some s) m (l.take i,(i : Int)) = some l:=by
    intro m
    induction m with
    | zero=>intro i h;omega
    | succ m ihm =>
     intro i hm hi
     show vw_values_L1 (vw_value n) l (fun s=>some s) (loopK _ m) (l.take i,(i : Int)) = some l
     generalize loopK (vw_values_L1 (vw_value n) l fun s=>some s) m = again at ihm ⊢
     unfold vw_values_L1
     dsimp only
     by_cases hl : i < l.length
     ·have hx:=AValue.wtL_mem (List.getElem_mem hl)
      rw [nz_lt hl,sel_true,idxO_at hl,bind_some',ih.1 l[i] (by omega) (by omega),bind_some',appO_eq (by simp;omega),bind_some',wrap_id (by omega) (by omega)]
      have e : l.take i ++ [l[i]] = l.take (i + 1):=by rw [List.take_add_one,List.getElem?_eq_getElem hl];rfl
      rw [e]
      exact ihm (i + 1) (by omega) (by omega)
     ·rw [nz_ge (by omega),sel_false,List.take_of_length_le (by omega)]
   have:=key N0 0 (by unfold N0;omega) (by omega)
   simpa using this
theorem copy_big {v : AValue} (h : v.wt < 1000000) : vw_value N0 v = some v:=(copy_ok N0).1 v (by unfold N0;omega) h
def AttrsOk (l : List Attr) : Prop:=l.length ≤ 1000 ∧ ∀ a ∈ l,a.Value.wt < 1000000
end Go.Proofs.YtcenpkkficeaaaaGreatDoor
end
section
namespace Go.Proofs.YtcenpkkficeaaaaGreatDoor
open Go Go.E2
theorem eqLoop {α : Type} {a b : List α} {B : (Int → Option Bool) → Int → Option Bool} (hl : a.length = b.length) (hn : a.length < N0)
  (hc : ∀ again (i : Nat) x y,i < a.length → a[i]? = some x → b[i]? = some y → (x = y → B again (i : Int) = again ((i + 1 : Nat) : Int)) ∧ (x ≠ y → B again (i : Int) = some false))
  (he : ∀ again,B again (a.length : Int) = some true) : ∃ d,loopK B N0 0 = some d ∧ (d = true ↔ a = b):=by
 refine loopI (L:=a) (fun (_ : Unit) i=>(i : Int)) (fun i _=>a.take i = b.take i) (fun r=>∃ d,r = some d ∧ (d = true ↔ a = b)) hn ?_ ?_ () rfl
 ·intro again _ i x hx hi hp
  have hy : b[i]? = some b[i]:=List.getElem?_eq_getElem (by omega)
  obtain ⟨h1,h2⟩:=hc again i x b[i] hi hx hy
  by_cases c : x = b[i]
  ·refine .inr ⟨(),?_,h1 c⟩
   rw [take_suc hx,take_suc hy,hp,c]
  ·refine .inl ⟨false,h2 c,⟨fun e=>Bool.noConfusion e,fun e=>?_⟩⟩
   subst e
   rw [hy] at hx
   exact absurd (Option.some.inj hx).symm c
 ·intro again _ hp
  refine ⟨true,he again,⟨fun _=>?_,fun _=>rfl⟩⟩
  rw [List.take_length,hl,List.take_length] at hp
  exact hp
theorem AValue.ext' {v w : AValue} (h1 : v.Kind = w.Kind) (h2 : v.N = w.N) (h3 : v.S = w.S) (h4 : v.L = w.L) : v = w:=by
 cases v;cases w;simp_all
theorem View.ext' {v w : View} (h1 : v.Kind = w.Kind) (h2 : v.Key = w.Key) (h3 : v.Attrs = w.Attrs) (h4 : v.Actions = w.Actions) (h5 : v.Kids = w.Kids) : v = w:=by
 cases v;cases w;simp_all
theorem rsame_ok : ∀ (n : Nat) (v w : AValue),v.wt ≤ n → v.wt < 1000000 → ∃ c,r11_Same n v w = some c ∧ (c = true ↔ v = w)
 | 0,v,w,h,_=>by have:=v.wt_pos;omega
 | n + 1,v,w,h,hb=>by
  show ∃ c,r11_Same_B (r11_Same n) (r11_SameValues n) v w = some c ∧ _
  unfold r11_Same_B
  have hw:=v.wt_eq
  have hlen:=AValue.wtL_len v.L
  by_cases c1 : v.Kind = w.Kind ∧ v.N = w.N ∧ v.S = w.S ∧ v.L.length = w.L.length
  ·obtain ⟨d1,d2,d3,d4⟩:=c1
   rw [show ((((v.Kind != w.Kind) || (v.N != w.N)) || (!(v.S.toList == w.S.toList))) || ((v.L.length : Int) != (w.L.length : Int))) = false by simp [d1,d2,d3,d4],sel_false,jn_eq]
   obtain ⟨d,e1,e2⟩:=eqLoop (a:=v.L) (b:=w.L) (B:=r11_Same_L1 (r11_Same n) v w fun _=>some true) d4 (by unfold N0;omega) (fun again i x y hi hx hy=>by
    have hm:=AValue.wtL_mem (List.mem_of_getElem? hx)
    obtain ⟨c,c1,c2⟩:=rsame_ok n x y (by omega) (by omega)
    unfold r11_Same_L1
    rw [nz_lt hi,sel_true,idxO_nat,hx,bind_some',idxO_nat,hy,bind_some',c1,bind_some',wrap_suc hi (by unfold N0;omega)]
    constructor
    ·intro e;rw [c2.2 e];rfl
    ·intro e
     have : c = false:=by cases c with
      | false=>rfl
      | true=>exact absurd (c2.1 rfl) e
     rw [this];rfl) (fun again=>by
    unfold r11_Same_L1
    rw [nz_ge (Nat.le_refl _),sel_false])
   exact ⟨d,e1,e2.trans ⟨fun e=>AValue.ext' d1 d2 d3 e,fun e=>by rw [e]⟩⟩
  ·refine ⟨false,sel_t ?_ _ _,⟨fun e=>Bool.noConfusion e,fun e=>absurd (by subst e;exact ⟨rfl,rfl,rfl,rfl⟩) c1⟩⟩
   rw [bs_eq]
   simp only [Bool.or_eq_true,bne_iff_ne,ne_eq,Bool.not_eq_true',decide_eq_false_iff_not]
   by_cases d1 : v.Kind = w.Kind
   ·by_cases d2 : v.N = w.N
    ·by_cases d3 : v.S = w.S
     ·exact .inr (fun d4=>c1 ⟨d1,d2,d3,by omega⟩)
     ·exact .inl (.inr d3)
    ·exact .inl (.inl (.inr d2))
   ·exact .inl (.inl (.inl d1))
theorem rsameL_ok {a b : List AValue} (h : AValue.wtL a < 1000000) : ∃ c,r11_SameValues N0 a b = some c ∧ (c = true ↔ a = b):=by
 have hN : N0 = (N0 - 1) + 1:=by unfold N0;omega
 rw [hN]
 show ∃ c,r11_SameValues_B (r11_Same (N0 - 1)) (r11_SameValues (N0 - 1)) a b = some c ∧ _
 unfold r11_SameValues_B
 have hlen:=AValue.wtL_len a
 by_cases c1 : a.length = b.length
 ·rw [show ((a.length : Int) != (b.length : Int)) = false by simp [c1],sel_false,jn_eq]
  exact eqLoop (a:=a) (b:=b) c1 (by unfold N0;omega) (fun again i x y hi hx hy=>by
   have hm:=AValue.wtL_mem (List.mem_of_getElem? hx)
   obtain ⟨c,c1,c2⟩:=rsame_ok (N0 - 1) x y (by unfold N0;omega) (by omega)
   unfold r11_SameValues_L1
   rw [nz_lt hi,sel_true,idxO_nat,hx,bind_some',idxO_nat,hy,bind_some',c1,bind_some',wrap_suc hi (by unfold N0;omega)]
   constructor
   ·intro e;rw [c2.2 e];rfl
   ·intro e
    have : c = false:=by cases c with
     | false=>rfl
     | true=>exact absurd (c2.1 rfl) e
    rw [this];rfl) (fun again=>by
   unfold r11_SameValues_L1
   rw [nz_ge (Nat.le_refl _),sel_false])
 ·exact ⟨false,sel_t (by rw [bne_iff_ne];omega) _ _,⟨fun e=>Bool.noConfusion e,fun e=>absurd (by rw [e]) c1⟩⟩
def ActsOk (l : List Action) : Prop:=l.length ≤ 1000 ∧ ∀ a ∈ l,AValue.wtL a.Args < 1000000
theorem rsameC_ok {a b : List Action} (h : ActsOk a) : ∃ c,r14_SameActions a b = some c ∧ (c = true ↔ a = b):=by
 unfold r14_SameActions
 have h0:=h.1
 by_cases c1 : a.length = b.length
 ·rw [show ((a.length : Int) != (b.length : Int)) = false by simp [c1],sel_false,jn_eq]
  exact eqLoop (a:=a) (b:=b) c1 (by unfold N0;omega) (fun again i x y hi hx hy=>by
   obtain ⟨c,c1,c2⟩:=rsameL_ok (a:=x.Args) (b:=y.Args) (h.2 x (List.mem_of_getElem? hx))
   unfold r14_SameActions_L1
   simp only [nz_lt hi,selT',idxO_nat,hx,hy,bindN,bs_eq]
   rw [wrap_suc hi (by unfold N0;omega)]
   obtain ⟨x1,x2,x3,x4⟩:=x
   obtain ⟨y1,y2,y3,y4⟩:=y
   simp only [Action.mk.injEq] at c1 c2 ⊢
   by_cases d1 : x1 = y1
   ·subst d1
    simp only [decide_true,Bool.not_true,Bool.not_false,gO_true,bind_some',Bool.false_or,true_and]
    by_cases d2 : x2 = y2
    ·subst d2
     simp only [decide_true,Bool.not_true,Bool.not_false,gO_true,bind_some',Bool.false_or,true_and]
     by_cases d3 : x3 = y3
     ·subst d3
      simp only [decide_true,Bool.not_true,Bool.not_false,gO_true,bind_some',Bool.false_or,true_and]
      rw [c1,bind_some']
      constructor
      ·intro e;rw [c2.2 e];rfl
      ·intro e
       have : c = false:=by cases c with
        | false=>rfl
        | true=>exact absurd (by rw [c2.1 rfl]) e
       rw [this];rfl
     ·simp [d3]
    ·simp [d2]
   ·simp [d1]) (fun again=>by
   unfold r14_SameActions_L1
   rw [nz_ge (Nat.le_refl _),sel_false])
 ·exact ⟨false,sel_t (by rw [bne_iff_ne];omega) _ _,⟨fun e=>Bool.noConfusion e,fun e=>absurd (by rw [e]) c1⟩⟩
mutual
def View.dp : View → Nat
 | ⟨_,_,_,_,kids⟩=>1 + View.dpL kids
def View.dpL : List View → Nat
 | []=>0
 | x :: r=>max (View.dp x) (View.dpL r)
end
mutual
def View.bd : View → Prop
 | ⟨_,_,las,cs,kids⟩=>AttrsOk las ∧ ActsOk cs ∧ kids.length ≤ 1000000 ∧ View.bdL kids
def View.bdL : List View → Prop
 | []=>True
 | x :: r=>View.bd x ∧ View.bdL r
end
theorem View.dp_eq (v : View) : v.dp = 1 + View.dpL v.Kids:=by cases v;conv=>lhs;unfold View.dp
theorem View.dpL_mem : ∀ {l : List View} {x : View},x ∈ l → x.dp ≤ View.dpL l
 | [],_,h=>by cases h
 | y :: r,x,h=>by
  unfold View.dpL
  rcases List.mem_cons.1 h with e | e
  ·subst e;omega
  ·have:=View.dpL_mem e;omega
theorem View.dpL_le : ∀ {l : List View} {n : Nat},(∀ x ∈ l,x.dp ≤ n) → View.dpL l ≤ n
 | [],_,_=>by unfold View.dpL;omega
 | y :: r,n,h=>by
  unfold View.dpL
  have h1:=h y (by simp)
  have:=View.dpL_le (l:=r) (n:=n) (fun x hx=>h x (by simp [hx]))
  omega
theorem View.bdL_eq : ∀ l,View.bdL l ↔ ∀ a ∈ l,View.bd a
 | []=>by unfold View.bdL;simp
 | x :: r=>by unfold View.bdL;rw [View.bdL_eq r];simp
theorem View.bd_eq (v : View) : View.bd v ↔ AttrsOk v.Attrs ∧ ActsOk v.Actions ∧ v.Kids.length ≤ 1000000 ∧ ∀ a ∈ v.Kids,View.bd a:=by
 cases v
 conv=>lhs;unfold View.bd
 rw [View.bdL_eq]
theorem copied_ok {las : List Attr} {cs : List Action} (h1 : AttrsOk las) (h2 : ActsOk cs) : vw_copied las cs = some (las,cs):=by
 unfold vw_copied
 rw [jn_eq]
 have a0:=h1.1
 have c0:=h2.1
 refine loopI (L:=las) (fun (s : List Attr) i=>(s,(i : Int))) (fun i s=>s = las.take i) (fun r=>r = some (las,cs)) (by unfold N0;omega) ?_ ?_ [] rfl
 ·intro again s i x hx hi hs
  refine .inr ⟨las.take (i + 1),rfl,?_⟩
  unfold vw_copied_L2
  simp only [nz_lt hi,sel_true,idxO_nat,hx,bind_some']
  rw [copy_big (h1.2 x (List.mem_of_getElem? hx)),bind_some',appO_eq (by rw [hs];simp;omega),bind_some',wrap_suc hi (by unfold N0;omega),hs,take_suc hx]
 ·intro again s hs
  unfold vw_copied_L2
  simp only [nz_ge (Nat.le_refl _),selF',jnN]
  rw [hs,List.take_length]
  refine loopI (L:=cs) (fun (s : List Action) i=>(s,(i : Int))) (fun i s=>s = cs.take i) (fun r=>r = some (las,cs)) (by unfold N0;omega) ?_ ?_ [] rfl
  ·intro again s i x hx hi hs
   refine .inr ⟨cs.take (i + 1),rfl,?_⟩
   unfold vw_copied_L1
   simp only [nz_lt hi,sel_true,idxO_nat,hx,bind_some']
   have hw:=h2.2 x (List.mem_of_getElem? hx)
   rw [(copy_ok N0).2 x.Args (by unfold N0;omega) hw,bind_some',appO_eq (by rw [hs];simp;omega),bind_some',wrap_suc hi (by unfold N0;omega),hs,take_suc hx]
  ·intro again s hs
   unfold vw_copied_L1
   simp only [nz_ge (Nat.le_refl _),sel_false]
   rw [hs,List.take_length]
end Go.Proofs.YtcenpkkficeaaaaGreatDoor
end
section
namespace Go.Proofs.YtcenpkkficeaaaaGreatDoor
open Go Go.E2
def NB (n : Node) : Prop:=AttrsOk n.Attrs ∧ ActsOk n.Actions ∧ n.Kids.length ≤ 1000000 ∧ n.Key.size < N0
def TB (t : Tree) : Prop:=∀ n ∈ t.Nodes,NB n
theorem zN_NB : NB zN:=⟨⟨by unfold zN;simp,by unfold zN;simp⟩,⟨by unfold zN;simp,by unfold zN;simp⟩,by unfold zN;simp,by unfold zN;show (0 : Nat) < N0;unfold N0;omega⟩
def zV : View:=View.mk 0 ByteArray.empty ([] : List Attr) ([] : List Action) ([] : List View)
theorem zV_sm : zV.sm:=by rw [View.sm_eq];exact ⟨by unfold zV;show (0 : Nat) < N0;unfold N0;omega,by unfold zV;simp⟩
def dscT (t : Tree) : View:=dsc t.Nodes t.Nodes.length t.Root
theorem rpath_ok {t : Tree} (S : Shp0 t.Nodes t.Root) (h400 : t.Nodes.length ≤ 400) : ∀ (d n : Nat) (x : Int), Reach t.Nodes t.Root d x → d < n → r14_path n t x = some (pth t.Nodes d x)
  | d, 0, x, _, h => by omega
  | d, n + 1, x, hr, h => by
    show r14_path_B (r14_path n) t x = _
    unfold r14_path_B
    rw [Node_ok t x (by unfold N0; omega), bind_some']
    cases d with
    | zero =>
      have := reach_zero hr
      subst this
      rw [show ((nd t.Nodes t.Root).Parent == 0) = true by rw [beq_iff_eq]; exact up_root S]
      rfl
    | succ d =>
      have hu := (reach_up S hr).1
      have hp := reach_pos S hu
      have hd := reach_depth S hr
      rw [show ((nd t.Nodes x).Parent == 0) = false by rw [beq_eq_false_iff_ne]; have : up t.Nodes x ≠ 0 := by omega
                                                       exact this, sel_false]
      show (r14_path n t (up t.Nodes x)).bind _ = _
      rw [rpath_ok S h400 d n _ hu (by omega), bind_some', appO_eq (by rw [pth_len]; simp; omega)]
      rfl
end Go.Proofs.YtcenpkkficeaaaaGreatDoor
end
section
namespace Go.Proofs.YtcenpkkficeaaaaGreatDoor
open Go Go.E2
structure OkV (v : View) : Prop where
 kind : 1 ≤ v.Kind ∧ v.Kind ≤ 13
 key : keyE v.Key = true
 atts : v.Attrs.length ≤ 24
 acts : v.Actions.length ≤ 24
 kids : v.Kids.length ≤ 100
 atf : atF none v.Attrs = 0
 acf : acF none v.Actions = 0
 dup : dupF [] v.Kids = false
theorem val_parts {f : Nat} {v : View} {d m : Int} (h : (valF (f + 1) v d m).1 = 0) : d ≤ 16 ∧ m + 1 ≤ 400 ∧ OkV v ∧ (kdF (fun k m=>valF f k (d + 1) m) v.Kids (m + 1)).1 = 0:=by
 change (valB (fun k m=>valF f k (d + 1) m) v d m).1 = 0 at h
 unfold valB at h
 by_cases c1 : d > 16
 ·rw [if_pos c1] at h;cases h
 rw [if_neg c1] at h
 by_cases c2 : m + 1 > 400
 ·rw [if_pos c2] at h;cases h
 rw [if_neg c2] at h
 by_cases c3 : v.Kind < 1 ∨ v.Kind > 13
 ·rw [if_pos c3] at h;cases h
 rw [if_neg c3] at h
 cases c4 : keyE v.Key with
 | false=>rw [c4,if_pos rfl] at h;cases h
 | true =>
  rw [c4,if_neg (by exact Bool.noConfusion)] at h
  by_cases c5 : v.Attrs.length > 24 ∨ v.Actions.length > 24 ∨ v.Kids.length > 100
  ·rw [if_pos c5] at h;cases h
  rw [if_neg c5] at h
  by_cases c6 : atF none v.Attrs = 0
  ·rw [if_neg (by simp [c6])] at h
   by_cases c7 : acF none v.Actions = 0
   ·rw [if_neg (by simp [c7])] at h
    cases c8 : dupF [] v.Kids with
    | true=>rw [c8,if_pos rfl] at h;cases h
    | false =>
     rw [c8,if_neg (by exact Bool.noConfusion)] at h
     exact ⟨by omega,by omega,⟨by omega,c4,by omega,by omega,by omega,c6,c7,c8⟩,h⟩
   ·rw [if_pos c7] at h;exact absurd h c7
  ·rw [if_pos c6] at h;exact absurd h c6
theorem kd_each {g : View → Int → Int × Int} : ∀ {l : List View} {m : Int},(kdF g l m).1 = 0 → ∀ k ∈ l,∃ m',(g k m').1 = 0
 | [],m,_,k,hk=>by cases hk
 | x :: r,m,h,k,hk=>by
  rw [kdF_cons] at h
  by_cases c : (g x m).1 = 0
  ·rw [if_neg (by simp [c])] at h
   rcases List.mem_cons.1 hk with e | e
   ·subst e;exact ⟨m,c⟩
   ·exact kd_each h k e
  ·rw [if_pos c] at h;exact absurd h c
theorem reach_valid {t : Tree} (S : Shp t) (he : errV (dscT t) = 0) : ∀ {d : Nat} {x : Int},Reach t.Nodes t.Root d x → d ≤ 15 ∧ ∃ m,(valF (17 - d) (dsc t.Nodes (t.Nodes.length - d) x) (1 + (d : Int)) m).1 = 0
 | 0,x,hr=>by
  have:=reach_zero hr
  subst this
  exact ⟨by omega,0,he⟩
 | d + 1,x,hr=>by
  obtain ⟨h1,h2⟩:=reach_up S.to0 hr
  obtain ⟨h3,m,h4⟩:=reach_valid S he h1
  have hd:=reach_depth S.to0 hr
  rw [show 17 - d = (16 - d) + 1 by omega,show t.Nodes.length - d = (t.Nodes.length - (d + 1)) + 1 by omega] at h4
  obtain ⟨_,_,_,h5⟩:=val_parts h4
  obtain ⟨m',h6⟩:=kd_each h5 (dsc t.Nodes (t.Nodes.length - (d + 1)) x) (List.mem_map.2 ⟨x,h2,rfl⟩)
  have e : 1 + ((d + 1 : Nat) : Int) = 1 + (d : Int) + 1:=by omega
  refine ⟨?_,m',?_⟩
  ·by_cases c : d = 15
   ·subst c
    rw [show 16 - 15 = 0 + 1 by omega] at h6
    have:=(val_parts h6).1
    omega
   ·omega
  ·rw [e,show 17 - (d + 1) = 16 - d by omega];exact h6
theorem good_node {t : Tree} (S : Shp t) (he : errV (dscT t) = 0) {d : Nat} {x : Int} (hr : Reach t.Nodes t.Root d x) : d ≤ 15 ∧ OkV (View.mk (nd t.Nodes x).Kind (nd t.Nodes x).Key (nd t.Nodes x).Attrs (nd t.Nodes x).Actions ((nd t.Nodes x).Kids.map (dsc t.Nodes (t.Nodes.length - (d + 1))))):=by
 obtain ⟨h1,m,h2⟩:=reach_valid S he hr
 have hd:=reach_depth S.to0 hr
 rw [show 17 - d = (16 - d) + 1 by omega,show t.Nodes.length - d = (t.Nodes.length - (d + 1)) + 1 by omega] at h2
 exact ⟨h1,(val_parts h2).2.2.1⟩
theorem kids100 {t : Tree} (S : Shp t) (he : errV (dscT t) = 0) {d : Nat} {x : Int} (hr : Reach t.Nodes t.Root d x) : (nd t.Nodes x).Kids.length ≤ 100:=by
 have h : ((nd t.Nodes x).Kids.map (dsc t.Nodes (t.Nodes.length - (d + 1)))).length ≤ 100:=(good_node S he hr).2.kids
 rwa [List.length_map] at h
theorem key24 {t : Tree} (S : Shp t) (he : errV (dscT t) = 0) {d : Nat} {x : Int} (hr : Reach t.Nodes t.Root d x) : (nd t.Nodes x).Key.size ≤ 24:=by
 have h : keyE (nd t.Nodes x).Key = true:=(good_node S he hr).2.key
 exact (of_decide_eq_true h).1
theorem pth_get {L : List Node} {root : Int} (S : Shp0 L root) : ∀ {d : Nat} {x : Int},Reach L root d x → ∀ i y,(pth L d x)[i]? = some y → i ≤ d ∧ Reach L root i y ∧ (0 < i → (pth L d x)[i - 1]? = some (up L y))
 | 0,x,hr,i,y,h=>by
  change [x][i]? = some y at h
  obtain ⟨hi,e⟩:=List.getElem?_eq_some_iff.1 h
  simp at hi;subst hi
  simp at e;subst e
  exact ⟨Nat.le_refl _,hr,fun h=>by omega⟩
 | d + 1,x,hr,i,y,h=>by
  have hu:=(reach_up S hr).1
  unfold pth at h ⊢
  by_cases c : i < (pth L d (up L x)).length
  ·rw [List.getElem?_append_left c] at h
   obtain ⟨h1,h2,h3⟩:=pth_get S hu i y h
   exact ⟨by omega,h2,fun h0=>by rw [List.getElem?_append_left (by omega)];exact h3 h0⟩
  ·rw [List.getElem?_append_right (by omega)] at h
   rw [pth_len] at c h
   obtain ⟨hi,e⟩:=List.getElem?_eq_some_iff.1 h
   simp at hi
   have hi' : i = d + 1:=by omega
   subst hi'
   simp at e;subst e
   exact ⟨Nat.le_refl _,hr,fun _=>by
    rw [List.getElem?_append_left (by rw [pth_len];omega),Nat.add_sub_cancel]
    exact pth_last d _⟩
end Go.Proofs.YtcenpkkficeaaaaGreatDoor
end
section
namespace Go.Proofs.YtcenpkkficeaaaaGreatDoor
open Go Go.E2
theorem chk_loop {n : Nat} {a0 : AValue} {a1 : Int} (ih : ∀ (v : AValue) (d m : Int) (t : AType) (m' : Int),0 ≤ m → m ≤ 1000 → ex_check n v d m = some (t,0,m') → m' = m + v.wt ∧ m' ≤ 1000) (hlen : a0.L.length ≤ 100)
  {k12 : (List AType) × Int → Option (AType × Int × Int)} (hk : ∀ l m t m',k12 (l,m) = some (t,0,m') → m' = m) :
  ∀ (f i : Nat) (l : List AType) (m : Int) (t : AType) (m' : Int),i ≤ a0.L.length → 0 ≤ m → m ≤ 1000 → loopK (ex_check_L1 (ex_check n) a0 a1 k12) f (l,(i : Int),m) = some (t,0,m') → m' = m + AValue.wtL (a0.L.drop i) ∧ m' ≤ 1000
 | 0,_,_,_,_,_,_,_,_,h=>by cases h
 | f + 1,i,l,m,t,m',hi,h0,h1,h=>by
  have IH:=chk_loop (a1:=a1) ih hlen hk f
  change ex_check_L1 (ex_check n) a0 a1 k12 (loopK _ f) (l,(i : Int),m) = some (t,0,m') at h
  generalize loopK (ex_check_L1 (ex_check n) a0 a1 k12) f = again at h IH
  unfold ex_check_L1 at h
  simp only at h
  by_cases c : i < a0.L.length
  ·have hx : a0.L[i]? = some a0.L[i]:=List.getElem?_eq_getElem c
   rw [nz_lt c,sel_true,idxO_nat,hx,bind_some'] at h
   obtain ⟨r,r1,r2⟩:=bind_some h
   obtain ⟨t1,e1,m1⟩:=r
   simp only at r2
   by_cases he : e1 = 0
   ·subst he
    rw [show ((0 : Int) != 0) = false from rfl,sel_false] at r2
    obtain ⟨l2,l3,r3⟩:=bind_some r2
    obtain ⟨g1,g2⟩:=ih _ _ _ _ _ h0 h1 r1
    have hw:=a0.L[i].wt_pos
    rw [wrap_suc c (by unfold N0;omega)] at r3
    obtain ⟨g3,g4⟩:=IH (i + 1) l2 m1 t m' (by omega) (by omega) g2 r3
    rw [drop_cons' hx,AValue.wtL_cons]
    exact ⟨by omega,g4⟩
   ·rw [show (e1 != 0) = true by simp [he],sel_true] at r2
    exact absurd (congrArg (fun x=>x.2.1) (Option.some.inj r2)) he
  ·rw [nz_ge (by omega),sel_false] at h
   have:=hk _ _ _ _ h
   rw [List.drop_eq_nil_of_le (by omega),AValue.wtL_nil]
   omega
theorem chk_cnt : ∀ (n : Nat) (v : AValue) (d m : Int) (t : AType) (m' : Int),0 ≤ m → m ≤ 1000 → ex_check n v d m = some (t,0,m') → m' = m + v.wt ∧ m' ≤ 1000
 | 0,_,_,_,_,_,_,_,h=>by cases h
 | n + 1,v,d,m,t,m',h0,h1,h=>by
  change ex_check_B (ex_check n) v d m = some (t,0,m') at h
  unfold ex_check_B at h
  rw [wrap_id (x:=m + 1) (by omega) (by omega),fields_eq,bind_some',range_jn] at h
  cases c1 : ((v.Kind == 4) && (decide (d ≥ 16))) with
  | true=>rw [c1,sel_true] at h;cases h
  | false =>
   rw [c1,sel_false] at h
   cases c2 : badF v with
   | true=>rw [c2] at h;cases h
   | false =>
    rw [c2,Bool.not_false,Bool.not_true,sel_false] at h
    cases c3 : badR v with
    | true=>rw [c3,sel_true] at h;cases h
    | false =>
     rw [c3,sel_false] at h
     cases c4 : (((decide ((v.S.size : Int) > 2000)) || (decide ((v.L.length : Int) > 100))) || (decide (m + 1 > 1000))) with
     | true=>rw [c4,sel_true] at h;cases h
     | false =>
      rw [c4,sel_false] at h
      simp only [Bool.or_eq_false_iff,decide_eq_false_iff_not] at c4
      obtain ⟨b,_,hb⟩:=bind_some h
      cases b with
      | false=>cases hb
      | true =>
       rw [Bool.not_true,sel_false] at hb
       have hw:=v.wt_eq
       by_cases c5 : v.Kind = 4
       ·rw [show (v.Kind != 4) = false by simp [c5],sel_false,jn_eq] at hb
        obtain ⟨e1,e2⟩:=chk_loop (chk_cnt n) (a1:=d) (by omega) (k12:=_) (fun l q t q' hq=>by
         obtain ⟨x,_,x2⟩:=bind_some hq
         cases hx : x.2 with
         | false=>rw [hx] at x2;cases x2
         | true =>
          rw [hx] at x2
          have:=Option.some.inj x2
          exact (congrArg (fun y : AType × Int × Int=>y.2.2) this).symm) N0 0 [] (m + 1) t m' (Nat.zero_le _) (by omega) (by omega) hb
        rw [List.drop_zero] at e1
        exact ⟨by omega,e2⟩
       ·rw [show (v.Kind != 4) = true by simp [c5],sel_true] at hb
        have e : m' = m + 1:=(congrArg (fun y : AType × Int × Int=>y.2.2) (Option.some.inj hb)).symm
        have hL : v.L = []:=by
         unfold badF at c2
         simp only [Bool.or_eq_false_iff,Bool.and_eq_false_iff] at c2
         rcases c2.2 with c | c
         ·have : ¬ ((v.L.length : Int) > 0):=by simpa using c
          exact List.length_eq_zero_iff.1 (by omega)
         ·exact absurd (by simpa using c) c5
        rw [hL,AValue.wtL_nil] at hw
        exact ⟨by omega,by omega⟩
theorem chE_wt {v : AValue} (h : chE v = 0) : v.wt ≤ 1000:=by
 have h1:=chE_x v
 rw [h] at h1
 unfold ex_Check at h1
 obtain ⟨x,x1,x2⟩:=bind_some h1
 unfold ex_TypeOf at x1
 obtain ⟨y,y1,y2⟩:=bind_some x1
 obtain ⟨t,e,m⟩:=y
 by_cases he : e = 0
 ·subst he
  have:=chk_cnt N0 v 0 0 t m (by omega) (by omega) y1
  omega
 ·simp only at y2
  rw [show (e != 0) = true by simp [he],sel_true] at y2
  have:=Option.some.inj y2
  rw [← this] at x2
  exact absurd (Option.some.inj x2) he
theorem atF_each : ∀ {l : List Attr} {p : Option Attr},atF p l = 0 → ∀ a ∈ l,chE a.Value = 0
 | [],_,_,a,ha=>by cases ha
 | x :: r,p,h,a,ha=>by
  rw [atF_cons] at h
  by_cases c1 : namE x.Name = false
  ·rw [if_pos c1] at h;cases h
  rw [if_neg c1] at h
  by_cases c2 : nle (p.map (·.Name)) x.Name = true
  ·rw [if_pos c2] at h;cases h
  rw [if_neg c2] at h
  by_cases c3 : chE x.Value = 0
  ·rw [if_neg (by simp [c3])] at h
   rcases List.mem_cons.1 ha with e | e
   ·subst e;exact c3
   ·exact atF_each h a e
  ·rw [if_pos c3] at h;exact absurd h c3
theorem vaF_each : ∀ {l : List AValue},vaF l = 0 → ∀ a ∈ l,chE a = 0
 | [],_,a,ha=>by cases ha
 | x :: r,h,a,ha=>by
  rw [vaF_cons] at h
  by_cases c3 : chE x = 0
  ·rw [if_neg (by simp [c3])] at h
   rcases List.mem_cons.1 ha with e | e
   ·subst e;exact c3
   ·exact vaF_each h a e
  ·rw [if_pos c3] at h;exact absurd h c3
theorem acF_each : ∀ {l : List Action} {p : Option Action},acF p l = 0 → ∀ a ∈ l,a.Args.length ≤ 100 ∧ a.Instance.size ≤ 400 ∧ ∀ x ∈ a.Args,chE x = 0
 | [],_,_,a,ha=>by cases ha
 | x :: r,p,h,a,ha=>by
  rw [acF_cons] at h
  by_cases c1 : (namE x.Event && namE x.Handler) = false
  ·rw [if_pos c1] at h;cases h
  rw [if_neg c1] at h
  by_cases c2 : nle (p.map (·.Event)) x.Event = true
  ·rw [if_pos c2] at h;cases h
  rw [if_neg c2] at h
  by_cases c4 : x.Instance.size > 400 ∨ x.Args.length > 100
  ·rw [if_pos c4] at h;cases h
  rw [if_neg c4] at h
  by_cases c3 : vaF x.Args = 0
  ·rw [if_neg (by simp [c3])] at h
   rcases List.mem_cons.1 ha with e | e
   ·subst e;exact ⟨by omega,by omega,vaF_each c3⟩
   ·exact acF_each h a e
  ·rw [if_pos c3] at h;exact absurd h c3
theorem wtL_le {n : Nat} : ∀ {l : List AValue},(∀ x ∈ l,x.wt ≤ n) → AValue.wtL l ≤ n * l.length
 | [],_=>by rw [AValue.wtL_nil];omega
 | x :: r,h=>by
  rw [AValue.wtL_cons,List.length_cons,Nat.mul_succ]
  have:=h x (by simp)
  have:=wtL_le (l:=r) (fun y hy=>h y (by simp [hy]))
  omega
theorem OkV.attsOk {v : View} (h : OkV v) : AttrsOk v.Attrs:=⟨by have:=h.atts;omega,fun a ha=>by have:=chE_wt (atF_each h.atf a ha);omega⟩
theorem OkV.actsOk {v : View} (h : OkV v) : ActsOk v.Actions:=⟨by have:=h.acts;omega,fun a ha=>by
 obtain ⟨h1,_,h2⟩:=acF_each h.acf a ha
 have:=wtL_le (n:=1000) (fun x hx=>chE_wt (h2 x hx))
 have : 1000 * a.Args.length ≤ 1000 * 100:=Nat.mul_le_mul_left _ h1
 omega⟩
mutual
def View.vh : View → Prop
 | ⟨k,key,las,cs,kids⟩=>OkV ⟨k,key,las,cs,kids⟩ ∧ View.vhL kids
def View.vhL : List View → Prop
 | []=>True
 | x :: r=>View.vh x ∧ View.vhL r
end
theorem View.vhL_eq : ∀ l,View.vhL l ↔ ∀ a ∈ l,View.vh a
 | []=>by unfold View.vhL;simp
 | x :: r=>by unfold View.vhL;rw [View.vhL_eq r];simp
theorem View.vh_eq (v : View) : View.vh v ↔ OkV v ∧ ∀ a ∈ v.Kids,View.vh a:=by
 cases v
 conv=>lhs;unfold View.vh
 rw [View.vhL_eq]
mutual
def View.cnt : View → Nat
 | ⟨_,_,_,_,kids⟩=>1 + View.cntL kids
def View.cntL : List View → Nat
 | []=>0
 | x :: r=>View.cnt x + View.cntL r
end
theorem View.cnt_eq (v : View) : v.cnt = 1 + View.cntL v.Kids:=by cases v;conv=>lhs;unfold View.cnt
theorem View.cntL_cons (x : View) (r : List View) : View.cntL (x :: r) = x.cnt + View.cntL r:=by conv=>lhs;unfold View.cntL
theorem View.cntL_nil : View.cntL [] = 0:=by unfold View.cntL;rfl
theorem View.cntL_app : ∀ (l m : List View),View.cntL (l ++ m) = View.cntL l + View.cntL m
 | [],m=>by rw [List.nil_append,View.cntL_nil];omega
 | a :: r,m=>by rw [List.cons_append,View.cntL_cons,View.cntL_cons,View.cntL_app r m];omega
theorem val_all : ∀ (f : Nat) (v : View) (d m : Int),1 ≤ d → 18 ≤ (f : Int) + d → d ≤ 17 → m ≤ 400 → (valF f v d m).1 = 0 → v.vh ∧ (v.dp : Int) ≤ 17 - d ∧ (valF f v d m).2 = m + v.cnt ∧ (valF f v d m).2 ≤ 400
 | 0,_,_,_,_,h,h',_,_=>by omega
 | f + 1,v,d,m,hd,hf,h17,hm,h=>by
  obtain ⟨h1,h2,h3,h4⟩:=val_parts h
  have key : ∀ k m',m' ≤ 400 → (valF f k (d + 1) m').1 = 0 → k.vh ∧ (k.dp : Int) ≤ 17 - (d + 1) ∧ (valF f k (d + 1) m').2 = m' + k.cnt ∧ (valF f k (d + 1) m').2 ≤ 400:=fun k m' hm' h'=>val_all f k (d + 1) m' (by omega) (by omega) (by omega) hm' h'
  have hkids : ∀ (l : List View) (m' : Int),m' ≤ 400 → (kdF (fun k m=>valF f k (d + 1) m) l m').1 = 0 → (∀ k ∈ l,k.vh ∧ (k.dp : Int) ≤ 17 - (d + 1)) ∧ (kdF (fun k m=>valF f k (d + 1) m) l m').2 = m' + View.cntL l ∧ (kdF (fun k m=>valF f k (d + 1) m) l m').2 ≤ 400:=by
   intro l
   induction l with
   | nil=>intro m' hm' _;exact ⟨fun k hk=>(by cases hk),(by rw [View.cntL_nil];show m' = m' + ((0 : Nat) : Int);omega),hm'⟩
   | cons x r ih =>
    intro m' hm' hk
    rw [kdF_cons] at hk ⊢
    by_cases c : (valF f x (d + 1) m').1 = 0
    ·rw [if_neg (by simp [c])] at hk ⊢
     obtain ⟨k1,k2,k3,k4⟩:=key x m' hm' c
     obtain ⟨i1,i2,i3⟩:=ih _ k4 hk
     refine ⟨fun k hk'=>?_,by rw [i2,k3,View.cntL_cons];omega,i3⟩
     rcases List.mem_cons.1 hk' with e | e
     ·subst e;exact ⟨k1,k2⟩
     ·exact i1 k e
    ·rw [if_pos c] at hk;exact absurd hk c
  obtain ⟨i1,i2,i3⟩:=hkids v.Kids (m + 1) h2 h4
  have e : valF (f + 1) v d m = kdF (fun k m=>valF f k (d + 1) m) v.Kids (m + 1):=by
   show valB _ v d m = _
   unfold valB
   rw [if_neg (by omega),if_neg (by omega),if_neg (by have:=h3.kind;omega),if_neg (by rw [h3.key];exact Bool.noConfusion),if_neg (by have:=h3.atts;have:=h3.acts;have:=h3.kids;omega),if_neg (by simp [h3.atf]),if_neg (by simp [h3.acf]),if_neg (by rw [h3.dup];exact Bool.noConfusion)]
  rw [e,i2,View.cnt_eq,View.dp_eq]
  rw [i2] at i3
  have hdl : (View.dpL v.Kids : Int) ≤ 16 - d:=by
   have:=View.dpL_le (l:=v.Kids) (n:=(16 - d).toNat) (fun x hx=>by have:=(i1 x hx).2;omega)
   omega
  exact ⟨(View.vh_eq v).2 ⟨h3,fun a ha=>(i1 a ha).1⟩,by omega,by omega,i3⟩
theorem vh_bd : ∀ (n : Nat) (v : View),v.dp ≤ n → v.vh → v.bd
 | 0,v,h,_=>by rw [View.dp_eq] at h;omega
 | n + 1,v,h,hv=>by
  rw [View.dp_eq] at h
  rw [View.vh_eq] at hv
  rw [View.bd_eq]
  exact ⟨hv.1.attsOk,hv.1.actsOk,by have:=hv.1.kids;omega,fun a ha=>vh_bd n a (by have:=View.dpL_mem ha;omega) (hv.2 a ha)⟩
theorem vh_sm : ∀ (n : Nat) (v : View),v.dp ≤ n → v.vh → v.sm
 | 0,v,h,_=>by rw [View.dp_eq] at h;omega
 | n + 1,v,h,hv=>by
  rw [View.dp_eq] at h
  rw [View.vh_eq] at hv
  rw [View.sm_eq]
  exact ⟨by have:=(of_decide_eq_true hv.1.key).1;unfold N0;omega,fun a ha=>vh_sm n a (by have:=View.dpL_mem ha;omega) (hv.2 a ha)⟩
structure Vld (v : View) : Prop where
 vh : v.vh
 dp : v.dp ≤ 16
 cnt : v.cnt ≤ 400
 bd : v.bd
 sm : v.sm
theorem valid_all {v : View} (h : errV v = 0) : Vld v:=by
 obtain ⟨h1,h2,h3,h4⟩:=val_all 17 v 1 0 (by omega) (by omega) (by omega) (by omega) h
 exact ⟨h1,by omega,by omega,vh_bd _ v (Nat.le_refl _) h1,vh_sm _ v (Nat.le_refl _) h1⟩
end Go.Proofs.YtcenpkkficeaaaaGreatDoor
end
section
namespace Go.E2
open Go
def Tt {α : Type} (Q : α → Prop) (o : Option α) : Prop:=∃ x,o = some x ∧ Q x
theorem Tt.pure {α : Type} {Q : α → Prop} {x : α} (h : Q x) : Tt Q (some x):=⟨x,rfl,h⟩
theorem Tt.bind {α β : Type} {P : α → Prop} {Q : β → Prop} {o : Option α} {k : α → Option β} (h : Tt P o) (hk : ∀ x,P x → Tt Q (k x)) : Tt Q (o.bind k):=by
 obtain ⟨x,rfl,hx⟩:=h
 exact hk x hx
theorem Tt.sel {α : Type} {Q : α → Prop} {c : Bool} {a b : Option α} (h1 : c = true → Tt Q a) (h2 : c = false → Tt Q b) : Tt Q (sel c a b):=by
 cases c with
 | true=>exact h1 rfl
 | false=>exact h2 rfl
theorem Tt.gO {α : Type} [Inhabited α] {Q : α → Prop} {c : Bool} {a : Option α} (h1 : c = true → Tt Q a) (h2 : c = false → Q default) : Tt Q (gO c a):=by
 cases c with
 | true=>exact h1 rfl
 | false=>exact ⟨default,rfl,h2 rfl⟩
theorem Tt.jn {S R : Type} {Q : R → Prop} {k : S → Option R} {b : (S → Option R) → Option R} (C : S → Prop) (hb : ∀ k' : S → Option R,(∀ x,C x → Tt Q (k' x)) → Tt Q (b k')) (hk : ∀ x,C x → Tt Q (k x)) : Tt Q (jn k b):=hb k hk
theorem Tt.mono {α : Type} {P Q : α → Prop} {o : Option α} (h : Tt P o) (hq : ∀ x,P x → Q x) : Tt Q o:=by
 obtain ⟨x,e,hx⟩:=h
 exact ⟨x,e,hq x hx⟩
theorem Tt.loopN {σ R S : Type} {n : Nat} {B : (S → Option R) → S → Option R} {Q : R → Prop} (st : σ → Nat → S) (P : Nat → σ → Prop) (hn : n < N0)
  (hc : ∀ again s i,i < n → P i s → (∀ s',P (i + 1) s' → Tt Q (again (st s' (i + 1)))) → Tt Q (B again (st s i)))
  (he : ∀ again s,P n s → Tt Q (B again (st s n))) (s : σ) (h0 : P 0 s) : Tt Q (loopK B N0 (st s 0)):=by
 have key : ∀ (f i : Nat) (s : σ),i ≤ n → n - i < f → P i s → Tt Q (loopK B f (st s i)):=by
  intro f
  induction f with
  | zero=>intro i s _ h;exact absurd h (Nat.not_lt_zero _)
  | succ f ih =>
   intro i s hi hf hp
   show Tt Q (B (loopK B f) (st s i))
   rcases Nat.lt_or_ge i n with h | h
   ·exact hc _ s i h hp (fun s' h'=>ih (i + 1) s' (by omega) (by omega) h')
   ·obtain rfl : i = n:=by omega
    exact he _ s hp
 exact key N0 0 s (Nat.zero_le _) (by omega) h0
theorem Tt.loopM {R S : Type} {B : (S → Option R) → S → Option R} {Q : R → Prop} (μ : S → Nat) (P : S → Prop) (hc : ∀ again s,P s → (∀ s',P s' → μ s' < μ s → Tt Q (again s')) → Tt Q (B again s)) (s : S) (h0 : P s) (hn : μ s < N0) : Tt Q (loopK B N0 s):=by
 have key : ∀ (f : Nat) (s : S),μ s < f → P s → Tt Q (loopK B f s):=by
  intro f
  induction f with
  | zero=>intro s h;exact absurd h (Nat.not_lt_zero _)
  | succ f ih =>
   intro s hf hp
   show Tt Q (B (loopK B f) s)
   exact hc _ s hp (fun s' h' hm=>ih s' (by omega) h')
 exact key N0 s hn h0
theorem app_t {α : Type} {L X : List α} (h : L.length + X.length ≤ 1073741824) : Tt (fun r=>r = L ++ X) (appO L X):=⟨_,appO_eq h,rfl⟩
theorem idx_t {α : Type} {L : List α} {r : Int} (h0 : 0 ≤ r) (h1 : r < L.length) : Tt (fun x=>x ∈ L ∧ idxO L r = some x) (idxO L r):=by
 obtain ⟨x,h,hm⟩:=idxO_ok h0 h1
 exact ⟨x,h,hm,h⟩
theorem size_ofBytes (l : List Int) : (ofBytes l).size = l.length:=by
 show (l.map _).toArray.size = _
 rw [List.size_toArray,List.length_map]
end Go.E2
end
section
namespace Go.Proofs.YtcenpkkficeaaaaGreatDoor
open Go Go.E2
def SrcOk (s : widgetrybase_Src) : Prop:=0 ≤ s.At ∧ s.At ≤ s.L.length ∧ s.L.length ≤ 4000
theorem New_t (l : List Int) : Tt SrcOk (b_New l):=by
 unfold b_New
 rw [jn_eq]
 by_cases h : (l.length : Int) > 4000
 ·rw [decide_eq_true h,sel_true,show (4000 : Int) = ((4000 : Nat) : Int) from rfl,slcO_eq (by omega),bind_some']
  exact ⟨_,rfl,Int.le_refl 0,by simp,by simp;omega⟩
 ·rw [decide_eq_false h,sel_false]
  exact ⟨_,rfl,Int.le_refl 0,by simp,by simp;omega⟩
theorem N_t {s : widgetrybase_Src} {n : Int} (h : SrcOk s) (h1 : 1 ≤ n) (h2 : n ≤ 1000000) : Tt (fun r=>0 ≤ r.1 ∧ r.1 < n ∧ SrcOk r.2) (b_Src_N s n):=by
 obtain ⟨a0,a1,a2⟩:=h
 unfold b_Src_N
 by_cases hc : s.At ≥ s.L.length
 ·have : (decide (s.At ≥ (s.L.length : Int)) || decide (n < 1)) = true:=by simp;omega
  rw [this,sel_true]
  exact ⟨(0,s),rfl,by show (0 : Int) ≤ 0;omega,by show (0 : Int) < n;omega,a0,a1,a2⟩
 ·have : (decide (s.At ≥ (s.L.length : Int)) || decide (n < 1)) = false:=by simp;omega
  rw [this,sel_false]
  obtain ⟨x,hx,_⟩:=idxO_ok a0 (by omega : s.At < s.L.length)
  rw [hx,bind_some']
  have hz : nzO n (x.tmod n) = some (x.tmod n):=if_neg (by omega)
  rw [hz,bind_some',jn_eq]
  have t1 : x.tmod n < n:=Int.tmod_lt_of_pos x (by omega)
  have t2 : -n < x.tmod n:=Int.lt_tmod_of_pos x (by omega)
  have hw : IntKind.i64.wrap (s.At + 1) = s.At + 1:=wrap_id (by omega) (by omega)
  rw [hw]
  have hs : SrcOk (widgetrybase_Src.mk s.L (s.At + 1)):=⟨by show 0 ≤ s.At + 1;omega,by show s.At + 1 ≤ (s.L.length : Int);omega,a2⟩
  by_cases hm : x.tmod n < 0
  ·rw [decide_eq_true hm,sel_true,wrap_id (by omega) (by omega)]
   exact ⟨_,rfl,by show 0 ≤ x.tmod n + n;omega,by show x.tmod n + n < n;omega,hs⟩
  ·rw [decide_eq_false hm,sel_false]
   exact ⟨_,rfl,by show 0 ≤ x.tmod n;omega,t1,hs⟩
theorem Raw_t {s : widgetrybase_Src} (h : SrcOk s) : Tt (fun r=>SrcOk r.2) (b_Src_Raw s):=by
 obtain ⟨a0,a1,a2⟩:=h
 unfold b_Src_Raw
 by_cases hc : s.At ≥ s.L.length
 ·rw [decide_eq_true hc,sel_true]
  exact ⟨_,rfl,a0,a1,a2⟩
 ·rw [decide_eq_false hc,sel_false,wrap_id (x:=s.At + 1) (by omega) (by omega),wrap_id (by omega) (by omega),show s.At + 1 - 1 = s.At by omega]
  obtain ⟨x,hx,_⟩:=idxO_ok a0 (by omega : s.At < s.L.length)
  rw [hx,bind_some']
  exact ⟨_,rfl,by show 0 ≤ s.At + 1;omega,by show s.At + 1 ≤ (s.L.length : Int);omega,a2⟩
theorem Range_t {s : widgetrybase_Src} {lo hi : Int} (h : SrcOk s) (h0 : -100000 ≤ lo) (h1 : lo ≤ hi) (h2 : hi ≤ 100000) : Tt (fun r=>lo ≤ r.1 ∧ r.1 ≤ hi ∧ SrcOk r.2) (b_Src_Range s lo hi):=by
 unfold b_Src_Range
 rw [wrap_id (x:=hi - lo) (by omega) (by omega),wrap_id (by omega) (by omega)]
 refine Tt.bind (N_t h (by omega) (by omega)) (fun x hx=>⟨_,rfl,?_⟩)
 rw [wrap_id (by omega) (by omega)]
 exact ⟨by show lo ≤ lo + x.1;omega,by show lo + x.1 ≤ hi;omega,hx.2.2⟩
theorem Name_t {s : widgetrybase_Src} (h : SrcOk s) : Tt (fun r=>r.1.size ≤ 4 ∧ SrcOk r.2) (b_Src_Name s):=by
 unfold b_Src_Name
 refine Tt.bind (N_t h (by decide) (by decide)) (fun x hx=>Tt.bind (idx_t hx.1 hx.2.1) (fun y hy=>⟨_,rfl,?_,hx.2.2⟩))
 have:=hy.1
 simp only [List.mem_cons,List.not_mem_nil,or_false] at this
 rcases this with e | e | e | e | e | e | e | e <;> subst e <;> exact Nat.le_of_ble_eq_true rfl
end Go.Proofs.YtcenpkkficeaaaaGreatDoor
end
section
namespace Go.Proofs.YtcenpkkficeaaaaGreatDoor
open Go Go.E2
theorem number_t (n : Int) : Tt (fun _=>True) (b_number n):=⟨_,rfl,trivial⟩
theorem text_t (s : Str) : Tt (fun _=>True) (b_text s):=⟨_,rfl,trivial⟩
theorem flag_t (n : Int) : Tt (fun _=>True) (b_flag n):=⟨_,rfl,trivial⟩
end Go.Proofs.YtcenpkkficeaaaaGreatDoor
end
section
namespace Go.Proofs.YtcenpkkficeaaaaGreatDoor
open Go Go.E2
theorem names_t {s : widgetrybase_Src} (h : SrcOk s) {table : List Str} (h1 : 1 ≤ table.length) (h2 : table.length ≤ 100) : Tt (fun r=>SrcOk r.2) (b_Src_names s table):=by
 unfold b_Src_names
 refine Tt.bind (N_t h (by decide) (by decide)) (fun a ha=>Tt.sel (fun _=>?_) (fun _=>?_))
 ·exact Tt.bind (N_t ha.2.2 (by omega) (by omega)) (fun b hb=>Tt.bind (idx_t hb.1 hb.2.1) (fun c _=>Tt.bind (text_t c) (fun v _=>⟨_,rfl,hb.2.2⟩)))
 ·rw [jn_eq]
  refine Tt.bind (N_t ha.2.2 (by decide) (by decide)) (fun b hb=>?_)
  refine Tt.loopM (μ:=fun s=>s.1.toNat) (P:=fun s=>s.1 ≤ 4 ∧ SrcOk ⟨s.2.1,s.2.2.1⟩ ∧ (s.2.2.2.length : Int) ≤ 4 - (if 0 < s.1 then s.1 else 0)) ?_ (b.1,b.2.L,b.2.At,[]) ⟨by omega,hb.2.2,by show ((0 : Nat) : Int) ≤ 4 - (if 0 < b.1 then b.1 else 0);split <;> omega⟩ (by show b.1.toNat < N0;unfold N0;omega)
  intro again s ⟨p1,p2,p3⟩ hag
  unfold b_Src_names_L1
  refine Tt.sel (fun hc=>?_) (fun _=>⟨_,rfl,p2⟩)
  have hc0:=of_decide_eq_true hc
  rw [if_pos (by omega)] at p3
  refine Tt.bind (N_t p2 (by omega) (by omega)) (fun c hc=>Tt.bind (idx_t hc.1 hc.2.1) (fun d _=>Tt.bind (text_t d) (fun v _=>Tt.bind (app_t (by simp;omega)) (fun l hl=>?_))))
  rw [wrap_id (by omega) (by omega)]
  refine hag (s.1 - 1,c.2.L,c.2.At,l) ⟨by show s.1 - 1 ≤ 4;omega,hc.2.2,?_⟩ (by show (s.1 - 1).toNat < s.1.toNat;omega)
  show (l.length : Int) ≤ 4 - (if 0 < s.1 - 1 then s.1 - 1 else 0)
  rw [hl]
  simp only [List.length_append,List.length_cons,List.length_nil]
  split <;> omega
end Go.Proofs.YtcenpkkficeaaaaGreatDoor
end
section
namespace Go.Proofs.YtcenpkkficeaaaaGreatDoor
open Go Go.E2
theorem Name_t' {s : widgetrybase_Src} (h : SrcOk s) : Tt (fun r=>SrcOk r.2) (b_Src_Name s):=(Name_t h).mono (fun _ hx=>hx.2)
theorem pick_t {s : widgetrybase_Src} (h : SrcOk s) {l : List Str} {n : Int} (h1 : 1 ≤ n) (h2 : n ≤ 1000) (hl : n = l.length) {Q : AValue × widgetrybase_Src → Prop} (hQ : ∀ v r,SrcOk r → Q (v,r)) : Tt Q ((b_Src_N s n).bind fun x=>(idxO l x.1).bind fun y=>(b_text y).bind fun z=>some (z,x.2)) :=
 Tt.bind (N_t h h1 (by omega)) (fun x hx=>Tt.bind (idx_t hx.1 (by have:=hx.2.1;omega)) (fun y _=>Tt.bind (text_t y) (fun z _=>⟨_,rfl,hQ _ _ hx.2.2⟩)))
theorem num_t {s : widgetrybase_Src} (h : SrcOk s) {n : Int} (h1 : 1 ≤ n) (h2 : n ≤ 1000) {Q : AValue × widgetrybase_Src → Prop} (hQ : ∀ v r,SrcOk r → Q (v,r)) : Tt Q ((b_Src_N s n).bind fun x=>(b_number x.1).bind fun z=>some (z,x.2)) :=
 Tt.bind (N_t h h1 (by omega)) (fun x hx=>Tt.bind (number_t _) (fun z _=>⟨_,rfl,hQ _ _ hx.2.2⟩))
theorem ran_t {s : widgetrybase_Src} (h : SrcOk s) {lo hi : Int} (h0 : -1000 ≤ lo) (h1 : lo ≤ hi) (h2 : hi ≤ 1000) {Q : AValue × widgetrybase_Src → Prop} (hQ : ∀ v r,SrcOk r → Q (v,r)) : Tt Q ((b_Src_Range s lo hi).bind fun x=>(b_number x.1).bind fun z=>some (z,x.2)) :=
 Tt.bind (Range_t h (by omega) h1 (by omega)) (fun x hx=>Tt.bind (number_t _) (fun z _=>⟨_,rfl,hQ _ _ hx.2.2⟩))
theorem nam_t {s : widgetrybase_Src} (h : SrcOk s) {l : List Str} (h1 : 1 ≤ l.length) (h2 : l.length ≤ 100) {Q : AValue × widgetrybase_Src → Prop} (hQ : ∀ v r,SrcOk r → Q (v,r)) : Tt Q ((b_Src_names s l).bind fun x=>some (x.1,x.2)) :=
 Tt.bind (names_t h h1 h2) (fun _ hx=>⟨_,rfl,hQ _ _ hx⟩)
theorem attribute_t {s : widgetrybase_Src} (h : SrcOk s) (name : Str) : Tt (fun r=>SrcOk r.2) (b_Src_attribute s name):=by
 unfold b_Src_attribute
 have hQ : ∀ (v : AValue) (r : widgetrybase_Src),SrcOk r → SrcOk (v,r).2:=fun _ _ h=>h
 refine Tt.jn (fun _=>True) (fun k hk=>?_) (fun _ _=>Tt.sel (fun _=>nam_t h (by decide) (by decide) hQ) (fun _=>?_))
 ·(repeat' refine Tt.sel (fun _=>hk _ trivial) (fun _=>?_));exact hk _ trivial
 refine Tt.jn (fun _=>True) (fun k hk=>?_) (fun _ _=>Tt.sel (fun _=>?_) (fun _=>?_))
 ·(repeat' refine Tt.sel (fun _=>hk _ trivial) (fun _=>?_));exact hk _ trivial
 ·exact Tt.bind (N_t h (by decide) (by decide)) (fun y hy=>Tt.sel (fun _=>Tt.bind (number_t _) (fun _ _=>⟨_,rfl,hy.2.2⟩)) (fun _=>Tt.bind (flag_t _) (fun _ _=>⟨_,rfl,hy.2.2⟩)))
 refine Tt.jn (fun _=>True) (fun k hk=>?_) (fun _ _=>Tt.sel (fun _=>nam_t h (by decide) (by decide) hQ) (fun _=>Tt.sel (fun _=>nam_t h (by decide) (by decide) hQ) (fun _=>?_)))
 ·(repeat' refine Tt.sel (fun _=>hk _ trivial) (fun _=>?_));exact hk _ trivial
 refine Tt.jn (fun _=>True) (fun k hk=>?_) (fun _ _=>Tt.sel (fun _=>num_t (n:=60) h (by decide) (by decide) hQ) (fun _=>?_))
 ·(repeat' refine Tt.sel (fun _=>hk _ trivial) (fun _=>?_));exact hk _ trivial
 refine Tt.jn (fun _=>True) (fun k hk=>?_) (fun _ _=>Tt.sel (fun _=>ran_t (lo:=-3) (hi:=30) h (by decide) (by decide) (by decide) hQ) (fun _=>?_))
 ·(repeat' refine Tt.sel (fun _=>hk _ trivial) (fun _=>?_));exact hk _ trivial
 refine Tt.jn (fun _=>True) (fun k hk=>?_) (fun _ _=>Tt.sel (fun _=>ran_t (lo:=-1) (hi:=7) h (by decide) (by decide) (by decide) hQ) (fun _=>Tt.sel (fun _=>pick_t (n:=3) h (by decide) (by decide) rfl hQ) (fun _=>Tt.sel (fun _=>pick_t (n:=10) h (by decide) (by decide) rfl hQ) (fun _=>?_))))
 ·(repeat' refine Tt.sel (fun _=>hk _ trivial) (fun _=>?_));exact hk _ trivial
 refine Tt.jn (fun _=>True) (fun k hk=>?_) (fun _ _=>Tt.sel (fun _=>num_t (n:=4) h (by decide) (by decide) hQ) (fun _=>Tt.sel (fun _=>pick_t (n:=8) h (by decide) (by decide) rfl hQ) (fun _=>Tt.sel (fun _=>?_) (fun _=>pick_t (n:=6) h (by decide) (by decide) rfl hQ))))
 ·(repeat' refine Tt.sel (fun _=>hk _ trivial) (fun _=>?_));exact hk _ trivial
 ·exact Tt.bind (Name_t' h) (fun y hy=>Tt.bind (text_t _) (fun _ _=>⟨_,rfl,hy⟩))
end Go.Proofs.YtcenpkkficeaaaaGreatDoor
end
section
namespace Go.Proofs.YtcenpkkficeaaaaGreatDoor
open Go Go.E2
theorem hooks_t {s : widgetrybase_Src} (h : SrcOk s) : Tt (fun r=>r.1.length ≤ 6 ∧ SrcOk r.2) (b_Src_hooks s):=by
 unfold b_Src_hooks
 refine Tt.jn (fun x=>x.1.length ≤ 6 ∧ SrcOk ⟨x.2.1,x.2.2⟩) (fun k hk=>?_) (fun x hx=>⟨_,rfl,hx⟩)
 refine Tt.loopN (n:=6) (fun (s : List Action × List Int × Int) i=>(s.1,(i : Int),s.2)) (fun i s=>s.1.length ≤ i ∧ SrcOk ⟨s.2.1,s.2.2⟩) (by unfold N0;omega) ?_ ?_ ([],s.L,s.At) ⟨Nat.le_refl _,h⟩
 ·intro again s i hi ⟨h1,h2⟩ hag
  unfold b_Src_hooks_L1
  refine Tt.sel (fun _=>?_) (fun hc=>absurd (of_decide_eq_false hc) (by simp;omega))
  refine Tt.jn (fun x=>x.1.length ≤ i + 1 ∧ SrcOk ⟨x.2.1,x.2.2⟩) (fun k hk=>?_) (fun x hx=>?_)
  ·refine Tt.bind (N_t h2 (by decide) (by decide)) (fun a ha=>Tt.sel (fun _=>?_) (fun _=>hk (s.1,a.2.L,a.2.At) ⟨by show s.1.length ≤ i + 1;omega,ha.2.2⟩))
   exact Tt.bind (idx_t (by show 0 ≤ (i : Int);omega) (by show (i : Int) < _;simp;omega)) (fun b _=>Tt.bind (app_t (by simp;omega)) (fun l hl=>hk (l,a.2.L,a.2.At) ⟨by show l.length ≤ i + 1;rw [hl];simp;omega,ha.2.2⟩))
  ·rw [show IntKind.i64.wrap ((s.1,(i : Int),s.2).2.1 + 1) = ((i + 1 : Nat) : Int) from wrap_suc hi (by unfold N0;omega)]
   exact hag (x.1,x.2.1,x.2.2) hx
 ·intro again s ⟨h1,h2⟩
  unfold b_Src_hooks_L1
  exact Tt.sel (fun hc=>absurd (of_decide_eq_true hc) (by simp)) (fun _=>hk _ ⟨h1,h2⟩)
theorem scenic_t {s : widgetrybase_Src} (h : SrcOk s) (kind : Int) : Tt (fun r=>r.1.length ≤ 38 ∧ SrcOk r.2) (b_Src_scenic s kind):=by
 unfold b_Src_scenic
 refine Tt.jn (fun x=>x.length ≤ 3) (fun k hk=>?_) (fun x hx=>?_)
 ·refine Tt.jn (fun _=>True) (fun k2 hk2=>?_) (fun _ _=>?_)
  ·(repeat' refine Tt.sel (fun _=>hk2 _ trivial) (fun _=>?_));exact hk2 _ trivial
  ·refine Tt.sel (fun _=>Tt.bind (app_t (by simp)) (fun l hl=>hk l (by rw [hl];simp))) (fun _=>Tt.sel (fun _=>Tt.bind (app_t (by simp)) (fun l hl=>hk l (by rw [hl];simp))) (fun _=>Tt.sel (fun _=>Tt.bind (app_t (by simp)) (fun l hl=>hk l (by rw [hl];simp))) (fun _=>hk [] (by simp))))
 ·refine Tt.jn (fun x=>x.1.length ≤ 6 ∧ SrcOk ⟨x.2.1,x.2.2⟩) (fun k hk=>?_) (fun y hy=>?_)
  ·refine Tt.bind (N_t h (by decide) (by decide)) (fun a ha=>?_)
   refine Tt.loopM (μ:=fun s=>s.2.1.toNat) (P:=fun s=>s.2.1 ≤ 3 ∧ SrcOk ⟨s.2.2.1,s.2.2.2⟩ ∧ (s.1.length : Int) ≤ 6 - (if 0 < s.2.1 then s.2.1 else 0)) ?_ (x,a.1,a.2.L,a.2.At) ⟨by show a.1 ≤ 3;omega,ha.2.2,by show ((x.length : Nat) : Int) ≤ 6 - (if 0 < a.1 then a.1 else 0);split <;> omega⟩ (by show a.1.toNat < N0;unfold N0;omega)
   intro again s ⟨p1,p2,p3⟩ hag
   unfold b_Src_scenic_L3
   refine Tt.sel (fun hc=>?_) (fun hc=>hk (s.1,s.2.2.1,s.2.2.2) ⟨?_,p2⟩)
   ·have hc0:=of_decide_eq_true hc
    rw [if_pos (by omega)] at p3
    refine Tt.bind (N_t p2 (by decide) (by decide)) (fun b hb=>Tt.bind (idx_t hb.1 hb.2.1) (fun d _=>Tt.bind (app_t (by simp;omega)) (fun l hl=>?_)))
    rw [wrap_id (by omega) (by omega)]
    refine hag (l,s.2.1 - 1,b.2.L,b.2.At) ⟨by show s.2.1 - 1 ≤ 3;omega,hb.2.2,?_⟩ (by show (s.2.1 - 1).toNat < s.2.1.toNat;omega)
    show ((l.length : Nat) : Int) ≤ 6 - (if 0 < s.2.1 - 1 then s.2.1 - 1 else 0)
    rw [hl]
    simp only [List.length_append,List.length_cons,List.length_nil]
    split <;> omega
   ·have hc0:=of_decide_eq_false hc
    rw [if_neg (by omega)] at p3
    show s.1.length ≤ 6
    omega
  ·refine Tt.jn (fun x=>x.1.length ≤ 38 ∧ SrcOk ⟨x.2.1,x.2.2⟩) (fun k hk=>?_) (fun x hx=>⟨_,rfl,hx⟩)
   refine Tt.loopN (n:=38) (fun (s : List Attr × List Int × Int) i=>(s.1,(i : Int),s.2)) (fun i s=>s.1.length ≤ i ∧ SrcOk ⟨s.2.1,s.2.2⟩) (by unfold N0;omega) ?_ ?_ ([],y.2.1,y.2.2) ⟨Nat.le_refl _,hy.2⟩
   ·intro again s i hi ⟨h1,h2⟩ hag
    unfold b_Src_scenic_L2
    refine Tt.sel (fun _=>?_) (fun hc=>absurd (of_decide_eq_false hc) (by simp;omega))
    refine Tt.jn (fun x=>x.1.length ≤ i + 1 ∧ SrcOk ⟨x.2.1,x.2.2⟩) (fun k hk=>?_) (fun x hx=>?_)
    ·refine Tt.jn (fun _=>True) (fun k2 hk2=>?_) (fun b _=>Tt.sel (fun _=>?_) (fun _=>hk _ ⟨by show s.1.length ≤ i + 1;omega,h2⟩))
     ·refine Tt.loopN (n:=y.1.length) (fun (s : Bool) j=>(s,(j : Int))) (fun _ _=>True) (by unfold N0;omega) ?_ ?_ false trivial
      ·intro again2 s2 j hj _ hag2
       unfold b_Src_scenic_L1
       refine Tt.sel (fun _=>?_) (fun hc=>absurd (of_decide_eq_false hc) (by simp;omega))
       refine Tt.bind (P:=fun _=>True) (Tt.gO (fun _=>(idx_t (by show 0 ≤ (j : Int);omega) (by show (j : Int) < _;omega)).mono (fun _ _=>trivial)) (fun _=>trivial)) (fun p _=>?_)
       refine Tt.bind (P:=fun _=>True) (Tt.gO (fun _=>(idx_t (by show 0 ≤ (i : Int);omega) (by show (i : Int) < _;simp;omega)).mono (fun _ _=>trivial)) (fun _=>trivial)) (fun q _=>?_)
       rw [show IntKind.i64.wrap ((s2,(j : Int)).2 + 1) = ((j + 1 : Nat) : Int) from wrap_suc hj (by unfold N0;omega)]
       exact hag2 _ trivial
      ·intro again2 s2 _
       unfold b_Src_scenic_L1
       exact Tt.sel (fun hc=>absurd (of_decide_eq_true hc) (by simp)) (fun _=>hk2 _ trivial)
     ·refine Tt.bind (idx_t (by show 0 ≤ (i : Int);omega) (by show (i : Int) < _;simp;omega)) (fun p _=>Tt.bind (idx_t (by show 0 ≤ (i : Int);omega) (by show (i : Int) < _;simp;omega)) (fun q _=>Tt.bind (attribute_t h2 _) (fun v hv=>Tt.bind (app_t (by simp;omega)) (fun l hl=>hk (l,v.2.L,v.2.At) ⟨by show l.length ≤ i + 1;rw [hl];simp;omega,hv⟩))))
    ·rw [show IntKind.i64.wrap ((s.1,(i : Int),s.2).2.1 + 1) = ((i + 1 : Nat) : Int) from wrap_suc hi (by unfold N0;omega)]
     exact hag (x.1,x.2.1,x.2.2) hx
   ·intro again s ⟨h1,h2⟩
    unfold b_Src_scenic_L2
    exact Tt.sel (fun hc=>absurd (of_decide_eq_true hc) (by simp)) (fun _=>hk _ ⟨h1,h2⟩)
end Go.Proofs.YtcenpkkficeaaaaGreatDoor
end
section
namespace Go.Proofs.YtcenpkkficeaaaaGreatDoor
open Go Go.E2
theorem Scenery_t : ∀ (d n : Nat) (s : widgetrybase_Src),d < n → d ≤ 10 → SrcOk s → Tt (fun r=>r.1.sm ∧ SrcOk r.2) (b_Src_Scenery n s (d : Int))
 | d,0,s,h,_,_=>by omega
 | d,n + 1,s,h,hd,hs=>by
  show Tt _ (b_Src_Scenery_B (b_Src_Scenery n) s (d : Int))
  unfold b_Src_Scenery_B
  have sm0 : ∀ k las cs (l : List View),(∀ x ∈ l,x.sm) → (View.mk k ByteArray.empty las cs l).sm:=fun k las cs l hl=>by
   rw [View.sm_eq];exact ⟨by show (0 : Nat) < N0;unfold N0;omega,hl⟩
  refine Tt.bind (N_t hs (by decide) (by decide)) (fun a ha=>Tt.bind (idx_t ha.1 ha.2.1) (fun b _=>?_))
  refine Tt.jn (fun x=>SrcOk ⟨x.1,x.2.1⟩) (fun k hk=>?_) (fun e he=>?_)
  ·refine Tt.sel (fun _=>?_) (fun _=>hk (a.2.L,a.2.At,b) ha.2.2)
   exact Tt.bind (N_t ha.2.2 (by decide) (by decide)) (fun c hc=>Tt.bind (idx_t hc.1 hc.2.1) (fun f _=>hk (c.2.L,c.2.At,f) hc.2.2))
  ·refine Tt.bind (scenic_t he _) (fun c hc=>Tt.bind (hooks_t hc.2) (fun f hf=>?_))
   refine Tt.sel (fun _=>⟨_,rfl,sm0 _ _ _ _ (fun x hx=>by cases hx),hf.2⟩) (fun hd0=>?_)
   have hd1:=of_decide_eq_false hd0
   obtain ⟨d,rfl⟩ : ∃ e,d = e + 1:=⟨d - 1,by omega⟩
   refine Tt.bind (N_t hf.2 (by decide) (by decide)) (fun g hg=>?_)
   refine Tt.jn (fun x=>0 ≤ x ∧ x ≤ 4) (fun k hk=>?_) (fun m hm=>?_)
   ·refine Tt.sel (fun _=>hk _ ?_) (fun _=>hk _ ⟨hg.1,by omega⟩)
    rw [wrap_id (by omega) (by omega)]
    omega
   rw [jn_eq]
   refine Tt.loopN (n:=m.toNat) (fun (s : List Int × Int × List View) i=>((i : Int),s)) (fun i s=>SrcOk ⟨s.1,s.2.1⟩ ∧ s.2.2.length ≤ i ∧ ∀ x ∈ s.2.2,x.sm) (by unfold N0;omega) ?_ ?_ (g.2.L,g.2.At,[]) ⟨hg.2.2,Nat.le_refl _,fun x hx=>by cases hx⟩
   ·intro again s i hi ⟨p1,p2,p3⟩ hag
    unfold b_Src_Scenery_L2
    refine Tt.sel (fun _=>?_) (fun hc=>absurd (of_decide_eq_false hc) (by show ¬ ¬ ((i : Int) < m);omega))
    refine Tt.jn (fun x=>SrcOk ⟨x.1,x.2.1⟩ ∧ x.2.2.length ≤ i + 1 ∧ ∀ y ∈ x.2.2,y.sm) (fun k hk=>?_) (fun x hx=>?_)
    ·rw [show IntKind.i64.wrap (((d + 1 : Nat) : Int) - 1) = (d : Int) from by rw [wrap_id (by omega) (by omega)];omega]
     refine Tt.bind (Scenery_t d n _ (by omega) (by omega) p1) (fun v hv=>?_)
     refine Tt.jn (fun x=>SrcOk ⟨x.1,x.2.1⟩ ∧ x.2.2.size < N0) (fun k1 hk1=>?_) (fun y hy=>?_)
     ·refine Tt.bind (N_t hv.2 (by decide) (by decide)) (fun u hu=>Tt.sel (fun _=>?_) (fun _=>hk1 (u.2.L,u.2.At,v.1.Key) ⟨hu.2.2,((View.sm_eq v.1).1 hv.1).1⟩))
      exact Tt.bind (N_t hu.2.2 (by decide) (by decide)) (fun w hw=>hk1 (w.2.L,w.2.At,_) ⟨hw.2.2,by show (ofBytes _).size < N0;rw [size_ofBytes];show 2 < N0;unfold N0;omega⟩)
     ·refine Tt.jn (fun x=>x.size < N0) (fun k2 hk2=>?_) (fun z hz=>Tt.bind (app_t (by simp;omega)) (fun l hl=>hk (y.1,y.2.1,l) ⟨hy.1,by show l.length ≤ i + 1;rw [hl];simp;omega,?_⟩))
      ·refine Tt.loopN (n:=s.2.2.length) (fun (s : Str) j=>((j : Int),s)) (fun _ s=>s.size < N0) (by unfold N0;omega) ?_ ?_ y.2.2 hy.2
       ·intro again2 s2 j hj hs2 hag2
        unfold b_Src_Scenery_L1
        refine Tt.sel (fun _=>?_) (fun hc=>absurd (of_decide_eq_false hc) (by simp;omega))
        refine Tt.jn (fun x=>x.size < N0) (fun k3 hk3=>?_) (fun q hq=>?_)
        ·exact Tt.bind (idx_t (by show 0 ≤ (j : Int);omega) (by show (j : Int) < ((s.2.2.length : Nat) : Int);omega)) (fun p _=>Tt.sel (fun _=>hk3 _ (by show 0 < N0;unfold N0;omega)) (fun _=>hk3 _ hs2))
        ·rw [show IntKind.i64.wrap (((j : Int),s2).1 + 1) = ((j + 1 : Nat) : Int) from wrap_suc hj (by unfold N0;omega)]
         exact hag2 _ hq
       ·intro again2 s2 hs2
        unfold b_Src_Scenery_L1
        exact Tt.sel (fun hc=>absurd (of_decide_eq_true hc) (by simp)) (fun _=>hk2 _ hs2)
      ·intro q hq
       change q ∈ l at hq
       rw [hl] at hq
       rcases List.mem_append.1 hq with e | e
       ·exact p3 q e
       ·rw [List.mem_singleton.1 e,View.sm_eq]
        exact ⟨hz,((View.sm_eq v.1).1 hv.1).2⟩
    ·rw [show IntKind.i64.wrap (((i : Int),s).1 + 1) = ((i + 1 : Nat) : Int) from wrap_suc hi (by unfold N0;omega)]
     exact hag x hx
   ·intro again s ⟨p1,p2,p3⟩
    unfold b_Src_Scenery_L2
    exact Tt.sel (fun hc=>absurd (of_decide_eq_true hc) (by show ¬ (((m.toNat : Nat) : Int) < m);omega)) (fun _=>⟨_,rfl,sm0 _ _ _ _ p3,p1⟩)
end Go.Proofs.YtcenpkkficeaaaaGreatDoor
end
section
namespace Go.Proofs.YtcenpkkficeaaaaGreatDoor
open Go Go.E2
mutual
def bN : View → Int → Int → List Node
 | ⟨k,key,las,cs,kids⟩,p,x=>Node.mk x p k key las cs (kidIds kids (x + 1)) :: bL kids x (x + 1)
def bL : List View → Int → Int → List Node
 | [],_,_=>[]
 | v :: r,p,x=>bN v p x ++ bL r p (x + v.cnt)
def kidIds : List View → Int → List Int
 | [],_=>[]
 | v :: r,x=>x :: kidIds r (x + v.cnt)
end
theorem bN_eq (v : View) (p x : Int) : bN v p x = Node.mk x p v.Kind v.Key v.Attrs v.Actions (kidIds v.Kids (x + 1)) :: bL v.Kids x (x + 1):=by
 cases v
 conv=>lhs;unfold bN
theorem bL_nil (p x : Int) : bL [] p x = []:=by unfold bL;rfl
theorem bL_cons (v : View) (r : List View) (p x : Int) : bL (v :: r) p x = bN v p x ++ bL r p (x + v.cnt):=by conv=>lhs;unfold bL
theorem kidIds_nil (x : Int) : kidIds [] x = []:=by unfold kidIds;rfl
theorem kidIds_cons (v : View) (r : List View) (x : Int) : kidIds (v :: r) x = x :: kidIds r (x + v.cnt):=by conv=>lhs;unfold kidIds
theorem bL_app : ∀ (l m : List View) (p x : Int),bL (l ++ m) p x = bL l p x ++ bL m p (x + View.cntL l)
 | [],m,p,x=>by rw [List.nil_append,bL_nil,View.cntL_nil,List.nil_append];congr 1;omega
 | v :: l,m,p,x=>by
  rw [List.cons_append,bL_cons,bL_cons,bL_app l m,View.cntL_cons,List.append_assoc]
  congr 3;omega
theorem kidIds_app : ∀ (l m : List View) (x : Int),kidIds (l ++ m) x = kidIds l x ++ kidIds m (x + View.cntL l)
 | [],m,x=>by rw [List.nil_append,kidIds_nil,View.cntL_nil,List.nil_append];congr 1;omega
 | v :: l,m,x=>by
  rw [List.cons_append,kidIds_cons,kidIds_cons,kidIds_app l m,View.cntL_cons,List.cons_append]
  congr 3;omega
theorem cnt_pos (v : View) : 1 ≤ v.cnt:=by rw [View.cnt_eq];omega
theorem cntL_len : ∀ l : List View,l.length ≤ View.cntL l
 | []=>Nat.zero_le _
 | v :: r=>by
  rw [View.cntL_cons,List.length_cons]
  have:=cntL_len r
  have:=cnt_pos v
  omega
theorem cntL_mem : ∀ {l : List View} {v : View},v ∈ l → v.cnt ≤ View.cntL l
 | w :: r,v,h=>by
  rw [View.cntL_cons]
  rcases List.mem_cons.1 h with e | e
  ·subst e;omega
  ·have:=cntL_mem e;omega
theorem kidIds_len : ∀ (l : List View) (x : Int),(kidIds l x).length = l.length
 | [],_=>by rw [kidIds_nil];rfl
 | v :: r,x=>by rw [kidIds_cons,List.length_cons,List.length_cons,kidIds_len r]
theorem View.ind {P : View → Prop} (h : ∀ v : View,(∀ k ∈ v.Kids,P k) → P v) : ∀ (n : Nat) (v : View),v.dp ≤ n → P v
 | 0,v,hd=>by rw [View.dp_eq] at hd;omega
 | n + 1,v,hd=>by
  rw [View.dp_eq] at hd
  exact h v (fun k hk=>View.ind h n k (by have:=View.dpL_mem hk;omega))
theorem View.all {P : View → Prop} (h : ∀ v : View,(∀ k ∈ v.Kids,P k) → P v) (v : View) : P v:=View.ind h _ v (Nat.le_refl _)
theorem bL_len' : ∀ (l : List View) (p x : Int),(∀ v ∈ l,∀ p x,(bN v p x).length = v.cnt) → (bL l p x).length = View.cntL l
 | [],p,x,_=>by rw [bL_nil,View.cntL_nil];rfl
 | v :: r,p,x,h=>by rw [bL_cons,List.length_append,View.cntL_cons,h v (by simp),bL_len' r _ _ (fun w hw=>h w (by simp [hw]))]
theorem bN_len : ∀ (v : View) (p x : Int),(bN v p x).length = v.cnt:=View.all (fun v ih p x=>by
 rw [bN_eq,List.length_cons,bL_len' _ _ _ ih,View.cnt_eq];omega)
theorem bL_len (l : List View) (p x : Int) : (bL l p x).length = View.cntL l:=bL_len' l p x (fun v _=>bN_len v)
theorem cnt_split {l : List View} {i : Nat} {x : View} (h : l[i]? = some x) : View.cntL (l.take i) + x.cnt + View.cntL (l.drop (i + 1)) = View.cntL l:=by
 have e : l = l.take i ++ x :: l.drop (i + 1):=by rw [← drop_cons' h,List.take_append_drop]
 conv=>rhs;rw [e]
 rw [View.cntL_app,View.cntL_cons];omega
theorem set_mid {α : Type} (a : List α) (x y : α) (b : List α) : (a ++ x :: b).set a.length y = a ++ y :: b:=by
 rw [List.set_append_right _ _ (Nat.le_refl _),Nat.sub_self];rfl
theorem bloop {v : View} {t : Tree} {R : Type} {B : (List Int × Int × Int × Int × List Node → Option R) → List Int × Int × Int × Int × List Node → Option R} (hc : v.Kids.length ≤ 100000) (p : Int) (k : List Int × Int × Int × List Node → Option R)
  (hB : ∀ again i x,v.Kids[i]? = some x → i < v.Kids.length → B again (kidIds (v.Kids.take i) (t.Next + 1),(i : Int),t.Root,t.Next + 1 + View.cntL (v.Kids.take i),t.Nodes ++ Node.mk t.Next p v.Kind v.Key v.Attrs v.Actions [] :: bL (v.Kids.take i) t.Next (t.Next + 1)) =
   again (kidIds (v.Kids.take i) (t.Next + 1) ++ [t.Next + 1 + View.cntL (v.Kids.take i)],((i + 1 : Nat) : Int),t.Root,t.Next + 1 + View.cntL (v.Kids.take i) + x.cnt,(t.Nodes ++ Node.mk t.Next p v.Kind v.Key v.Attrs v.Actions [] :: bL (v.Kids.take i) t.Next (t.Next + 1)) ++ bN x t.Next (t.Next + 1 + View.cntL (v.Kids.take i))))
  (he : ∀ again s,B again (s.1,(v.Kids.length : Int),s.2) = k s) :
  loopK B N0 (([] : List Int),0,t.Root,t.Next + 1,t.Nodes ++ [Node.mk t.Next p v.Kind v.Key v.Attrs v.Actions []]) = k (kidIds v.Kids (t.Next + 1),t.Root,t.Next + v.cnt,t.Nodes ++ Node.mk t.Next p v.Kind v.Key v.Attrs v.Actions [] :: bL v.Kids t.Next (t.Next + 1)):=by
 refine loopI (L:=v.Kids) (fun (s : List Int × Int × Int × List Node) i=>(s.1,(i : Int),s.2)) (fun i s=>s = (kidIds (v.Kids.take i) (t.Next + 1),t.Root,t.Next + 1 + View.cntL (v.Kids.take i),t.Nodes ++ Node.mk t.Next p v.Kind v.Key v.Attrs v.Actions [] :: bL (v.Kids.take i) t.Next (t.Next + 1))) (fun o=>o = k (kidIds v.Kids (t.Next + 1),t.Root,t.Next + v.cnt,t.Nodes ++ Node.mk t.Next p v.Kind v.Key v.Attrs v.Actions [] :: bL v.Kids t.Next (t.Next + 1))) (by unfold N0;omega) ?_ ?_ (([] : List Int),t.Root,t.Next + 1,t.Nodes ++ [Node.mk t.Next p v.Kind v.Key v.Attrs v.Actions []]) ?_
 ·intro again s i x hx hi hs
  subst hs
  refine .inr ⟨_,rfl,(hB again i x hx hi).trans ?_⟩
  rw [take_suc hx,kidIds_app,kidIds_cons,kidIds_nil,bL_app,bL_cons,bL_nil,View.cntL_app,View.cntL_cons,View.cntL_nil]
  have e : t.Next + 1 + ((View.cntL (v.Kids.take i) + (x.cnt + 0) : Nat) : Int) = t.Next + 1 + (View.cntL (v.Kids.take i)) + x.cnt:=by omega
  rw [e]
  simp only [List.append_nil,List.append_assoc,List.cons_append]
 ·intro again s hs
  rw [List.take_length] at hs
  have e : t.Next + 1 + (View.cntL v.Kids : Int) = t.Next + v.cnt:=by rw [View.cnt_eq];omega
  rw [he,hs,e]
 ·have e : t.Next + 1 + ((0 : Nat) : Int) = t.Next + 1:=by omega
  rw [List.take_zero,kidIds_nil,bL_nil,View.cntL_nil,e]
theorem rbuild_ok : ∀ (n : Nat) (v : View) (p : Int) (t : Tree),v.dp ≤ n → t.Nodes.length + v.cnt ≤ 100000 → 0 ≤ t.Next → t.Next + v.cnt ≤ 2000000000000 →
  r14_build n v p t = some ⟨t.Root,t.Next + v.cnt,t.Nodes ++ bN v p t.Next⟩
 | 0,v,p,t,h,_,_,_=>by rw [View.dp_eq] at h;omega
 | n + 1,v,p,t,h,hc,h0,h1=>by
  rw [View.dp_eq] at h
  have hcv:=View.cnt_eq v
  have hk:=cntL_len v.Kids
  show r14_build_B (r14_build n) v p t = _
  unfold r14_build_B
  rw [appO_eq (by simp;omega),bind_some',jn_eq,wrap_id (by omega) (by omega)]
  rw [bloop (v:=v) (t:=t) (by omega) p (fun (s2 : (List Int) × Int × Int × (List Node))=>(ixO s2.2.2.2.length (t.Nodes.length : Int)).bind fun x4=>(s2.2.2.2[x4]?).bind fun x5=>some (Tree.mk s2.2.1 s2.2.2.1 (List.set s2.2.2.2 x4 (Node.mk x5.ID x5.Parent x5.Kind x5.Key x5.Attrs x5.Actions s2.1)))) ?_ ?_]
  ·simp only
   rw [ixO_nat (by simp),bind_some',List.getElem?_append_right (Nat.le_refl _),Nat.sub_self,List.getElem?_cons_zero,bind_some',set_mid,bN_eq]
  ·intro again i x hx hi
   have ht:=cnt_split hx
   have hd:=View.dpL_mem (List.mem_of_getElem? hx)
   have hxc:=cnt_pos x
   unfold r14_build_L1
   simp only [nz_lt hi,selT',idxO_nat,hx,bindN]
   rw [appO_eq (by rw [kidIds_len];simp;omega),bind_some',rbuild_ok n x t.Next _ (by omega) (by show (_ ++ _ :: _).length + _ ≤ _;rw [List.length_append,List.length_cons,bL_len];omega) (by show 0 ≤ t.Next + 1 + _;omega) (by show t.Next + 1 + _ + _ ≤ _;omega),bind_some',wrap_suc hi (by unfold N0;omega)]
  ·intro again s
   unfold r14_build_L1
   simp only [nz_ge (Nat.le_refl _),selF']
end Go.Proofs.YtcenpkkficeaaaaGreatDoor
end
section
namespace Go.Proofs.YtcenpkkficeaaaaGreatDoor
open Go Go.E2
def TK (t : Tree) : Prop:=∀ n ∈ t.Nodes,n.Kids.length ≤ 1000000 ∧ n.Key.size < N0
theorem TK.nd {t : Tree} (h : TK t) (x : Int) : (nd t.Nodes x).Key.size < N0:=by
 unfold Go.Proofs.YtcenpkkficeaaaaGreatDoor.nd
 cases e : look t.Nodes x with
 | none=>exact zN_NB.2.2.2
 | some n=>exact (h n (look_mem e).1).2
theorem TK.sm {t : Tree} (h : TK t) : ∀ (f : Nat) (x : Int),(dsc t.Nodes f x).sm
 | 0,x=>zV_sm
 | f + 1,x=>by
  rw [View.sm_eq]
  refine ⟨h.nd x,fun a ha=>?_⟩
  obtain ⟨k,_,rfl⟩:=List.mem_map.1 ha
  exact TK.sm h f k
theorem tree_K {t : Tree} (h : TK t) : (Shp t ∧ errV (dscT t) = 0 ∧ vw_valid t = some (mpo t.Nodes,true) ∧ r14_Check t = some 0) ∨ ((∃ m,vw_valid t = some (m,false)) ∧ ∃ e,e ≠ 0 ∧ r14_Check t = some e):=by
 obtain ⟨m,b,g1,g2,g3⟩:=graph_ok t (fun n hn=>(h n hn).1)
 obtain ⟨c,s1,s2⟩:=shaped_ok t
 have e : c = b:=by
  cases b <;> cases c
  ·rfl
  ·exact absurd (g2.2 (s2.1 rfl)) (by simp)
  ·exact absurd (s2.2 (g2.1 rfl)) (by simp)
  ·rfl
 subst e
 cases c with
 | false =>
  refine .inr ⟨⟨[],?_⟩,12,by omega,by unfold r14_Check;rw [s1];rfl⟩
  unfold vw_valid vw_examine
  rw [g1];rfl
 | true =>
  have S:=g2.1 rfl
  have hl:=S.lim.2.2.2
  have hx : vw_examine t = some (mpo t.Nodes,dscT t,errV (dscT t)):=by
   unfold vw_examine
   rw [g1,bind_some',g3 rfl,Bool.not_true,sel_false,described_ok S.to0 hl t.Nodes.length N0 0 t.Root Reach.z (by omega) (by unfold N0;omega),bind_some']
   show (vw_Validate (dscT t)).bind _ = _
   rw [Validate_ok (show (dscT t).sm from h.sm _ _)];rfl
  have hc : r14_Check t = some (errV (dscT t)):=by
   unfold r14_Check
   rw [s1,bind_some',Bool.not_true,sel_false,rdescribe_ok S.to0 hl t.Nodes.length N0 0 t.Root Reach.z (by omega) (by unfold N0;omega),bind_some']
   show (r14_Validate (dscT t)).bind _ = _
   rw [rValidate_ok (show (dscT t).sm from h.sm _ _)];rfl
  by_cases he : errV (dscT t) = 0
  ·refine .inl ⟨S,he,?_,by rw [hc,he]⟩
   unfold vw_valid
   rw [hx,bind_some'];simp [he]
  ·refine .inr ⟨⟨mpo t.Nodes,?_⟩,_,he,hc⟩
   unfold vw_valid
   rw [hx,bind_some'];simp [he]
theorem path_K {t : Tree} (h : TK t) (a : Int) : (Shp t ∧ errV (dscT t) = 0 ∧ ∃ d,Reach t.Nodes t.Root d a ∧ vw_Path t a = some (pth t.Nodes d a) ∧ r14_Path t a = some (pth t.Nodes d a)) ∨ (vw_Path t a = some [] ∧ r14_Path t a = some []):=by
 rcases tree_K h with ⟨S,he,h3,h2⟩ | ⟨⟨m,h3⟩,e,he,h2⟩
 ·have hl:=S.lim.2.2.2
  unfold vw_Path r14_Path
  rw [h3,bind_some',Bool.not_true,sel_false,h2,bind_some',show ((0 : Int) != 0) = false from rfl,Bool.not_false,gO_true]
  rcases Index_ok t a (by unfold N0;omega) with ⟨i,n,e1,e2,e3⟩ | ⟨e1,e2⟩
  ·obtain ⟨d,hd⟩:=whole_reach S.to0 S.whole (ids_look e3)
   have hdl:=reach_depth S.to0 hd
   refine .inl ⟨S,he,d,hd,by rw [path_ok S.to0 hl hd];rfl,?_⟩
   rw [e1,bind_some',show decide ((i : Int) < 0) = false from decide_eq_false (by omega),Bool.false_or,sel_false,rpath_ok S.to0 hl d N0 a hd (by unfold N0;omega)];rfl
  ·refine .inr ⟨by rw [path_none a e2];rfl,?_⟩
   rw [e1];rfl
 ·refine .inr ⟨?_,?_⟩
  ·unfold vw_Path;rw [h3];rfl
  ·unfold r14_Path
   rw [h2,bind_some',show (e != 0) = true by simp [he]];rfl
end Go.Proofs.YtcenpkkficeaaaaGreatDoor
end
section
namespace Go.Proofs.YtcenpkkficeaaaaGreatDoor
open Go Go.E2
mutual
theorem bN_K : ∀ (v : View),v.sm → v.cnt ≤ 1000000 → ∀ (p x : Int),∀ n ∈ bN v p x,n.Kids.length ≤ 1000000 ∧ n.Key.size < N0
 | ⟨k,key,las,cs,kids⟩,h,hc,p,x,n,hn=>by
  rw [View.sm_eq] at h
  have h0:=View.cnt_eq ⟨k,key,las,cs,kids⟩
  have hl:=cntL_len kids
  have e0 : View.cntL (View.mk k key las cs kids).Kids = View.cntL kids:=rfl
  rw [bN_eq] at hn
  rcases List.mem_cons.1 hn with e | e
  ·subst e
   exact ⟨by show (kidIds kids _).length ≤ _;rw [kidIds_len];omega,h.1⟩
  ·exact bL_K kids h.2 (by omega) x (x + 1) n e
theorem bL_K : ∀ (l : List View),(∀ v ∈ l,v.sm) → View.cntL l ≤ 1000000 → ∀ (p x : Int),∀ n ∈ bL l p x,n.Kids.length ≤ 1000000 ∧ n.Key.size < N0
 | [],_,_,p,x,n,hn=>by rw [bL_nil] at hn;cases hn
 | v :: r,h,hc,p,x,n,hn=>by
  have h1:=cntL_mem (l:=v :: r) (v:=v) (by simp)
  rw [bL_cons] at hn
  rcases List.mem_append.1 hn with e | e
  ·exact bN_K v (h v (by simp)) (by omega) p x n e
  ·exact bL_K r (fun w hw=>h w (by simp [hw])) (by have:=View.cntL_cons v r;omega) p (x + v.cnt) n e
end
theorem rBuild_K {v : View} (hv : v.sm) {next : Int} (h1 : 1 ≤ next) (h2 : next ≤ 1099511627376) : Tt (fun r=>TK r.1 ∧ r.1.Nodes.length ≤ 1000000) (r14_Build v next):=by
 unfold r14_Build
 rw [rValidate_ok hv,bind_some']
 by_cases c1 : errV v = 0
 ·have vv:=valid_all c1
  have hdp:=vv.dp
  have hcnt:=vv.cnt
  rw [show (errV v != 0) = false by simp [c1],sel_false,show ((decide (next < 1)) || (decide (next > 1099511627376))) = false by simp;omega,sel_false]
  rw [rbuild_ok N0 v 0 ⟨next,next,[]⟩ (by unfold N0;omega) (by show 0 + _ ≤ _;omega) (by show 0 ≤ next;omega) (by show next + _ ≤ _;omega)]
  exact ⟨_,rfl,(fun n hn=>bN_K v hv (by omega) 0 next n hn : TK (Tree.mk next (next + v.cnt) (bN v 0 next))),by show (bN v 0 next).length ≤ _;rw [bN_len];omega⟩
 ·rw [show (errV v != 0) = true by simp [c1]]
  exact ⟨_,rfl,(fun n hn=>absurd hn List.not_mem_nil : TK (Tree.mk 0 0 ([] : List Node))),Nat.zero_le _⟩
end Go.Proofs.YtcenpkkficeaaaaGreatDoor
end
section
namespace Go.Proofs.YtcenpkkficeaaaaGreatDoor
open Go Go.E2
def attrP (name : Str) : List Attr → Option AValue
 | []=>none
 | a :: r=>if a.Name.toList == name.toList then some a.Value else attrP name r
def attrR (o : Option AValue) : AValue × Bool:=match o with
 | some v=>(v,true)
 | none=>(⟨0,0,ByteArray.empty,[]⟩,false)
theorem rAttr_eq {l : List Attr} (name : Str) (h : l.length ≤ 1000) : r14_Attr l name = some (attrR (attrP name l)):=by
 unfold r14_Attr
 rw [jn_eq]
 have key : ∀ (m i : Nat),l.length - i < m → i ≤ l.length → loopK (r14_Attr_L1 l name fun _=>some (⟨0,0,ByteArray.empty,[]⟩,false)) m (i : Int) = some (attrR (attrP name (l.drop i))):=by
  intro m
  induction m with
  | zero=>intro i h;omega
  | succ m ih =>
   intro i hm hi
   show r14_Attr_L1 l name _ (loopK _ m) (i : Int) = _
   generalize loopK (r14_Attr_L1 l name fun _=>some (⟨0,0,ByteArray.empty,[]⟩,false)) m = again at ih ⊢
   unfold r14_Attr_L1
   by_cases hl : i < l.length
   ·rw [nz_lt hl,sel_true,idxO_at hl,bind_some',List.drop_eq_getElem_cons hl]
    unfold attrP
    cases hn : (l[i].Name.toList == name.toList) with
    | true=>rw [sel_true,bind_some',if_pos rfl];rfl
    | false =>
     rw [sel_false,wrap_suc hl (by unfold N0;omega),if_neg (by simp)]
     exact ih (i + 1) (by omega) (by omega)
   ·rw [nz_ge (by omega),sel_false,List.drop_eq_nil_of_le (by omega)];rfl
 exact key N0 0 (by unfold N0;omega) (by omega)
theorem vAttr_eq {l : List Attr} (name : Str) (h : AttrsOk l) : vw_Attr l name = some (attrR (attrP name l)):=by
 obtain ⟨h,hv⟩:=h
 unfold vw_Attr
 rw [jn_eq]
 have key : ∀ (m i : Nat),l.length - i < m → i ≤ l.length → loopK (vw_Attr_L1 l name fun _=>some (⟨0,0,ByteArray.empty,[]⟩,false)) m (i : Int) = some (attrR (attrP name (l.drop i))):=by
  intro m
  induction m with
  | zero=>intro i h;omega
  | succ m ih =>
   intro i hm hi
   show vw_Attr_L1 l name _ (loopK _ m) (i : Int) = _
   generalize loopK (vw_Attr_L1 l name fun _=>some (⟨0,0,ByteArray.empty,[]⟩,false)) m = again at ih ⊢
   unfold vw_Attr_L1
   by_cases hl : i < l.length
   ·rw [nz_lt hl,sel_true,idxO_at hl,bind_some',List.drop_eq_getElem_cons hl]
    unfold attrP
    cases hn : (l[i].Name.toList == name.toList) with
    | true=>rw [sel_true,copy_big (hv _ (List.getElem_mem hl)),bind_some',if_pos rfl];rfl
    | false =>
     rw [sel_false,wrap_suc hl (by unfold N0;omega),if_neg (by simp)]
     exact ih (i + 1) (by omega) (by omega)
   ·rw [nz_ge (by omega),sel_false,List.drop_eq_nil_of_le (by omega)];rfl
 exact key N0 0 (by unfold N0;omega) (by omega)
theorem attrR_wt {l : List Attr} (name : Str) (h : AttrsOk l) : (attrR (attrP name l)).1.wt < 1000000:=by
 have : ∀ l : List Attr,(∀ a ∈ l,a.Value.wt < 1000000) → (attrR (attrP name l)).1.wt < 1000000:=by
  intro l
  induction l with
  | nil=>intro _;show AValue.wt ⟨0,0,ByteArray.empty,[]⟩ < _;rw [AValue.wt_eq,AValue.wtL_nil];omega
  | cons a r ih =>
   intro h
   unfold attrP
   split
   ·exact h a (by simp)
   ·exact ih (fun b hb=>h b (by simp [hb]))
 exact this l h.2
end Go.Proofs.YtcenpkkficeaaaaGreatDoor
end
section
namespace Go.Proofs.YtcenpkkficeaaaaGreatDoor
open Go Go.E2
theorem find_ok {t : Tree} (h : TB t) (hl : t.Nodes.length < N0) (x : Int) : (∃ n,look t.Nodes x = some n ∧ vw_Find t x = some (n,true)) ∨ (look t.Nodes x = none ∧ vw_Find t x = some (zN,false)):=by
 unfold vw_Find
 rw [jn_eq]
 refine loopI (L:=t.Nodes) (fun (_ : Unit) i=>(i : Int)) (fun i _=>look t.Nodes x = look (t.Nodes.drop i) x) (fun r=>(∃ n,look t.Nodes x = some n ∧ r = some (n,true)) ∨ (look t.Nodes x = none ∧ r = some (zN,false))) hl ?_ ?_ () rfl
 ·intro again _ i n hn hi hp
  rw [drop_cons' hn] at hp
  have hp : look t.Nodes x = if x = n.ID then some n else look (t.Nodes.drop (i + 1)) x:=hp
  unfold vw_Find_L1
  rw [nz_lt hi,sel_true,idxO_nat,hn,bind_some',wrap_suc hi hl]
  by_cases c : x = n.ID
  ·rw [if_pos c] at hp
   obtain ⟨h1,h2,h3,_⟩:=h n (List.mem_of_getElem? hn)
   rw [show (n.ID != x) = false by simp [c],sel_false,copied_ok h1 h2,bind_some']
   unfold slices_Clone_Sl_int_int
   rw [appO_eq (by simp;omega),bind_some']
   exact .inl (.inl ⟨n,hp,by cases n;rfl⟩)
  ·rw [if_neg c] at hp
   rw [show (n.ID != x) = true by rw [bne_iff_ne];exact fun e=>c e.symm,sel_true]
   exact .inr ⟨(),hp,rfl⟩
 ·intro again _ hp
  rw [List.drop_length] at hp
  unfold vw_Find_L1
  rw [nz_ge (Nat.le_refl _),sel_false]
  exact .inr ⟨hp,rfl⟩
end Go.Proofs.YtcenpkkficeaaaaGreatDoor
end
section
namespace Go.Proofs.YtcenpkkficeaaaaGreatDoor
open Go Go.E2
structure Gd (t : Tree) : Prop where
 shp : Shp t
 err : errV (dscT t) = 0
section
variable {t : Tree}
theorem Gd.len (G : Gd t) : t.Nodes.length ≤ 400:=G.shp.lim.2.2.2
theorem Gd.node (G : Gd t) {d : Nat} {x : Int} (h : Reach t.Nodes t.Root d x) : AttrsOk (nd t.Nodes x).Attrs ∧ ActsOk (nd t.Nodes x).Actions ∧ (nd t.Nodes x).Attrs.length ≤ 24 ∧ (nd t.Nodes x).Actions.length ≤ 24:=by
 have h1:=(good_node G.shp G.err h).2
 exact ⟨h1.attsOk,h1.actsOk,h1.atts,h1.acts⟩
theorem Gd.tb (G : Gd t) : TB t:=fun n hn=>by
 obtain ⟨d,hd⟩:=whole_reach G.shp.to0 G.shp.whole (show n.ID ∈ ids t.Nodes from List.mem_map_of_mem hn)
 have e : nd t.Nodes n.ID = n:=nd_look (look_of G.shp.to0.uniq hn)
 have h1:=G.node hd
 have h2:=kids100 G.shp G.err hd
 have h3:=key24 G.shp G.err hd
 rw [e] at h1 h2 h3
 exact ⟨h1.1,h1.2.1,by omega,by unfold N0;omega⟩
theorem Gd.find (G : Gd t) {d : Nat} {x : Int} (h : Reach t.Nodes t.Root d x) : vw_Find t x = some (nd t.Nodes x,true):=by
 obtain ⟨n,n1,_⟩:=reach_mem G.shp.to0 h
 rcases find_ok G.tb (by have:=G.len;unfold N0;omega) x with ⟨m,m1,m2⟩ | ⟨m1,_⟩
 ·rw [m2,nd_look m1]
 ·rw [m1] at n1;cases n1
theorem Gd.find29 (G : Gd t) {d : Nat} {x : Int} (h : Reach t.Nodes t.Root d x) : r29_Find t x = some (nd t.Nodes x,true):=by
 have hl : t.Nodes.length < N0:=by have:=G.len;unfold N0;omega
 obtain ⟨n,n1,_⟩:=reach_mem G.shp.to0 h
 unfold r29_Find
 rcases Index_ok t x hl with ⟨i,m,e1,e2,e3⟩ | ⟨e1,e2⟩
 ·rw [e1,bind_some',show decide ((i : Int) < 0) = false from decide_eq_false (by omega),sel_false,Node_ok t x hl];rfl
 ·rw [e2] at n1;cases n1
theorem Gd.nid (G : Gd t) {d : Nat} {x : Int} (h : Reach t.Nodes t.Root d x) : (nd t.Nodes x).ID = x:=by
 obtain ⟨n,n1,n2,n3⟩:=reach_mem G.shp.to0 h
 rw [nd_look n1,n3]
def disA : Str:=ByteArray.mk #[100,105,115,97,98,108,101,100]
def flagOf (n : Node) : Bool:=((attrR (attrP disA n.Attrs)).1.Kind == 2) && ((attrR (attrP disA n.Attrs)).1.N == 1)
theorem Gd.flagV (G : Gd t) {d : Nat} {x : Int} (h : Reach t.Nodes t.Root d x) : vw_Flag (nd t.Nodes x).Attrs disA = some (flagOf (nd t.Nodes x)):=by
 unfold vw_Flag
 rw [vAttr_eq disA (G.node h).1];rfl
theorem Gd.flagR (G : Gd t) {d : Nat} {x : Int} (h : Reach t.Nodes t.Root d x) : r14_Flag (nd t.Nodes x).Attrs disA = some (flagOf (nd t.Nodes x)):=by
 unfold r14_Flag
 rw [rAttr_eq disA (G.node h).1.1];rfl
def stp (L : List Node) : Bool → List Int → List dispatch_step
 | _,[]=>[]
 | b,x :: r=>⟨nd L x,b || flagOf (nd L x)⟩ :: stp L (b || flagOf (nd L x)) r
def On (t : Tree) (p : List Int) : Prop:=p.length ≤ 400 ∧ ∀ x ∈ p,∃ d,Reach t.Nodes t.Root d x
theorem steps_loop (G : Gd t) {p : List Int} (hp : On t p) (k : List dispatch_step → Option (List dispatch_step)) : ∀ (m i : Nat) (acc : List dispatch_step) (b : Bool),p.length - i < m → i ≤ p.length → acc.length ≤ i →
  loopK (dp_steps_L1 t k p) m (acc,b,(i : Int)) = k (acc ++ stp t.Nodes b (p.drop i)):=by
 obtain ⟨hl,hp⟩:=hp
 intro m
 induction m with
 | zero=>intro i _ _ h;omega
 | succ m ih =>
  intro i acc b hm hi ha
  show dp_steps_L1 t k p (loopK _ m) (acc,b,(i : Int)) = _
  generalize loopK (dp_steps_L1 t k p) m = again at ih ⊢
  unfold dp_steps_L1
  by_cases h : i < p.length
  ·obtain ⟨d,hd⟩:=hp _ (List.getElem_mem h)
   simp only
   rw [nz_lt h,sel_true,idxO_at h,bind_some',G.find hd,bind_some',List.drop_eq_getElem_cons h]
   have hf : (gO (!b) (vw_Flag (nd t.Nodes p[i]).Attrs disA)).bind (fun x9=>(appO acc ([(dispatch_step.mk (nd t.Nodes p[i]) (b || x9))])).bind fun x10=>again (x10,b || x9,IntKind.i64.wrap ((i : Int) + 1))) = again (acc ++ [dispatch_step.mk (nd t.Nodes p[i]) (b || flagOf (nd t.Nodes p[i]))],b || flagOf (nd t.Nodes p[i]),((i + 1 : Nat) : Int)):=by
    rw [wrap_suc h (by unfold N0;omega)]
    cases b with
    | true =>
     rw [Bool.not_true,gO_false,bind_some',Bool.true_or,appO_eq (by simp;omega),bind_some',Bool.true_or]
    | false =>
     rw [Bool.not_false,gO_true,G.flagV hd,bind_some',Bool.false_or,appO_eq (by simp;omega),bind_some']
   refine hf.trans ?_
   rw [ih (i + 1) _ _ (by omega) (by omega) (by simp;omega),List.append_assoc]
   rfl
  ·simp only
   rw [nz_ge (by omega),sel_false,List.drop_eq_nil_of_le (by omega)]
   show k acc = k (acc ++ [])
   rw [List.append_nil]
theorem off_loop (G : Gd t) {p : List Int} (hp : On t p) (k : Unit → Option Bool) : ∀ (m i : Nat),p.length - i < m → i ≤ p.length →
  loopK (r30_off_L1 t p k) m (i : Int) = if (p.drop i).any (fun x=>flagOf (nd t.Nodes x)) = true then some true else k ():=by
 obtain ⟨hl,hp⟩:=hp
 intro m
 induction m with
 | zero=>intro i h;omega
 | succ m ih =>
  intro i hm hi
  show r30_off_L1 t p k (loopK _ m) (i : Int) = _
  generalize loopK (r30_off_L1 t p k) m = again at ih ⊢
  unfold r30_off_L1
  by_cases h : i < p.length
  ·obtain ⟨d,hd⟩:=hp _ (List.getElem_mem h)
   rw [nz_lt h,sel_true,idxO_at h,bind_some',G.find29 hd,bind_some']
   show (r14_Flag (nd t.Nodes p[i]).Attrs disA).bind _ = _
   rw [G.flagR hd,bind_some',List.drop_eq_getElem_cons h,List.any_cons,wrap_suc h (by unfold N0;omega),ih (i + 1) (by omega) (by omega)]
   cases flagOf (nd t.Nodes p[i]) with
   | true=>rw [sel_true,Bool.true_or,if_pos rfl]
   | false=>rw [sel_false,Bool.false_or]
  ·rw [nz_ge (by omega),sel_false,List.drop_eq_nil_of_le (by omega)];rfl
theorem off_ok (G : Gd t) {p : List Int} (hp : On t p) : r30_off t p = some (p.any fun x=>flagOf (nd t.Nodes x)):=by
 unfold r30_off
 rw [jn_eq]
 have:=off_loop G hp (fun _=>some false) N0 0 (by have:=hp.1;unfold N0;omega) (Nat.zero_le _)
 rw [show ((0 : Nat) : Int) = 0 from rfl,List.drop_zero] at this
 rw [this]
 cases p.any fun x=>flagOf (nd t.Nodes x) <;> rfl
end
end Go.Proofs.YtcenpkkficeaaaaGreatDoor
end
section
namespace Go.Proofs.YtcenpkkficeaaaaGreatDoor
open Go Go.E2
theorem dcopy_ok : ∀ n : Nat,(∀ v : AValue,2 * v.wt ≤ n → v.wt < 1000000 → dp_copyValue n v = some v) ∧ (∀ l : List AValue,2 * AValue.wtL l + 1 ≤ n → AValue.wtL l < 1000000 → dp_copyValues n l = some l):=by
 intro n
 induction n with
 | zero=>exact ⟨fun v h=>by have:=v.wt_pos;omega,fun l h=>by omega⟩
 | succ n ih =>
  refine ⟨fun v h hb=>?_,fun l h hb=>?_⟩
  ·show dp_copyValue_B (dp_copyValue n) (dp_copyValues n) v = some v
   unfold dp_copyValue_B
   have hw:=v.wt_eq
   rw [ih.2 v.L (by omega) (by omega)]
   cases v;rfl
  ·show dp_copyValues_B (dp_copyValue n) (dp_copyValues n) l = some l
   unfold dp_copyValues_B
   rw [jn_eq]
   have hlen:=AValue.wtL_len l
   have key : ∀ (m i : Nat),l.length - i < m → i ≤ l.length → loopK (dp_copyValues_L1 (dp_copyValue n) l fun s=>some s) m (l.take i,(i : Int)) = some l:=by
    intro m
    induction m with
    | zero=>intro i h;omega
    | succ m ihm =>
     intro i hm hi
     show dp_copyValues_L1 (dp_copyValue n) l (fun s=>some s) (loopK _ m) (l.take i,(i : Int)) = some l
     generalize loopK (dp_copyValues_L1 (dp_copyValue n) l fun s=>some s) m = again at ihm ⊢
     unfold dp_copyValues_L1
     dsimp only
     by_cases hl : i < l.length
     ·have hx:=AValue.wtL_mem (List.getElem_mem hl)
      rw [nz_lt hl,sel_true,idxO_at hl,bind_some',ih.1 l[i] (by omega) (by omega),bind_some',appO_eq (by simp;omega),bind_some',wrap_id (by omega) (by omega)]
      have e : l.take i ++ [l[i]] = l.take (i + 1):=by rw [List.take_add_one,List.getElem?_eq_getElem hl];rfl
      rw [e]
      exact ihm (i + 1) (by omega) (by omega)
     ·rw [nz_ge (by omega),sel_false,List.take_of_length_le (by omega)]
   have:=key N0 0 (by unfold N0;omega) (by omega)
   simpa using this
theorem dcopy_big {l : List AValue} (h : AValue.wtL l < 1000000) : dp_copyValues N0 l = some l:=(dcopy_ok N0).2 l (by unfold N0;omega) h
def isT (text : Str) (y : AValue) : Bool:=(y.Kind == 3) && (y.S.toList == text.toList)
theorem idx_loop {l : List AValue} (hl : l.length < N0) (text : Str) (k : Unit → Option Int) : ∀ (m i : Nat),l.length - i < m → i ≤ l.length →
  (((l.drop i).any (isT text) = true ∧ ∃ j : Nat,loopK (slices_IndexFunc_Sl_Value_Value_L1 l text k) m (i : Int) = some (j : Int)) ∨ ((l.drop i).any (isT text) = false ∧ loopK (slices_IndexFunc_Sl_Value_Value_L1 l text k) m (i : Int) = k ())):=by
 intro m
 induction m with
 | zero=>intro i h;omega
 | succ m ih =>
  intro i hm hi
  show ((l.drop i).any (isT text) = true ∧ ∃ j : Nat,slices_IndexFunc_Sl_Value_Value_L1 l text k (loopK _ m) (i : Int) = some (j : Int)) ∨ ((l.drop i).any (isT text) = false ∧ slices_IndexFunc_Sl_Value_Value_L1 l text k (loopK _ m) (i : Int) = k ())
  generalize loopK (slices_IndexFunc_Sl_Value_Value_L1 l text k) m = again at ih ⊢
  unfold slices_IndexFunc_Sl_Value_Value_L1
  by_cases h : i < l.length
  ·rw [nz_lt h,sel_true,idxO_at h,bind_some',List.drop_eq_getElem_cons h,List.any_cons,wrap_suc h hl]
   show (isT text l[i] || (l.drop (i + 1)).any (isT text)) = true ∧ (∃ j : Nat,sel (isT text l[i]) (some (i : Int)) (again ((i + 1 : Nat) : Int)) = some (j : Int)) ∨ (isT text l[i] || (l.drop (i + 1)).any (isT text)) = false ∧ sel (isT text l[i]) (some (i : Int)) (again ((i + 1 : Nat) : Int)) = k ()
   cases isT text l[i] with
   | true=>exact .inl ⟨rfl,i,rfl⟩
   | false=>rw [sel_false,Bool.false_or];exact ih (i + 1) (by omega) (by omega)
  ·rw [nz_ge (by omega),sel_false,List.drop_eq_nil_of_le (by omega)]
   exact .inr ⟨rfl,rfl⟩
theorem contains_ok {l : List AValue} (hl : l.length < N0) (text : Str) : slices_ContainsFunc_Sl_Value_Value l text = some (l.any (isT text)):=by
 unfold slices_ContainsFunc_Sl_Value_Value slices_IndexFunc_Sl_Value_Value
 rw [jn_eq]
 rcases idx_loop hl text (fun _=>some (-1)) N0 0 (by omega) (Nat.zero_le _) with ⟨h1,j,h2⟩ | ⟨h1,h2⟩
 ·rw [List.drop_zero] at h1
  rw [show (0 : Int) = ((0 : Nat) : Int) from rfl,h2,h1,bind_some']
  exact congrArg some (decide_eq_true (by omega))
 ·rw [List.drop_zero] at h1
  rw [show (0 : Int) = ((0 : Nat) : Int) from rfl,h2,h1];rfl
theorem rlists_loop {x : AValue × Bool} (hl : x.1.L.length < N0) (text : Str) (k : Unit → Option Bool) : ∀ (m i : Nat),x.1.L.length - i < m → i ≤ x.1.L.length →
  loopK (r30_Lists_L1 text x k) m (i : Int) = if (x.1.L.drop i).any (isT text) = true then some true else k ():=by
 intro m
 induction m with
 | zero=>intro i h;omega
 | succ m ih =>
  intro i hm hi
  show r30_Lists_L1 text x k (loopK _ m) (i : Int) = _
  generalize loopK (r30_Lists_L1 text x k) m = again at ih ⊢
  unfold r30_Lists_L1
  by_cases h : i < x.1.L.length
  ·rw [nz_lt h,sel_true,idxO_at h,bind_some',List.drop_eq_getElem_cons h,List.any_cons,wrap_suc h hl]
   unfold isT
   cases hk : (x.1.L[i].Kind == 3) with
   | false =>
    rw [gO_false,bind_some',Bool.false_and,sel_false,Bool.false_and,Bool.false_or]
    exact ih (i + 1) (by omega) (by omega)
   | true =>
    rw [gO_true,bind_some',Bool.true_and]
    cases (x.1.L[i].S.toList == text.toList) with
    | true=>rw [sel_true,Bool.true_or,if_pos rfl]
    | false=>rw [sel_false,Bool.false_or];exact ih (i + 1) (by omega) (by omega)
  ·rw [nz_ge (by omega),sel_false,List.drop_eq_nil_of_le (by omega)];rfl
def listsF (name text : Str) (l : List Attr) : Bool:=(attrR (attrP name l)).2 && (isT text (attrR (attrP name l)).1 || ((attrR (attrP name l)).1.Kind == 4 && (attrR (attrP name l)).1.L.any (isT text)))
theorem lists_ok {n : Node} (h : AttrsOk n.Attrs) (name text : Str) : dp_lists n name text = some (listsF name text n.Attrs):=by
 have hw:=attrR_wt name h
 unfold dp_lists listsF
 rw [vAttr_eq name h,bind_some']
 generalize attrR (attrP name n.Attrs) = v at hw ⊢
 have hl : v.1.L.length < N0:=by
  have h1:=AValue.wtL_len v.1.L
  have h2:=v.1.wt_eq
  unfold N0;omega
 cases v.2 with
 | false=>rfl
 | true =>
  rw [Bool.not_true,sel_false,Bool.true_and]
  show (sel (!(isT text v.1) && (v.1.Kind == 4)) (slices_ContainsFunc_Sl_Value_Value v.1.L text) (some (default : Bool))).bind (fun x4=>some (isT text v.1 || ((v.1.Kind == 4) && x4))) = _
  rw [contains_ok hl]
  cases isT text v.1 <;> cases (v.1.Kind == 4) <;> rfl
theorem rlists_ok {l : List Attr} (h : AttrsOk l) (name text : Str) : r30_Lists l name text = some (listsF name text l):=by
 have hw:=attrR_wt name h
 unfold r30_Lists listsF
 rw [rAttr_eq name h.1,bind_some']
 generalize attrR (attrP name l) = v at hw ⊢
 have hl : v.1.L.length < N0:=by
  have h1:=AValue.wtL_len v.1.L
  have h2:=v.1.wt_eq
  unfold N0;omega
 cases v.2 with
 | false=>rfl
 | true =>
  rw [Bool.not_true,sel_false,Bool.true_and]
  unfold isT
  by_cases h3 : v.1.Kind = 3
  ·rw [h3]
   show some _ = some _
   rw [show ((3 : Int) == 4) = false from rfl,Bool.false_and,Bool.or_false];rfl
  ·rw [show (v.1.Kind == 3) = false by simpa using h3,sel_false,Bool.false_and,Bool.false_or]
   by_cases h4 : v.1.Kind = 4
   ·rw [h4,show ((4 : Int) != 4) = false from rfl,sel_false,jn_eq,show (0 : Int) = ((0 : Nat) : Int) from rfl,rlists_loop hl text _ N0 0 (by omega) (Nat.zero_le _),List.drop_zero,show ((4 : Int) == 4) = true from rfl,Bool.true_and]
    show (if v.1.L.any (isT text) = true then some true else some false) = some (v.1.L.any (isT text))
    cases v.1.L.any (isT text) <;> rfl
   ·rw [show (v.1.Kind != 4) = true by simpa using h4,sel_true,show (v.1.Kind == 4) = false by simpa using h4,Bool.false_and]
def actP (event : Str) : List Action → Option Action
 | []=>none
 | a :: r=>if a.Event.toList == event.toList then some a else actP event r
def zA : Action:=⟨ByteArray.empty,ByteArray.empty,ByteArray.empty,[]⟩
theorem ract_ok {n : Node} (h : ActsOk n.Actions) (event : Str) : r30_action n event = some (match actP event n.Actions with | some a=>(a,true) | none=>(zA,false)):=by
 unfold r30_action
 rw [jn_eq]
 have key : ∀ (m i : Nat),n.Actions.length - i < m → i ≤ n.Actions.length → loopK (r30_action_L1 n event fun _=>some (zA,false)) m (i : Int) = some (match actP event (n.Actions.drop i) with | some a=>(a,true) | none=>(zA,false)):=by
  have hlen:=h.1
  intro m
  induction m with
  | zero=>intro i h;omega
  | succ m ih =>
   intro i hm hi
   show r30_action_L1 n event _ (loopK _ m) (i : Int) = _
   generalize loopK (r30_action_L1 n event fun _=>some (zA,false)) m = again at ih ⊢
   unfold r30_action_L1
   by_cases hl : i < n.Actions.length
   ·rw [nz_lt hl,sel_true,idxO_at hl,bind_some',List.drop_eq_getElem_cons hl,bind_some']
    unfold actP
    cases (n.Actions[i].Event.toList == event.toList) with
    | true=>rw [sel_true,if_pos rfl]
    | false =>
     rw [sel_false,wrap_suc hl (by unfold N0;omega),if_neg (by simp)]
     exact ih (i + 1) (by omega) (by omega)
   ·rw [nz_ge (by omega),sel_false,List.drop_eq_nil_of_le (by omega)];rfl
 exact key N0 0 (by have:=h.1;unfold N0;omega) (by omega)
theorem invoke_ok {s : dispatch_step} (h : ActsOk s.node.Actions) (phase : Int) (event : Str) : dp_step_invoke s phase event = some (match actP event s.node.Actions with | some a=>(⟨s.node.ID,phase,a⟩,true) | none=>(⟨0,0,zA⟩,false)):=by
 unfold dp_step_invoke
 rw [jn_eq]
 have key : ∀ (m i : Nat),s.node.Actions.length - i < m → i ≤ s.node.Actions.length → loopK (dp_step_invoke_L1 s phase event fun _=>some (⟨0,0,zA⟩,false)) m (i : Int) = some (match actP event (s.node.Actions.drop i) with | some a=>(⟨s.node.ID,phase,a⟩,true) | none=>(⟨0,0,zA⟩,false)):=by
  have hlen:=h.1
  intro m
  induction m with
  | zero=>intro i h;omega
  | succ m ih =>
   intro i hm hi
   show dp_step_invoke_L1 s phase event _ (loopK _ m) (i : Int) = _
   generalize loopK (dp_step_invoke_L1 s phase event fun _=>some (⟨0,0,zA⟩,false)) m = again at ih ⊢
   unfold dp_step_invoke_L1
   by_cases hl : i < s.node.Actions.length
   ·rw [nz_lt hl,sel_true,idxO_at hl,bind_some',List.drop_eq_getElem_cons hl]
    unfold actP
    cases (s.node.Actions[i].Event.toList == event.toList) with
    | true=>rw [sel_true,dcopy_big (h.2 _ (List.getElem_mem hl)),bind_some',if_pos rfl]
    | false =>
     rw [sel_false,wrap_suc hl (by unfold N0;omega),if_neg (by simp)]
     exact ih (i + 1) (by omega) (by omega)
   ·rw [nz_ge (by omega),sel_false,List.drop_eq_nil_of_le (by omega)];rfl
 exact key N0 0 (by have:=h.1;unfold N0;omega) (by omega)
end Go.Proofs.YtcenpkkficeaaaaGreatDoor
end
section
namespace Go.Proofs.YtcenpkkficeaaaaGreatDoor
open Go Go.E2
theorem reacts_same (kind : Int) (event : Str) : ∃ b,dp_reacts kind event = some b ∧ r30_reacts kind event = some b:=by
 have x12 : (event.toList == (ByteArray.mk #[112,114,101,115,115]).toList) = true → (event.toList == (ByteArray.mk #[99,104,97,110,103,101]).toList) = false:=fun h=>by rw [eq_of_beq h];decide +kernel
 have x13 : (event.toList == (ByteArray.mk #[112,114,101,115,115]).toList) = true → (event.toList == (ByteArray.mk #[115,99,114,111,108,108]).toList) = false:=fun h=>by rw [eq_of_beq h];decide +kernel
 have x14 : (event.toList == (ByteArray.mk #[112,114,101,115,115]).toList) = true → (event.toList == (ByteArray.mk #[100,105,115,109,105,115,115]).toList) = false:=fun h=>by rw [eq_of_beq h];decide +kernel
 have x23 : (event.toList == (ByteArray.mk #[99,104,97,110,103,101]).toList) = true → (event.toList == (ByteArray.mk #[115,99,114,111,108,108]).toList) = false:=fun h=>by rw [eq_of_beq h];decide +kernel
 have x24 : (event.toList == (ByteArray.mk #[99,104,97,110,103,101]).toList) = true → (event.toList == (ByteArray.mk #[100,105,115,109,105,115,115]).toList) = false:=fun h=>by rw [eq_of_beq h];decide +kernel
 have x34 : (event.toList == (ByteArray.mk #[115,99,114,111,108,108]).toList) = true → (event.toList == (ByteArray.mk #[100,105,115,109,105,115,115]).toList) = false:=fun h=>by rw [eq_of_beq h];decide +kernel
 unfold dp_reacts r30_reacts
 simp only [jnN]
 generalize (event.toList == (ByteArray.mk #[112,114,101,115,115]).toList) = b1 at *
 generalize (event.toList == (ByteArray.mk #[99,104,97,110,103,101]).toList) = b2 at *
 generalize (event.toList == (ByteArray.mk #[115,99,114,111,108,108]).toList) = b3 at *
 generalize (event.toList == (ByteArray.mk #[100,105,115,109,105,115,115]).toList) = b4 at *
 rcases (by omega : kind = 3 ∨ kind = 6 ∨ kind = 7 ∨ kind = 4 ∨ kind = 13 ∨ kind = 8 ∨ kind = 12 ∨ (kind ≠ 3 ∧ kind ≠ 6 ∧ kind ≠ 7 ∧ kind ≠ 4 ∧ kind ≠ 13 ∧ kind ≠ 8 ∧ kind ≠ 12)) with rfl | rfl | rfl | rfl | rfl | rfl | rfl | ⟨h1,h2,h3,h4,h5,h6,h7⟩
 ·revert b1 b2 b3 b4;decide +kernel
 ·revert b1 b2 b3 b4;decide +kernel
 ·revert b1 b2 b3 b4;decide +kernel
 ·revert b1 b2 b3 b4;decide +kernel
 ·revert b1 b2 b3 b4;decide +kernel
 ·revert b1 b2 b3 b4;decide +kernel
 ·revert b1 b2 b3 b4;decide +kernel
 ·rw [show (kind == 3) = false by simpa using h1,show (kind == 6) = false by simpa using h2,show (kind == 7) = false by simpa using h3,show (kind == 4) = false by simpa using h4,show (kind == 13) = false by simpa using h5,show (kind == 8) = false by simpa using h6,show (kind == 12) = false by simpa using h7]
  revert b1 b2 b3 b4;decide +kernel
section
variable {t : Tree}
theorem stp_len (L : List Node) : ∀ (b : Bool) (p : List Int),(stp L b p).length = p.length
 | _,[]=>rfl
 | b,x :: r=>by show (stp L _ r).length + 1 = r.length + 1;rw [stp_len L _ r]
theorem stp_get (L : List Node) : ∀ (b : Bool) (p : List Int) (i : Nat) (h : i < p.length),(stp L b p)[i]? = some ⟨nd L p[i],b || (p.take (i + 1)).any fun x=>flagOf (nd L x)⟩
 | b,x :: r,0,_=>by
  show some (dispatch_step.mk (nd L x) (b || flagOf (nd L x))) = some ⟨nd L x,b || (flagOf (nd L x) || false)⟩
  rw [Bool.or_false]
 | b,x :: r,i + 1,h=>by
  show (stp L (b || flagOf (nd L x)) r)[i]? = _
  have hi : i < r.length:=by simpa using h
  rw [stp_get L _ r i hi]
  show some (dispatch_step.mk (nd L (r[i]'hi)) ((b || flagOf (nd L x)) || (r.take (i + 1)).any _)) = some ⟨nd L (r[i]'hi),b || (flagOf (nd L x) || (r.take (i + 1)).any _)⟩
  rw [Bool.or_assoc]
theorem steps_ok (G : Gd t) {p : List Int} (hp : On t p) {a : Int} (hv : vw_Path t a = some p) : dp_steps t a = some (stp t.Nodes false p):=by
 unfold dp_steps
 rw [jn_eq,hv,bind_some']
 have:=steps_loop G hp (fun s=>some s) N0 0 [] false (by have:=hp.1;unfold N0;omega) (Nat.zero_le _) (Nat.zero_le _)
 rw [List.drop_zero,List.nil_append] at this
 exact this
def disOf (t : Tree) (p : List Int) (i : Nat) : Bool:=(p.take (i + 1)).any fun x=>flagOf (nd t.Nodes x)
theorem step_at (p : List Int) {i : Nat} (h : i < p.length) : (stp t.Nodes false p)[i]? = some ⟨nd t.Nodes p[i],disOf t p i⟩:=by
 rw [stp_get t.Nodes false p i h,Bool.false_or];rfl
theorem On.take {p : List Int} (hp : On t p) (n : Nat) : On t (p.take n):=⟨by have:=hp.1;rw [List.length_take];omega,fun x hx=>hp.2 x (List.mem_of_mem_take hx)⟩
theorem off_at (G : Gd t) {p : List Int} (hp : On t p) {i : Nat} (h : i < p.length) : (slcO p 0 (((i + 1 : Nat)) : Int)).bind (fun q=>r30_off t q) = some (disOf t p i):=by
 rw [slcO_eq (by omega),bind_some',off_ok G (hp.take _)];rfl
theorem disabled_same (G : Gd t) {p : List Int} (hp : On t p) {a : Int} (hv : vw_Path t a = some p) (hr : r14_Path t a = some p) : ∃ b,dp_Disabled t a = some b ∧ r30_Disabled t a = some b:=by
 refine ⟨p.any fun x=>flagOf (nd t.Nodes x),?_,?_⟩
 ·unfold dp_Disabled
  rw [steps_ok G hp hv,bind_some',stp_len]
  have h4:=hp.1
  cases hl : p.length with
  | zero =>
   have : p = []:=List.eq_nil_of_length_eq_zero hl
   subst this;rfl
  | succ n =>
   have hn : n < p.length:=by omega
   rw [show decide ((((n + 1 : Nat)) : Int) > 0) = true from decide_eq_true (by omega),gO_true,wrap_id (by omega) (by omega),show (((n + 1 : Nat)) : Int) - 1 = (n : Int) by omega,idxO_nat,step_at p hn,bind_some',Bool.true_and]
   show some (disOf t p n) = _
   unfold disOf
   rw [List.take_of_length_le (by omega)]
 ·unfold r30_Disabled
  rw [hr,bind_some',off_ok G hp];rfl
theorem default_loop (G : Gd t) {p : List Int} (hp : On t p) (event : Str) (k : Unit → Option Int) (hk : ∃ r,k () = some r) : ∀ (m i : Nat),i < m → i ≤ p.length →
  ∃ r,loopK (dp_Default_L1 event (stp t.Nodes false p) k) m ((i : Int) - 1) = some r ∧ loopK (r30_Default_L1 t event p k) m ((i : Int) - 1) = some r:=by
 intro m
 induction m with
 | zero=>intro i h;omega
 | succ m ih =>
  intro i hm hi
  have h4:=hp.1
  show ∃ r,dp_Default_L1 event (stp t.Nodes false p) k (loopK _ m) ((i : Int) - 1) = some r ∧ r30_Default_L1 t event p k (loopK _ m) ((i : Int) - 1) = some r
  generalize loopK (dp_Default_L1 event (stp t.Nodes false p) k) m = again1 at ih ⊢
  generalize loopK (r30_Default_L1 t event p k) m = again2 at ih ⊢
  unfold dp_Default_L1 r30_Default_L1
  cases i with
  | zero =>
   obtain ⟨r,h⟩:=hk
   exact ⟨r,h,h⟩
  | succ j =>
   have hj : j < p.length:=by omega
   obtain ⟨d,hd⟩:=hp.2 _ (List.getElem_mem hj)
   have hpos : decide ((((j + 1 : Nat)) : Int) - 1 ≥ 0) = true:=decide_eq_true (by omega)
   have e1 : (((j + 1 : Nat)) : Int) - 1 = (j : Int):=by omega
   obtain ⟨r,g1,g2⟩:=ih j (by omega) (by omega)
   have ho:=off_at G hp hj
   rw [hpos,sel_true,sel_true,jn_eq,e1,wrap_id (x:=(j : Int) - 1) (by omega) (by omega),show IntKind.i64.wrap ((j : Int) + 1) = ((j + 1 : Nat) : Int) from wrap_suc hj (by unfold N0;omega),idxO_nat,step_at p hj,bind_some',slcO_eq (by omega),bind_some',off_ok G (hp.take _),bind_some']
   show ∃ r,sel (disOf t p j) _ _ = some r ∧ sel (disOf t p j) _ _ = some r
   cases disOf t p j with
   | true=>exact ⟨r,g1,g2⟩
   | false =>
    rw [sel_false,sel_false,lists_ok (G.node hd).1,bind_some',idxO_at hj,bind_some',G.find29 hd,bind_some',rlists_ok (G.node hd).1,bind_some']
    obtain ⟨c,c1,c2⟩:=reacts_same (nd t.Nodes p[j]).Kind event
    cases listsF (ByteArray.mk #[112,114,101,118,101,110,116,115]) event (nd t.Nodes p[j]).Attrs with
    | true=>exact ⟨0,rfl,rfl⟩
    | false =>
     rw [sel_false,sel_false,c1,c2,bind_some',bind_some']
     cases c with
     | true=>exact ⟨p[j],congrArg some (G.nid hd),rfl⟩
     | false=>exact ⟨r,g1,g2⟩
theorem default_same (G : Gd t) {p : List Int} (hp : On t p) {a : Int} (event : Str) (hv : vw_Path t a = some p) (hr : r14_Path t a = some p) : ∃ r,dp_Default t a event = some r ∧ r30_Default t a event = some r:=by
 have h4:=hp.1
 unfold dp_Default r30_Default
 rw [jn_eq,steps_ok G hp hv,hr,bind_some',bind_some',jn_eq,jn_eq,stp_len,wrap_id (by omega) (by omega)]
 exact default_loop G hp event (fun _=>some 0) ⟨0,rfl⟩ N0 p.length (by unfold N0;omega) (Nat.le_refl _)
end
end Go.Proofs.YtcenpkkficeaaaaGreatDoor
end
section
namespace Go.Proofs.YtcenpkkficeaaaaGreatDoor
open Go Go.E2
def RI (l : List Invocation) (n : Nat) : Prop:=l.length ≤ n ∧ ∀ v ∈ l,AValue.wtL v.Action.Args < 1000000
theorem RI.up {l : List Invocation} {n m : Nat} (h : RI l n) (hm : n ≤ m) : RI l m:=⟨Nat.le_trans h.1 hm,h.2⟩
theorem actP_mem {e : Str} : ∀ {l : List Action} {a : Action},actP e l = some a → a ∈ l
 | x :: r,a,h=>by
  unfold actP at h
  split at h
  ·cases h;exact List.mem_cons_self
  ·exact List.mem_cons_of_mem _ (actP_mem h)
def stF (L : List Node) (phase : Int) (name : Str) (x : Int) (out : List Invocation) : List Invocation:=match actP name (nd L x).Actions with
 | some a=>out ++ [⟨x,phase,a⟩]
 | none=>out
section
variable {t : Tree}
theorem stF_RI (G : Gd t) {d : Nat} {x : Int} (hd : Reach t.Nodes t.Root d x) {phase : Int} {name : Str} {out : List Invocation} {n : Nat} (h : RI out n) : RI (stF t.Nodes phase name x out) (n + 1):=by
 unfold stF
 split
 ·rename_i a ha
  refine ⟨by have:=h.1;simp;omega,fun v hv=>?_⟩
  rcases List.mem_append.1 hv with hv | hv
  ·exact h.2 v hv
  ·rw [List.mem_singleton.1 hv]
   exact (G.node hd).2.1.2 a (actP_mem ha)
 ·exact h.up (by omega)
theorem route1_ok (G : Gd t) {d : Nat} {x : Int} (hd : Reach t.Nodes t.Root d x) (b : Bool) (phase : Int) (name en event : Str) {out : List Invocation} (h : out.length ≤ 10000) :
  dp_Route_1 ⟨nd t.Nodes x,b⟩ phase name en out event = some (if b = true then (false,out) else (listsF en event (nd t.Nodes x).Attrs,stF t.Nodes phase name x out)):=by
 unfold dp_Route_1 stF
 cases b with
 | true=>rfl
 | false =>
  show sel false _ _ = _
  rw [sel_false,jn_eq,invoke_ok (s:=⟨nd t.Nodes x,false⟩) (G.node hd).2.1,bind_some',if_neg (by simp)]
  show sel (match actP name (nd t.Nodes x).Actions with | some a=>((⟨(nd t.Nodes x).ID,phase,a⟩ : Invocation),true) | none=>(⟨0,0,zA⟩,false)).2 _ _ = _
  cases actP name (nd t.Nodes x).Actions with
  | none =>
   show sel false _ _ = _
   rw [sel_false,lists_ok (G.node hd).1];rfl
  | some a =>
   show sel true _ _ = _
   rw [sel_true,appO_eq (by simp;omega),bind_some',lists_ok (G.node hd).1]
   show some (_,out ++ [(⟨(nd t.Nodes x).ID,phase,a⟩ : Invocation)]) = some (_,out ++ [⟨x,phase,a⟩])
   rw [G.nid hd]
theorem rbody (G : Gd t) {p : List Int} (hp : On t p) {j : Nat} (hj : j < p.length) (phase : Int) (name en event : Str) {out : List Invocation} (h : out.length ≤ 10000) (again : List Invocation → Option (List Invocation)) :
  ((slcO p 0 (((j + 1 : Nat)) : Int)).bind fun x13=>(r30_off t x13).bind fun x14=>sel x14 (again out) ((idxO p (j : Int)).bind fun x16=>(r29_Find t x16).bind fun x17=>jn (fun (s18 : (List Invocation))=>(r30_Lists x17.1.Attrs en event).bind fun x20=>sel x20 (some s18) (again s18)) fun k19=>(r30_action x17.1 name).bind fun x22=>sel x22.2 ((idxO p (j : Int)).bind fun x24=>(appO out ([(Invocation.mk x24 phase x22.1)])).bind fun x25=>k19 x25) (k19 out))) =
   if disOf t p j = true then again out else if listsF en event (nd t.Nodes p[j]).Attrs = true then some (stF t.Nodes phase name p[j] out) else again (stF t.Nodes phase name p[j] out):=by
 obtain ⟨d,hd⟩:=hp.2 _ (List.getElem_mem hj)
 rw [slcO_eq (by omega),bind_some',off_ok G (hp.take _),bind_some']
 show sel (disOf t p j) _ _ = _
 cases disOf t p j with
 | true=>rw [sel_true,if_pos rfl]
 | false =>
  rw [sel_false,if_neg (by simp),idxO_at hj,bind_some',G.find29 hd,bind_some',jn_eq,ract_ok (G.node hd).2.1,bind_some']
  unfold stF
  cases actP name (nd t.Nodes p[j]).Actions with
  | none =>
   show sel false _ _ = _
   rw [sel_false,rlists_ok (G.node hd).1]
   show sel (listsF en event (nd t.Nodes p[j]).Attrs) (some out) (again out) = _
   cases listsF en event (nd t.Nodes p[j]).Attrs <;> rfl
  | some a =>
   show sel true _ _ = _
   rw [sel_true,bind_some',appO_eq (by simp;omega),bind_some',rlists_ok (G.node hd).1]
   show sel (listsF en event (nd t.Nodes p[j]).Attrs) (some (out ++ [⟨p[j],phase,a⟩])) (again (out ++ [⟨p[j],phase,a⟩])) = _
   cases listsF en event (nd t.Nodes p[j]).Attrs <;> rfl
theorem bubble (G : Gd t) {p : List Int} (hp : On t p) (event : Str) (k : List Invocation → Option (List Invocation)) (hk : ∀ out,RI out 1000 → ∃ l,k out = some l ∧ RI l 1000) : ∀ (m i : Nat) (out : List Invocation) (n : Nat),i < m → i ≤ p.length → RI out n → n + i ≤ 1000 →
  ∃ l,loopK (dp_Route_L1 event (stp t.Nodes false p) k) m ((i : Int) - 1,out) = some l ∧ loopK (r30_Route_L1 t event p k) m (out,(i : Int) - 1) = some l ∧ RI l 1000:=by
 intro m
 induction m with
 | zero=>intro i _ _ h;omega
 | succ m ih =>
  intro i out n hm hi ho hn
  have h4:=hp.1
  show ∃ l,dp_Route_L1 event (stp t.Nodes false p) k (loopK _ m) ((i : Int) - 1,out) = some l ∧ r30_Route_L1 t event p k (loopK _ m) (out,(i : Int) - 1) = some l ∧ RI l 1000
  generalize loopK (dp_Route_L1 event (stp t.Nodes false p) k) m = again1 at ih ⊢
  generalize loopK (r30_Route_L1 t event p k) m = again2 at ih ⊢
  unfold dp_Route_L1 r30_Route_L1
  cases i with
  | zero =>
   obtain ⟨l,h,h'⟩:=hk out (ho.up (by omega))
   exact ⟨l,h,h,h'⟩
  | succ j =>
   have hj : j < p.length:=by omega
   obtain ⟨d,hd⟩:=hp.2 _ (List.getElem_mem hj)
   have hpos : decide ((((j + 1 : Nat)) : Int) - 1 ≥ 0) = true:=decide_eq_true (by omega)
   have e1 : (((j + 1 : Nat)) : Int) - 1 = (j : Int):=by omega
   have hlen : out.length ≤ 10000:=by have:=ho.1;omega
   simp only
   rw [hpos,sel_true,sel_true,jn_eq,e1,wrap_id (x:=(j : Int) - 1) (by omega) (by omega),show IntKind.i64.wrap ((j : Int) + 1) = ((j + 1 : Nat) : Int) from wrap_suc hj (by unfold N0;omega),idxO_nat,step_at p hj,bind_some',route1_ok G hd _ _ _ _ _ hlen,bind_some']
   have hb:=rbody G hp hj 2 event (ByteArray.mk #[115,116,111,112,115]) event hlen (fun s=>again2 (s,(j : Int) - 1))
   rw [idxO_nat] at hb
   cases hdis : disOf t p j with
   | true =>
    rw [hdis,if_pos rfl] at hb
    rw [if_pos rfl]
    obtain ⟨l,g1,g2,g3⟩:=ih j out n (by omega) (by omega) ho (by omega)
    exact ⟨l,g1,hb.trans g2,g3⟩
   | false =>
    rw [hdis,if_neg (by simp)] at hb
    rw [if_neg (by simp)]
    have hs:=stF_RI G hd (phase:=2) (name:=event) ho
    cases hlf : listsF (ByteArray.mk #[115,116,111,112,115]) event (nd t.Nodes p[j]).Attrs with
    | true =>
     rw [hlf,if_pos rfl] at hb
     exact ⟨_,rfl,hb,hs.up (by omega)⟩
    | false =>
     rw [hlf,if_neg (by simp)] at hb
     obtain ⟨l,g1,g2,g3⟩:=ih j _ (n + 1) (by omega) (by omega) hs (by omega)
     exact ⟨l,g1,hb.trans g2,g3⟩
theorem capture (G : Gd t) {p : List Int} (hp : On t p) {event : Str} (hev : event.size ≤ 140737488351232) (k k' : List Invocation → Option (List Invocation)) (hk : ∀ out,RI out 500 → ∃ l,k out = some l ∧ k' out = some l ∧ RI l 1000) : ∀ (m i : Nat) (out : List Invocation),p.length - i < m → i ≤ p.length → RI out i →
  ∃ l,loopK (dp_Route_L2 event (stp t.Nodes false p) k) m ((i : Int),out) = some l ∧ loopK (r30_Route_L2 t event p k') m (out,(i : Int)) = some l ∧ RI l 1000:=by
 intro m
 induction m with
 | zero=>intro i _ h;omega
 | succ m ih =>
  intro i out hm hi ho
  have h4:=hp.1
  show ∃ l,dp_Route_L2 event (stp t.Nodes false p) k (loopK _ m) ((i : Int),out) = some l ∧ r30_Route_L2 t event p k' (loopK _ m) (out,(i : Int)) = some l ∧ RI l 1000
  generalize loopK (dp_Route_L2 event (stp t.Nodes false p) k) m = again1 at ih ⊢
  generalize loopK (r30_Route_L2 t event p k') m = again2 at ih ⊢
  unfold dp_Route_L2 r30_Route_L2
  have hcat : catO (ByteArray.mk #[99,97,112,116,117,114,101,45]) event = some (ByteArray.mk #[99,97,112,116,117,114,101,45] ++ event):=if_pos (by show 8 + event.size ≤ _;omega)
  simp only [hcat,bindN]
  generalize ByteArray.mk #[99,97,112,116,117,114,101,45] ++ event = nm
  by_cases hj : i < p.length
  ·obtain ⟨d,hd⟩:=hp.2 _ (List.getElem_mem hj)
   have hlen : out.length ≤ 10000:=by have:=ho.1;omega
   rw [nz_lt (by rw [stp_len];exact hj),nz_lt hj,sel_true,sel_true,jn_eq,show IntKind.i64.wrap ((i : Int) + 1) = ((i + 1 : Nat) : Int) from wrap_suc hj (by unfold N0;omega),idxO_nat,step_at p hj,bind_some',route1_ok G hd _ _ _ _ _ hlen,bind_some']
   have hb:=rbody G hp hj 1 nm (ByteArray.mk #[98,108,111,99,107,115]) event hlen (fun s=>again2 (s,((i + 1 : Nat) : Int)))
   rw [idxO_nat] at hb
   cases hdis : disOf t p i with
   | true =>
    rw [hdis,if_pos rfl] at hb
    rw [if_pos rfl]
    obtain ⟨l,g1,g2,g3⟩:=ih (i + 1) out (by omega) (by omega) (ho.up (by omega))
    exact ⟨l,g1,hb.trans g2,g3⟩
   | false =>
    rw [hdis,if_neg (by simp)] at hb
    rw [if_neg (by simp)]
    have hs:=stF_RI G hd (phase:=1) (name:=nm) ho
    cases hlf : listsF (ByteArray.mk #[98,108,111,99,107,115]) event (nd t.Nodes p[i]).Attrs with
    | true =>
     rw [hlf,if_pos rfl] at hb
     exact ⟨_,rfl,hb,hs.up (by omega)⟩
    | false =>
     rw [hlf,if_neg (by simp)] at hb
     obtain ⟨l,g1,g2,g3⟩:=ih (i + 1) _ (by omega) (by omega) hs
     exact ⟨l,g1,hb.trans g2,g3⟩
  ·rw [nz_ge (by rw [stp_len];omega),nz_ge (by omega),sel_false,sel_false]
   exact hk out (ho.up (by omega))
end
end Go.Proofs.YtcenpkkficeaaaaGreatDoor
end
section
set_option maxRecDepth 100000
namespace Go.Proofs.YtcenpkkficeaaaaGreatDoor
open Go Go.E2
theorem same_loop {l : List Invocation} (h : RI l 1000) (k : Unit → Option Bool) : ∀ (m i : Nat),l.length - i < m → i ≤ l.length → loopK (l30_same_L1 l l k) m (i : Int) = k ():=by
 intro m
 induction m with
 | zero=>intro i h;omega
 | succ m ih =>
  intro i hm hi
  show l30_same_L1 l l k (loopK _ m) (i : Int) = k ()
  generalize loopK (l30_same_L1 l l k) m = again at ih ⊢
  unfold l30_same_L1
  by_cases hj : i < l.length
  ·have hw:=h.2 _ (List.getElem_mem hj)
   have hA : ActsOk [l[i].Action]:=⟨by simp,fun a ha=>by rw [List.mem_singleton.1 ha];exact hw⟩
   obtain ⟨c,c1,c2⟩:=rsameC_ok (b:=[l[i].Action]) hA
   have hc : c = true:=c2.2 rfl
   subst hc
   rw [nz_lt hj,sel_true,idxO_at hj]
   simp only [bindN,bne_self_eq_false,Bool.not_false,gOT',Bool.false_or,c1,Bool.not_true,selF']
   rw [wrap_suc hj (by have:=h.1;unfold N0;omega)]
   exact ih (i + 1) (by omega) (by omega)
  ·rw [nz_ge (by omega),sel_false]
theorem same_refl {l : List Invocation} (h : RI l 1000) : l30_same l l = some true:=by
 unfold l30_same
 rw [show ((l.length : Int) != (l.length : Int)) = false by simp,sel_false,jn_eq]
 exact same_loop h _ N0 0 (by have:=h.1;unfold N0;omega) (Nat.zero_le _)
theorem pre_same (event : Str) (o1 o2 : Option (List Invocation)) : ∃ b,strings_HasPrefix event (ByteArray.mk #[99,97,112,116,117,114,101,45]) = some b ∧ (gO (decide ((event.size : Int) ≥ 8)) (sslcO event 0 8)).bind (fun x2=>sel ((decide ((event.size : Int) ≥ 8)) && (x2.toList == (ByteArray.mk #[99,97,112,116,117,114,101,45]).toList)) o1 o2) = sel b o1 o2:=by
 unfold strings_HasPrefix stringslite_HasPrefix
 rw [show (((ByteArray.mk #[99,97,112,116,117,114,101,45]).size : Nat) : Int) = 8 from rfl]
 by_cases h : 8 ≤ event.size
 ·rw [show decide ((event.size : Int) ≥ 8) = true from decide_eq_true (by omega),gO_true,show sslcO event 0 8 = some (event.extract (0 : Int).toNat (8 : Int).toNat) from if_pos ⟨by omega,by omega,by omega⟩]
  exact ⟨_,rfl,rfl⟩
 ·rw [show decide ((event.size : Int) ≥ 8) = false from decide_eq_false (by omega),gO_false]
  exact ⟨false,rfl,rfl⟩
section
variable {t : Tree}
theorem route_same (G : Gd t) {p : List Int} (hp : On t p) {a : Int} {event : Str} (hev : event.size ≤ 140737488351232) (hv : vw_Path t a = some p) (hr : r14_Path t a = some p) : ∃ l, dp_Route t a event = some l ∧ r30_Route t a event = some l ∧ RI l 1000 := by
  have h4 := hp.1
  unfold dp_Route r30_Route
  obtain ⟨b, b1, b2⟩ := pre_same event (some ([] : List Invocation)) (jn (fun (s4 : (List Invocation)) => jn (fun (s6 : (List Invocation)) => some s6) fun k7 => loopK (r30_Route_L1 t event p k7) N0 (s4, IntKind.i64.wrap ((p.length : Int) - 1))) fun k5 => loopK (r30_Route_L2 t event p k5) N0 (([] : (List Invocation)), 0))
  rw [hr, bind_some', b1, bind_some']
  have key : ∃ l, (dp_steps t a).bind (fun x3 => jn (fun (s4 : (List Invocation)) => jn (fun (s6 : (List Invocation)) => some s6) fun k7 => jn (fun (s8 : (List Invocation)) => k7 s8) fun k9 => loopK (dp_Route_L1 event x3 k9) N0 (IntKind.i64.wrap ((x3.length : Int) - 1), s4)) fun k5 => loopK (dp_Route_L2 event x3 k5) N0 (0, ([] : (List Invocation)))) = some l ∧
      jn (fun (s4 : (List Invocation)) => jn (fun (s6 : (List Invocation)) => some s6) fun k7 => loopK (r30_Route_L1 t event p k7) N0 (s4, IntKind.i64.wrap ((p.length : Int) - 1))) (fun k5 => loopK (r30_Route_L2 t event p k5) N0 (([] : (List Invocation)), 0)) = some l ∧ RI l 1000 := by
    rw [steps_ok G hp hv, bind_some', jn_eq, jn_eq]
    refine capture G hp hev _ _ (fun out ho => ?_) N0 0 [] (by unfold N0; omega) (Nat.zero_le _) ⟨Nat.le_refl _, fun v hv => by cases hv⟩
    rw [jn_eq, jn_eq, jn_eq, stp_len, wrap_id (by omega) (by omega)]
    exact bubble G hp event (fun s => some s) (fun o ho => ⟨o, rfl, ho⟩) N0 p.length out 500 (by unfold N0; omega) (Nat.le_refl _) ho (by omega)
  obtain ⟨l, g1, g2, g3⟩ := key
  cases b with
  | true => exact ⟨[], rfl, b2, by simp, fun v hv => by cases hv⟩
  | false => exact ⟨l, g1, b2.trans g2, g3⟩
end
theorem nil_agrees {t : Tree} {a : Int} (event : Str) (hv : vw_Path t a = some []) (hr : r14_Path t a = some []) : l30_agrees t a event = some true:=by
 have hs : dp_steps t a = some []:=by
  unfold dp_steps
  rw [jn_eq,hv];rfl
 have d1 : dp_Disabled t a = some false:=by unfold dp_Disabled;rw [hs];rfl
 have d2 : r30_Disabled t a = some false:=by unfold r30_Disabled;rw [hr];rfl
 have r1 : dp_Route t a event = some []:=by
  unfold dp_Route
  obtain ⟨b,b1,_⟩:=pre_same event none none
  rw [b1,bind_some']
  cases b with
  | true=>rfl
  | false=>rw [sel_false,hs];rfl
 have r2 : r30_Route t a event = some []:=by
  unfold r30_Route
  obtain ⟨b,_,b2⟩:=pre_same event (some ([] : List Invocation)) (jn (fun (s4 : (List Invocation))=>jn (fun (s6 : (List Invocation))=>some s6) fun k7=>loopK (r30_Route_L1 t event [] k7) N0 (s4,IntKind.i64.wrap ((([] : List Int).length : Int) - 1))) fun k5=>loopK (r30_Route_L2 t event [] k5) N0 (([] : (List Invocation)),0))
  rw [hr,bind_some']
  refine b2.trans ?_
  cases b <;> rfl
 have f1 : dp_Default t a event = some 0:=by unfold dp_Default;rw [jn_eq,hs];rfl
 have f2 : r30_Default t a event = some 0:=by unfold r30_Default;rw [hr];rfl
 unfold l30_agrees
 rw [d1,d2,bind_some',bind_some',r1,r2,f1,f2];rfl
theorem agrees_ok {t : Tree} (h : TK t) (a : Int) {event : Str} (hev : event.size ≤ 140737488351232) : l30_agrees t a event = some true:=by
 rcases path_K h a with ⟨S,he,d,hd,hv,hr⟩ | ⟨hv,hr⟩
 ·have G : Gd t:=⟨S,he⟩
  have hdl:=reach_depth S.to0 hd
  have hl:=S.lim.2.2.2
  have hp : On t (pth t.Nodes d a):=⟨by rw [pth_len];omega,fun x hx=>by
   obtain ⟨i,hi,rfl⟩:=List.mem_iff_getElem.1 hx
   exact ⟨i,(pth_get S.to0 hd i _ (List.getElem?_eq_getElem hi)).2.1⟩⟩
  obtain ⟨b,d1,d2⟩:=disabled_same G hp hv hr
  obtain ⟨l,r1,r2,r3⟩:=route_same G hp hev hv hr
  obtain ⟨f,f1,f2⟩:=default_same G hp event hv hr
  unfold l30_agrees
  rw [d1,d2,bind_some',bind_some',show (b == b) = true by simp,gO_true,gO_true,r1,r2,bind_some',bind_some',gO_true,same_refl r3,bind_some',Bool.true_and,gO_true,gO_true,f1,f2,bind_some',bind_some',show (f == f) = true by simp];rfl
 ·exact nil_agrees event hv hr
theorem awake30_true : l30_awake = some true:=by kernel_rfl
end Go.Proofs.YtcenpkkficeaaaaGreatDoor
end
section
namespace Go.Proofs.YtcenpkkficeaaaaGreatDoor
open Go Go.E2
theorem built30_true (l : List Int) : l30_DispatchBuilt l = some true:=by
 have key : Tt (· = true) (l30_DispatchBuilt l):=by
  unfold l30_DispatchBuilt
  refine Tt.bind (New_t l) (fun s hs=>Tt.bind (Scenery_t 2 N0 s (by unfold N0;omega) (by omega) hs) (fun v hv=>Tt.bind (rBuild_K hv.1 (by omega) (by omega)) (fun t ht=>?_)))
  rw [jn_eq]
  have hpress : (ByteArray.mk #[112,114,101,115,115]).size ≤ 140737488351232:=by decide
  by_cases hlen : t.1.Nodes.length < N0
  ·refine Tt.loopN (n:=t.1.Nodes.length) (fun (s : List Int × Int) i=>((i : Int),s)) (fun i s=>SrcOk ⟨s.1,s.2⟩) hlen ?_ ?_ (v.2.L,v.2.At) hv.2
   ·intro again s i hi hs2 hag
    unfold l30_DispatchBuilt_L1
    refine Tt.sel (fun _=>?_) (fun hc=>absurd (of_decide_eq_false hc) (by simp;omega))
    refine Tt.bind (idx_t (by show 0 ≤ (i : Int);omega) (by show (i : Int) < _;omega)) (fun n hn=>?_)
    obtain ⟨ev,e1,e2,e3⟩ : ∃ ev,l30_events = some ev ∧ ev.length = 9 ∧ ∀ x ∈ ev,x.size ≤ 140737488351232:=⟨_,rfl,rfl,by decide⟩
    rw [e1,bind_some']
    refine Tt.bind (N_t hs2 (by decide) (by decide)) (fun a ha=>Tt.bind (idx_t ha.1 (by rw [e2];exact ha.2.1)) (fun e he=>?_))
    rw [agrees_ok ht.1 n.ID (e3 e he.1),bind_some']
    refine Tt.bind (Tt.gO (fun _=>(idx_t (by show 0 ≤ (i : Int);omega) (by show (i : Int) < _;omega)).mono (fun _ _=>trivial)) (fun hc=>by cases hc)) (fun m (_ : True)=>?_)
    rw [agrees_ok ht.1 m.ID hpress]
    show Tt _ (again (IntKind.i64.wrap ((i : Int) + 1),a.2.L,a.2.At))
    rw [wrap_suc hi hlen]
    exact hag (a.2.L,a.2.At) ha.2.2
   ·intro again s hs2
    unfold l30_DispatchBuilt_L1
    refine Tt.sel (fun hc=>absurd (of_decide_eq_true hc) (by simp)) (fun _=>?_)
    refine Tt.bind (Raw_t hs2) (fun a ha=>?_)
    rw [agrees_ok ht.1 a.1 hpress,bind_some',gO_true,awake30_true]
    exact ⟨true,rfl,rfl⟩
  ·exact (hlen (Nat.lt_of_le_of_lt ht.2 (by unfold N0;omega))).elim
 obtain ⟨b,e,hb⟩:=key
 rw [e,hb]
end Go.Proofs.YtcenpkkficeaaaaGreatDoor
end

/-
  Part 6 of the texts under the law FocusTabs: the calculus, the plain functions, their walks, plain facts.
-/
import Derived.Test.YtfoigppmcelgfaaDoorFocusTabsB5
section
namespace Go.E2
open Go
variable (f : Int → Int → Option Int)
def insG_L1 (a : Int) (k9 : (List Int) → Option (List Int)) (again11 : (Int × (List Int)) → Option (List Int)) (s10 : Int × (List Int)) : Option (List Int):=(gO (decide (s10.1 > a)) (ixO s10.2.length s10.1)).bind fun x12=>(gO (decide (s10.1 > a)) (s10.2[x12]?)).bind fun x13=>(gO (decide (s10.1 > a)) (ixO s10.2.length (IntKind.i64.wrap (s10.1 - 1)))).bind fun x14=>(gO (decide (s10.1 > a)) (s10.2[x14]?)).bind fun x15=>(gO (decide (s10.1 > a)) (f x13 x15)).bind fun x16=>sel ((decide (s10.1 > a)) && (decide (x16 < 0))) ((ixO s10.2.length (IntKind.i64.wrap (s10.1 - 1))).bind fun x18=>(s10.2[x18]?).bind fun x19=>(ixO s10.2.length s10.1).bind fun x20=>(s10.2[x20]?).bind fun x21=>(ixO s10.2.length s10.1).bind fun x22=>(ixO (List.set s10.2 x22 x19).length (IntKind.i64.wrap (s10.1 - 1))).bind fun x23=>again11 (IntKind.i64.wrap (s10.1 - 1),List.set (List.set s10.2 x22 x19) x23 x21)) (k9 s10.2)
def insG_L2 (a b : Int) (k2 : (List Int) → Option (List Int)) (again4 : (Int × (List Int)) → Option (List Int)) (s3 : Int × (List Int)) : Option (List Int):=sel (decide (s3.1 < b)) (jn (fun (s6 : (List Int))=>again4 (IntKind.i64.wrap (s3.1 + 1),s6)) fun k7=>jn (fun (s8 : (List Int))=>k7 s8) fun k9=>loopK (insG_L1 f a k9) N0 (s3.1,s3.2)) (k2 s3.2)
def insG (data : (List Int)) (a b : Int) : Option (List Int):=jn (fun (s1 : (List Int))=>some s1) fun k2=>loopK (insG_L2 f a b k2) N0 (IntKind.i64.wrap (a + 1),data)
def sg (a b : Int) : Int:=if a < b then -1 else if a > b then 1 else 0
theorem sg_neg {a b : Int} : decide (sg a b < 0) = decide (a < b):=by unfold sg;split <;> (try split) <;> simp <;> omega
variable (r : Int → Int)
def insR : List Int → Int → List Int → List Int
 | [],x,acc=>x :: acc
 | y :: t,x,acc=>if r x < r y then insR t x (y :: acc) else (y :: t).reverse ++ x :: acc
theorem insR_app : ∀ (t : List Int) (x : Int) (a b : List Int),insR r t x (a ++ b) = insR r t x a ++ b
 | [],x,a,b=>rfl
 | y :: t,x,a,b=>by
  unfold insR
  split
  ·exact insR_app t x (y :: a) b
  ·simp
theorem insR_len : ∀ (t : List Int) (x : Int) (a : List Int),(insR r t x a).length = t.length + 1 + a.length
 | [],x,a=>by simp [insR];omega
 | y :: t,x,a=>by
  unfold insR
  split
  ·rw [insR_len t x (y :: a)];simp;omega
  ·simp;omega
theorem insR_perm : ∀ (t : List Int) (x : Int) (a : List Int),(insR r t x a).Perm (x :: (t.reverse ++ a))
 | [],x,a=>List.Perm.refl _
 | y :: t,x,a=>by
  unfold insR
  split
  ·refine (insR_perm t x (y :: a)).trans ?_
   refine List.Perm.cons x ?_
   simp
  ·exact List.perm_middle
def isortF : List Int → List Int → List Int
 | s,[]=>s
 | s,x :: t=>isortF (insR r s.reverse x []) t
variable {f r}
theorem set_two {α : Type} (p : List α) (y x : α) (q : List α) : ((p ++ y :: x :: q).set (p.length + 1) y).set p.length x = p ++ x :: y :: q:=by
 rw [List.set_append_right _ _ (by omega),List.set_append_right _ _ (by omega)]
 simp
theorem insG_inner {n : Nat} (hn : n ≤ 1073741824) (k : List Int → Option (List Int)) : ∀ (m : Nat) (t : List Int) (x : Int) (q : List Int),t.length < m → t.length + 1 + q.length = n → (∀ y ∈ t,f x y = some (sg (r x) (r y))) → loopK (insG_L1 f 0 k) m ((t.length : Int),t.reverse ++ x :: q) = k (insR r t x q)
 | 0,_,_,_,h,_,_=>absurd h (Nat.not_lt_zero _)
 | m + 1,t,x,q,h,hl,hf=>by
  show insG_L1 f 0 k (loopK (insG_L1 f 0 k) m) _ = _
  have ih:=fun t' q' h1 h2 h3=>insG_inner hn k m t' x q' h1 h2 h3
  generalize loopK (insG_L1 f 0 k) m = again at ih ⊢
  unfold insG_L1
  cases t with
  | nil =>
   simp only [List.length_nil,List.reverse_nil,List.nil_append]
   rw [show decide (((0 : Nat) : Int) > 0) = false by decide,gOF',bindN,gOF',bindN,gOF',bindN,gOF',bindN,gOF',bindN,Bool.false_and,selF']
   rfl
  | cons y t =>
   have hlen : ((y :: t).reverse ++ x :: q).length = n:=by simp at hl ⊢;omega
   have hj : ((y :: t).length : Int) > 0:=by rw [List.length_cons];omega
   have e1 : ((y :: t).reverse ++ x :: q)[(y :: t).length]? = some x:=by
    rw [List.getElem?_append_right (by simp)];simp
   have e2 : ((y :: t).reverse ++ x :: q)[t.length]? = some y:=by
    rw [List.getElem?_append_left (by simp)];simp
   have w1 : IntKind.i64.wrap (((y :: t).length : Int) - 1) = (t.length : Int):=by
    rw [List.length_cons,wrap_id (by omega) (by simp at hl;omega)]
    omega
   have i1 : ixO ((y :: t).reverse ++ x :: q).length ((y :: t).length : Int) = some (y :: t).length:=ixO_nat (by rw [hlen];simp at hl ⊢;omega)
   have i2 : ixO ((y :: t).reverse ++ x :: q).length (t.length : Int) = some t.length:=ixO_nat (by rw [hlen];simp at hl;omega)
   simp only [w1,decide_eq_true hj,gOT',i1,i2,bindN,e1,e2,hf y (by simp),Bool.true_and,sg_neg]
   by_cases hc : r x < r y
   ·rw [decide_eq_true hc,selT']
    simp only [List.length_set,i2,bindN]
    have e3 : (((y :: t).reverse ++ x :: q).set (y :: t).length y).set t.length x = t.reverse ++ x :: (y :: q):=by
     have:=set_two t.reverse y x q
     rw [List.length_reverse] at this
     rw [List.reverse_cons,List.append_assoc]
     exact this
    rw [e3,ih t (y :: q) (by simp at h;omega) (by simp at hl ⊢;omega) (fun z hz=>hf z (by simp [hz]))]
    conv=>rhs;unfold insR
    rw [if_pos hc]
   ·rw [decide_eq_false hc,selF']
    conv=>rhs;unfold insR
    rw [if_neg hc]
theorem insG_ok {l : List Int} (hn : l.length ≤ 1073741823) (hf : ∀ x ∈ l,∀ y ∈ l,f x y = some (sg (r x) (r y))) : insG f l 0 (l.length : Int) = some (isortF r (l.take 1) (l.drop 1)):=by
 unfold insG
 rw [jnN,show IntKind.i64.wrap (0 + 1) = ((1 : Nat) : Int) by rw [wrap_id] <;> omega]
 have key : ∀ (m : Nat) (s t : List Int),t.length < m → s.length + t.length = l.length → (∀ x ∈ s ++ t,x ∈ l) → loopK (insG_L2 f 0 (l.length : Int) fun s1=>some s1) m ((s.length : Int),s ++ t) = some (isortF r s t):=by
  intro m
  induction m with
  | zero=>intro s t h;exact absurd h (Nat.not_lt_zero _)
  | succ m ih =>
   intro s t h hl hm
   show insG_L2 f 0 _ _ (loopK _ m) _ = _
   unfold insG_L2
   cases t with
   | nil =>
    rw [nz_ge (by simp at hl;omega),selF',List.append_nil];rfl
   | cons x t =>
    rw [nz_lt (by simp at hl;omega),selT',jnN,jnN]
    have:=insG_inner (f:=f) (r:=r) (n:=l.length) (by omega) (fun s8=>loopK (insG_L2 f 0 (l.length : Int) fun s1=>some s1) m (IntKind.i64.wrap ((s.length : Int) + 1),s8)) N0 s.reverse x t (by rw [List.length_reverse];unfold N0;omega) (by rw [List.length_reverse];simp at hl;omega) (fun y hy=>hf x (hm x (by simp)) y (hm y (by simp at hy;simp [hy])))
    rw [List.length_reverse,List.reverse_reverse] at this
    refine this.trans ?_
    have e : insR r s.reverse x t = insR r s.reverse x [] ++ t:=by
     have:=insR_app r s.reverse x [] t
     rwa [List.nil_append] at this
    have hlen : (insR r s.reverse x []).length = s.length + 1:=by rw [insR_len];simp
    have hp:=insR_perm r s.reverse x []
    rw [List.reverse_reverse,List.append_nil] at hp
    rw [e,wrap_id (by omega) (by simp at hl;omega),show (s.length : Int) + 1 = ((insR r s.reverse x []).length : Int) by rw [hlen];omega,ih _ t (by simp at h;omega) (by rw [hlen];simp at hl;omega) (fun y hy=>by
     rcases List.mem_append.1 hy with h1 | h1
     ·have:=hp.mem_iff.1 h1
      exact hm y (by simp at this ⊢;rcases this with h2 | h2 <;> simp [h2])
     ·exact hm y (by simp [h1]))]
    rfl
 cases l with
 | nil =>
  rw [loopK_first]
  unfold insG_L2
  simp [isortF]
 | cons x t =>
  have:=key N0 [x] t (by simp at hn;unfold N0;omega) (by simp;omega) (fun y hy=>by simpa using hy)
  exact this
theorem isortF_perm : ∀ (t s : List Int),(isortF r s t).Perm (s ++ t)
 | [],s=>by rw [List.append_nil];exact List.Perm.refl _
 | x :: t,s=>by
  refine (isortF_perm t _).trans ?_
  have hp:=insR_perm r s.reverse x []
  rw [List.reverse_reverse,List.append_nil] at hp
  refine (hp.append_right t).trans ?_
  exact (List.perm_middle (l₁:=s) (a:=x) (l₂:=t)).symm
def Lex (r : Int → Int) (p : Int → Nat) (x y : Int) : Prop:=r x < r y ∨ (r x = r y ∧ p x < p y)
theorem Lex.trans {p : Int → Nat} {x y z : Int} (h : Lex r p x y) (h' : Lex r p y z) : Lex r p x z:=by unfold Lex at *;omega
theorem insR_sorted {p : Int → Nat} : ∀ (t : List Int) (x : Int) (a : List Int),(t.reverse ++ a).Pairwise (Lex r p) → (∀ y ∈ t,p y < p x) → (∀ y ∈ a,Lex r p x y) → (insR r t x a).Pairwise (Lex r p)
 | [],x,a,h,_,ha=>by
  unfold insR
  exact List.pairwise_cons.2 ⟨ha,by simpa using h⟩
 | y :: t,x,a,h,hb,ha=>by
  unfold insR
  rw [List.reverse_cons,List.append_assoc] at h
  split
  ·rename_i hc
   refine insR_sorted t x (y :: a) h (fun z hz=>hb z (by simp [hz])) (fun z hz=>?_)
   rcases List.mem_cons.1 hz with e | e
   ·subst e;exact .inl hc
   ·exact ha z e
  ·rename_i hc
   rw [List.reverse_cons,List.append_assoc]
   rw [List.pairwise_append] at h ⊢
   obtain ⟨h1,h2,h3⟩:=h
   have hya : (y :: a).Pairwise (Lex r p):=h2
   have hyx : Lex r p y x:=by
    have:=hb y (by simp)
    unfold Lex;omega
   refine ⟨h1,?_,fun z hz w hw=>?_⟩
   ·show (y :: x :: a).Pairwise _
    rw [List.pairwise_cons] at hya
    refine List.pairwise_cons.2 ⟨fun w hw=>?_,List.pairwise_cons.2 ⟨ha,hya.2⟩⟩
    rcases List.mem_cons.1 hw with e | e
    ·subst e;exact hyx
    ·exact hya.1 w e
   ·have hw' : w ∈ y :: x :: a:=hw
    have hzy : Lex r p z y:=h3 z hz y (by simp)
    rcases List.mem_cons.1 hw' with e | e
    ·subst e;exact hzy
    ·rcases List.mem_cons.1 e with e | e
     ·subst e;exact hzy.trans hyx
     ·exact h3 z hz w (by simp [e])
theorem isortF_sorted {p : Int → Nat} : ∀ (t s : List Int),s.Pairwise (Lex r p) → (∀ x ∈ s,∀ y ∈ t,p x < p y) → t.Pairwise (fun x y=>p x < p y) → (isortF r s t).Pairwise (Lex r p)
 | [],s,h,_,_=>h
 | x :: t,s,h,hb,ht=>by
  rw [List.pairwise_cons] at ht
  have hp:=insR_perm r s.reverse x []
  rw [List.reverse_reverse,List.append_nil] at hp
  refine isortF_sorted t _ (insR_sorted s.reverse x [] (by simpa using h) (fun y hy=>hb y (by simpa using hy) x (by simp)) (fun y hy=>by simp at hy)) (fun z hz y hy=>?_) ht.2
  have:=hp.mem_iff.1 hz
  rcases List.mem_cons.1 this with e | e
  ·subst e;exact ht.1 y hy
  ·exact hb z e y (by simp [hy])
theorem isort_sorted {p : Int → Nat} {l : List Int} (h : l.Pairwise (fun x y=>p x < p y)) : (isortF r (l.take 1) (l.drop 1)).Pairwise (Lex r p) ∧ (isortF r (l.take 1) (l.drop 1)).Perm l:=by
 constructor
 ·cases l with
  | nil=>exact List.Pairwise.nil
  | cons x t =>
   rw [List.pairwise_cons] at h
   refine isortF_sorted t [x] (List.pairwise_singleton _ _) (fun z hz y hy=>?_) h.2
   simp at hz;subst hz;exact h.1 y hy
 ·have:=isortF_perm (r:=r) (l.drop 1) (l.take 1)
  rwa [List.take_append_drop] at this
end Go.E2
end
section
set_option maxRecDepth 100000
namespace Go.Proofs.YtfoigppmcelgfaaDoor
open Go Go.E2
def sTab : Str:=ByteArray.mk #[116,97,98]
def ftB (x : Int) : View:=View.mk 3 ByteArray.empty ([(Attr.mk sTab (AValue.mk 1 x ByteArray.empty ([] : (List AValue))))]) ([] : (List Action)) ([] : (List View))
def ftV (l : List Int) : View:=View.mk 1 ByteArray.empty ([] : (List Attr)) ([] : (List Action)) (l.map ftB)
def ftT (l : List Int) : Tree:=trB (ftV l) 1
def ftS (n : Nat) : List Styled:=(l31_styles (ftT (List.replicate n 0))).getD default
structure FT (l : List Int) : Prop where
 styles : l31_styles (ftT l) = some (ftS l.length)
 cand : fo_Candidates (ftT l) (ftS l.length) = some ((List.range l.length).map fun i=>((i + 2 : Nat) : Int))
 tab : ∀ (i : Nat) x,l[i]? = some x → fo_Order_1 ((i + 2 : Nat) : Int) (ftT l) = some (mxI x 0)
theorem ft_ord0 (G : Gt (ftT [])) : vw_Order (ftT []) = some [1]:=by
 unfold vw_Order
 rw [G.valid]
 show _ = _
 kernel_rfl
theorem ft_shn0 (G : Gt (ftT [])) : widgetry_layout_Shown (ftT []) (ftS 0) = some [1]:=by
 unfold widgetry_layout_Shown
 rw [G.check]
 show _ = _
 kernel_rfl
theorem ft_cnd0 (G : Gt (ftT [])) : fo_Candidates (ftT []) (ftS 0) = some ([] : List Int):=by
 unfold fo_Candidates fo_look
 rw [ft_ord0  G,ft_shn0  G]
 show _ = _
 kernel_rfl
theorem ft_all0 (G : Gt (ftT [])) : FT [] where
 styles:=by show _ = _;kernel_rfl
 cand:=ft_cnd0  G
 tab:=fun i x h=>by
  match i,h with
  | k + 0,h=>simp at h
theorem ft_ord1 (x0 : Int) (G : Gt (ftT [x0])) : vw_Order (ftT [x0]) = some [1,2]:=by
 unfold vw_Order
 rw [G.valid]
 show _ = _
 kernel_rfl
theorem ft_shn1 (x0 : Int) (G : Gt (ftT [x0])) : widgetry_layout_Shown (ftT [x0]) (ftS 1) = some [1,2]:=by
 unfold widgetry_layout_Shown
 rw [G.check]
 show _ = _
 kernel_rfl
theorem ft_cnd1 (x0 : Int) (G : Gt (ftT [x0])) : fo_Candidates (ftT [x0]) (ftS 1) = some [2]:=by
 unfold fo_Candidates fo_look
 rw [ft_ord1 x0 G,ft_shn1 x0 G]
 show _ = _
 kernel_rfl
theorem ft_all1 (x0 : Int) (G : Gt (ftT [x0])) : FT [x0] where
 styles:=by show _ = _;kernel_rfl
 cand:=ft_cnd1 x0 G
 tab:=fun i x h=>by
  match i,h with
  | 0,h=>cases h;show _ = _;kernel_rfl
  | k + 1,h=>simp at h
theorem ft_ord2 (x0 x1 : Int) (G : Gt (ftT [x0,x1])) : vw_Order (ftT [x0,x1]) = some [1,2,3]:=by
 unfold vw_Order
 rw [G.valid]
 show _ = _
 kernel_rfl
theorem ft_shn2 (x0 x1 : Int) (G : Gt (ftT [x0,x1])) : widgetry_layout_Shown (ftT [x0,x1]) (ftS 2) = some [1,2,3]:=by
 unfold widgetry_layout_Shown
 rw [G.check]
 show _ = _
 kernel_rfl
theorem ft_cnd2 (x0 x1 : Int) (G : Gt (ftT [x0,x1])) : fo_Candidates (ftT [x0,x1]) (ftS 2) = some [2,3]:=by
 unfold fo_Candidates fo_look
 rw [ft_ord2 x0 x1 G,ft_shn2 x0 x1 G]
 show _ = _
 kernel_rfl
theorem ft_all2 (x0 x1 : Int) (G : Gt (ftT [x0,x1])) : FT [x0,x1] where
 styles:=by show _ = _;kernel_rfl
 cand:=ft_cnd2 x0 x1 G
 tab:=fun i x h=>by
  match i,h with
  | 0,h=>cases h;show _ = _;kernel_rfl
  | 1,h=>cases h;show _ = _;kernel_rfl
  | k + 2,h=>simp at h
theorem ft_ord3 (x0 x1 x2 : Int) (G : Gt (ftT [x0,x1,x2])) : vw_Order (ftT [x0,x1,x2]) = some [1,2,3,4]:=by
 unfold vw_Order
 rw [G.valid]
 show _ = _
 kernel_rfl
theorem ft_shn3 (x0 x1 x2 : Int) (G : Gt (ftT [x0,x1,x2])) : widgetry_layout_Shown (ftT [x0,x1,x2]) (ftS 3) = some [1,2,3,4]:=by
 unfold widgetry_layout_Shown
 rw [G.check]
 show _ = _
 kernel_rfl
theorem ft_cnd3 (x0 x1 x2 : Int) (G : Gt (ftT [x0,x1,x2])) : fo_Candidates (ftT [x0,x1,x2]) (ftS 3) = some [2,3,4]:=by
 unfold fo_Candidates fo_look
 rw [ft_ord3 x0 x1 x2 G,ft_shn3 x0 x1 x2 G]
 show _ = _
 kernel_rfl
theorem ft_all3 (x0 x1 x2 : Int) (G : Gt (ftT [x0,x1,x2])) : FT [x0,x1,x2] where
 styles:=by show _ = _;kernel_rfl
 cand:=ft_cnd3 x0 x1 x2 G
 tab:=fun i x h=>by
  match i,h with
  | 0,h=>cases h;show _ = _;kernel_rfl
  | 1,h=>cases h;show _ = _;kernel_rfl
  | 2,h=>cases h;show _ = _;kernel_rfl
  | k + 3,h=>simp at h
theorem ft_ord4 (x0 x1 x2 x3 : Int) (G : Gt (ftT [x0,x1,x2,x3])) : vw_Order (ftT [x0,x1,x2,x3]) = some [1,2,3,4,5]:=by
 unfold vw_Order
 rw [G.valid]
 show _ = _
 kernel_rfl
theorem ft_shn4 (x0 x1 x2 x3 : Int) (G : Gt (ftT [x0,x1,x2,x3])) : widgetry_layout_Shown (ftT [x0,x1,x2,x3]) (ftS 4) = some [1,2,3,4,5]:=by
 unfold widgetry_layout_Shown
 rw [G.check]
 show _ = _
 kernel_rfl
theorem ft_cnd4 (x0 x1 x2 x3 : Int) (G : Gt (ftT [x0,x1,x2,x3])) : fo_Candidates (ftT [x0,x1,x2,x3]) (ftS 4) = some [2,3,4,5]:=by
 unfold fo_Candidates fo_look
 rw [ft_ord4 x0 x1 x2 x3 G,ft_shn4 x0 x1 x2 x3 G]
 show _ = _
 kernel_rfl
theorem ft_all4 (x0 x1 x2 x3 : Int) (G : Gt (ftT [x0,x1,x2,x3])) : FT [x0,x1,x2,x3] where
 styles:=by show _ = _;kernel_rfl
 cand:=ft_cnd4 x0 x1 x2 x3 G
 tab:=fun i x h=>by
  match i,h with
  | 0,h=>cases h;show _ = _;kernel_rfl
  | 1,h=>cases h;show _ = _;kernel_rfl
  | 2,h=>cases h;show _ = _;kernel_rfl
  | 3,h=>cases h;show _ = _;kernel_rfl
  | k + 4,h=>simp at h
theorem ft_ord5 (x0 x1 x2 x3 x4 : Int) (G : Gt (ftT [x0,x1,x2,x3,x4])) : vw_Order (ftT [x0,x1,x2,x3,x4]) = some [1,2,3,4,5,6]:=by
 unfold vw_Order
 rw [G.valid]
 show _ = _
 kernel_rfl
theorem ft_shn5 (x0 x1 x2 x3 x4 : Int) (G : Gt (ftT [x0,x1,x2,x3,x4])) : widgetry_layout_Shown (ftT [x0,x1,x2,x3,x4]) (ftS 5) = some [1,2,3,4,5,6]:=by
 unfold widgetry_layout_Shown
 rw [G.check]
 show _ = _
 kernel_rfl
theorem ft_cnd5 (x0 x1 x2 x3 x4 : Int) (G : Gt (ftT [x0,x1,x2,x3,x4])) : fo_Candidates (ftT [x0,x1,x2,x3,x4]) (ftS 5) = some [2,3,4,5,6]:=by
 unfold fo_Candidates fo_look
 rw [ft_ord5 x0 x1 x2 x3 x4 G,ft_shn5 x0 x1 x2 x3 x4 G]
 show _ = _
 kernel_rfl
theorem ft_all5 (x0 x1 x2 x3 x4 : Int) (G : Gt (ftT [x0,x1,x2,x3,x4])) : FT [x0,x1,x2,x3,x4] where
 styles:=by show _ = _;kernel_rfl
 cand:=ft_cnd5 x0 x1 x2 x3 x4 G
 tab:=fun i x h=>by
  match i,h with
  | 0,h=>cases h;show _ = _;kernel_rfl
  | 1,h=>cases h;show _ = _;kernel_rfl
  | 2,h=>cases h;show _ = _;kernel_rfl
  | 3,h=>cases h;show _ = _;kernel_rfl
  | 4,h=>cases h;show _ = _;kernel_rfl
  | k + 5,h=>simp at h
theorem ft_ord6 (x0 x1 x2 x3 x4 x5 : Int) (G : Gt (ftT [x0,x1,x2,x3,x4,x5])) : vw_Order (ftT [x0,x1,x2,x3,x4,x5]) = some [1,2,3,4,5,6,7]:=by
 unfold vw_Order
 rw [G.valid]
 show _ = _
 kernel_rfl
theorem ft_shn6 (x0 x1 x2 x3 x4 x5 : Int) (G : Gt (ftT [x0,x1,x2,x3,x4,x5])) : widgetry_layout_Shown (ftT [x0,x1,x2,x3,x4,x5]) (ftS 6) = some [1,2,3,4,5,6,7]:=by
 unfold widgetry_layout_Shown
 rw [G.check]
 show _ = _
 kernel_rfl
theorem ft_cnd6 (x0 x1 x2 x3 x4 x5 : Int) (G : Gt (ftT [x0,x1,x2,x3,x4,x5])) : fo_Candidates (ftT [x0,x1,x2,x3,x4,x5]) (ftS 6) = some [2,3,4,5,6,7]:=by
 unfold fo_Candidates fo_look
 rw [ft_ord6 x0 x1 x2 x3 x4 x5 G,ft_shn6 x0 x1 x2 x3 x4 x5 G]
 show _ = _
 kernel_rfl
theorem ft_all6 (x0 x1 x2 x3 x4 x5 : Int) (G : Gt (ftT [x0,x1,x2,x3,x4,x5])) : FT [x0,x1,x2,x3,x4,x5] where
 styles:=by show _ = _;kernel_rfl
 cand:=ft_cnd6 x0 x1 x2 x3 x4 x5 G
 tab:=fun i x h=>by
  match i,h with
  | 0,h=>cases h;show _ = _;kernel_rfl
  | 1,h=>cases h;show _ = _;kernel_rfl
  | 2,h=>cases h;show _ = _;kernel_rfl
  | 3,h=>cases h;show _ = _;kernel_rfl
  | 4,h=>cases h;show _ = _;kernel_rfl
  | 5,h=>cases h;show _ = _;kernel_rfl
  | k + 6,h=>simp at h
theorem ft_ord7 (x0 x1 x2 x3 x4 x5 x6 : Int) (G : Gt (ftT [x0,x1,x2,x3,x4,x5,x6])) : vw_Order (ftT [x0,x1,x2,x3,x4,x5,x6]) = some [1,2,3,4,5,6,7,8]:=by
 unfold vw_Order
 rw [G.valid]
 show _ = _
 kernel_rfl
theorem ft_shn7 (x0 x1 x2 x3 x4 x5 x6 : Int) (G : Gt (ftT [x0,x1,x2,x3,x4,x5,x6])) : widgetry_layout_Shown (ftT [x0,x1,x2,x3,x4,x5,x6]) (ftS 7) = some [1,2,3,4,5,6,7,8]:=by
 unfold widgetry_layout_Shown
 rw [G.check]
 show _ = _
 kernel_rfl
theorem ft_cnd7 (x0 x1 x2 x3 x4 x5 x6 : Int) (G : Gt (ftT [x0,x1,x2,x3,x4,x5,x6])) : fo_Candidates (ftT [x0,x1,x2,x3,x4,x5,x6]) (ftS 7) = some [2,3,4,5,6,7,8]:=by
 unfold fo_Candidates fo_look
 rw [ft_ord7 x0 x1 x2 x3 x4 x5 x6 G,ft_shn7 x0 x1 x2 x3 x4 x5 x6 G]
 show _ = _
 kernel_rfl
theorem ft_all7 (x0 x1 x2 x3 x4 x5 x6 : Int) (G : Gt (ftT [x0,x1,x2,x3,x4,x5,x6])) : FT [x0,x1,x2,x3,x4,x5,x6] where
 styles:=by show _ = _;kernel_rfl
 cand:=ft_cnd7 x0 x1 x2 x3 x4 x5 x6 G
 tab:=fun i x h=>by
  match i,h with
  | 0,h=>cases h;show _ = _;kernel_rfl
  | 1,h=>cases h;show _ = _;kernel_rfl
  | 2,h=>cases h;show _ = _;kernel_rfl
  | 3,h=>cases h;show _ = _;kernel_rfl
  | 4,h=>cases h;show _ = _;kernel_rfl
  | 5,h=>cases h;show _ = _;kernel_rfl
  | 6,h=>cases h;show _ = _;kernel_rfl
  | k + 7,h=>simp at h
theorem ft_ord8 (x0 x1 x2 x3 x4 x5 x6 x7 : Int) (G : Gt (ftT [x0,x1,x2,x3,x4,x5,x6,x7])) : vw_Order (ftT [x0,x1,x2,x3,x4,x5,x6,x7]) = some [1,2,3,4,5,6,7,8,9]:=by
 unfold vw_Order
 rw [G.valid]
 show _ = _
 kernel_rfl
theorem ft_shn8 (x0 x1 x2 x3 x4 x5 x6 x7 : Int) (G : Gt (ftT [x0,x1,x2,x3,x4,x5,x6,x7])) : widgetry_layout_Shown (ftT [x0,x1,x2,x3,x4,x5,x6,x7]) (ftS 8) = some [1,2,3,4,5,6,7,8,9]:=by
 unfold widgetry_layout_Shown
 rw [G.check]
 show _ = _
 kernel_rfl
theorem ft_cnd8 (x0 x1 x2 x3 x4 x5 x6 x7 : Int) (G : Gt (ftT [x0,x1,x2,x3,x4,x5,x6,x7])) : fo_Candidates (ftT [x0,x1,x2,x3,x4,x5,x6,x7]) (ftS 8) = some [2,3,4,5,6,7,8,9]:=by
 unfold fo_Candidates fo_look
 rw [ft_ord8 x0 x1 x2 x3 x4 x5 x6 x7 G,ft_shn8 x0 x1 x2 x3 x4 x5 x6 x7 G]
 show _ = _
 kernel_rfl
theorem ft_all8 (x0 x1 x2 x3 x4 x5 x6 x7 : Int) (G : Gt (ftT [x0,x1,x2,x3,x4,x5,x6,x7])) : FT [x0,x1,x2,x3,x4,x5,x6,x7] where
 styles:=by show _ = _;kernel_rfl
 cand:=ft_cnd8 x0 x1 x2 x3 x4 x5 x6 x7 G
 tab:=fun i x h=>by
  match i,h with
  | 0,h=>cases h;show _ = _;kernel_rfl
  | 1,h=>cases h;show _ = _;kernel_rfl
  | 2,h=>cases h;show _ = _;kernel_rfl
  | 3,h=>cases h;show _ = _;kernel_rfl
  | 4,h=>cases h;show _ = _;kernel_rfl
  | 5,h=>cases h;show _ = _;kernel_rfl
  | 6,h=>cases h;show _ = _;kernel_rfl
  | 7,h=>cases h;show _ = _;kernel_rfl
  | k + 8,h=>simp at h
theorem ft_ord9 (x0 x1 x2 x3 x4 x5 x6 x7 x8 : Int) (G : Gt (ftT [x0,x1,x2,x3,x4,x5,x6,x7,x8])) : vw_Order (ftT [x0,x1,x2,x3,x4,x5,x6,x7,x8]) = some [1,2,3,4,5,6,7,8,9,10]:=by
 unfold vw_Order
 rw [G.valid]
 show _ = _
 kernel_rfl
theorem ft_shn9 (x0 x1 x2 x3 x4 x5 x6 x7 x8 : Int) (G : Gt (ftT [x0,x1,x2,x3,x4,x5,x6,x7,x8])) : widgetry_layout_Shown (ftT [x0,x1,x2,x3,x4,x5,x6,x7,x8]) (ftS 9) = some [1,2,3,4,5,6,7,8,9,10]:=by
 unfold widgetry_layout_Shown
 rw [G.check]
 show _ = _
 kernel_rfl
theorem ft_cnd9 (x0 x1 x2 x3 x4 x5 x6 x7 x8 : Int) (G : Gt (ftT [x0,x1,x2,x3,x4,x5,x6,x7,x8])) : fo_Candidates (ftT [x0,x1,x2,x3,x4,x5,x6,x7,x8]) (ftS 9) = some [2,3,4,5,6,7,8,9,10]:=by
 unfold fo_Candidates fo_look
 rw [ft_ord9 x0 x1 x2 x3 x4 x5 x6 x7 x8 G,ft_shn9 x0 x1 x2 x3 x4 x5 x6 x7 x8 G]
 show _ = _
 kernel_rfl
theorem ft_all9 (x0 x1 x2 x3 x4 x5 x6 x7 x8 : Int) (G : Gt (ftT [x0,x1,x2,x3,x4,x5,x6,x7,x8])) : FT [x0,x1,x2,x3,x4,x5,x6,x7,x8] where
 styles:=by show _ = _;kernel_rfl
 cand:=ft_cnd9 x0 x1 x2 x3 x4 x5 x6 x7 x8 G
 tab:=fun i x h=>by
  match i,h with
  | 0,h=>cases h;show _ = _;kernel_rfl
  | 1,h=>cases h;show _ = _;kernel_rfl
  | 2,h=>cases h;show _ = _;kernel_rfl
  | 3,h=>cases h;show _ = _;kernel_rfl
  | 4,h=>cases h;show _ = _;kernel_rfl
  | 5,h=>cases h;show _ = _;kernel_rfl
  | 6,h=>cases h;show _ = _;kernel_rfl
  | 7,h=>cases h;show _ = _;kernel_rfl
  | 8,h=>cases h;show _ = _;kernel_rfl
  | k + 9,h=>simp at h
theorem ft_ord10 (x0 x1 x2 x3 x4 x5 x6 x7 x8 x9 : Int) (G : Gt (ftT [x0,x1,x2,x3,x4,x5,x6,x7,x8,x9])) : vw_Order (ftT [x0,x1,x2,x3,x4,x5,x6,x7,x8,x9]) = some [1,2,3,4,5,6,7,8,9,10,11]:=by
 unfold vw_Order
 rw [G.valid]
 show _ = _
 kernel_rfl
theorem ft_shn10 (x0 x1 x2 x3 x4 x5 x6 x7 x8 x9 : Int) (G : Gt (ftT [x0,x1,x2,x3,x4,x5,x6,x7,x8,x9])) : widgetry_layout_Shown (ftT [x0,x1,x2,x3,x4,x5,x6,x7,x8,x9]) (ftS 10) = some [1,2,3,4,5,6,7,8,9,10,11]:=by
 unfold widgetry_layout_Shown
 rw [G.check]
 show _ = _
 kernel_rfl
theorem ft_cnd10 (x0 x1 x2 x3 x4 x5 x6 x7 x8 x9 : Int) (G : Gt (ftT [x0,x1,x2,x3,x4,x5,x6,x7,x8,x9])) : fo_Candidates (ftT [x0,x1,x2,x3,x4,x5,x6,x7,x8,x9]) (ftS 10) = some [2,3,4,5,6,7,8,9,10,11]:=by
 unfold fo_Candidates fo_look
 rw [ft_ord10 x0 x1 x2 x3 x4 x5 x6 x7 x8 x9 G,ft_shn10 x0 x1 x2 x3 x4 x5 x6 x7 x8 x9 G]
 show _ = _
 kernel_rfl
theorem ft_all10 (x0 x1 x2 x3 x4 x5 x6 x7 x8 x9 : Int) (G : Gt (ftT [x0,x1,x2,x3,x4,x5,x6,x7,x8,x9])) : FT [x0,x1,x2,x3,x4,x5,x6,x7,x8,x9] where
 styles:=by show _ = _;kernel_rfl
 cand:=ft_cnd10 x0 x1 x2 x3 x4 x5 x6 x7 x8 x9 G
 tab:=fun i x h=>by
  match i,h with
  | 0,h=>cases h;show _ = _;kernel_rfl
  | 1,h=>cases h;show _ = _;kernel_rfl
  | 2,h=>cases h;show _ = _;kernel_rfl
  | 3,h=>cases h;show _ = _;kernel_rfl
  | 4,h=>cases h;show _ = _;kernel_rfl
  | 5,h=>cases h;show _ = _;kernel_rfl
  | 6,h=>cases h;show _ = _;kernel_rfl
  | 7,h=>cases h;show _ = _;kernel_rfl
  | 8,h=>cases h;show _ = _;kernel_rfl
  | 9,h=>cases h;show _ = _;kernel_rfl
  | k + 10,h=>simp at h
theorem ft_ord11 (x0 x1 x2 x3 x4 x5 x6 x7 x8 x9 x10 : Int) (G : Gt (ftT [x0,x1,x2,x3,x4,x5,x6,x7,x8,x9,x10])) : vw_Order (ftT [x0,x1,x2,x3,x4,x5,x6,x7,x8,x9,x10]) = some [1,2,3,4,5,6,7,8,9,10,11,12]:=by
 unfold vw_Order
 rw [G.valid]
 show _ = _
 kernel_rfl
theorem ft_shn11 (x0 x1 x2 x3 x4 x5 x6 x7 x8 x9 x10 : Int) (G : Gt (ftT [x0,x1,x2,x3,x4,x5,x6,x7,x8,x9,x10])) : widgetry_layout_Shown (ftT [x0,x1,x2,x3,x4,x5,x6,x7,x8,x9,x10]) (ftS 11) = some [1,2,3,4,5,6,7,8,9,10,11,12]:=by
 unfold widgetry_layout_Shown
 rw [G.check]
 show _ = _
 kernel_rfl
theorem ft_cnd11 (x0 x1 x2 x3 x4 x5 x6 x7 x8 x9 x10 : Int) (G : Gt (ftT [x0,x1,x2,x3,x4,x5,x6,x7,x8,x9,x10])) : fo_Candidates (ftT [x0,x1,x2,x3,x4,x5,x6,x7,x8,x9,x10]) (ftS 11) = some [2,3,4,5,6,7,8,9,10,11,12]:=by
 unfold fo_Candidates fo_look
 rw [ft_ord11 x0 x1 x2 x3 x4 x5 x6 x7 x8 x9 x10 G,ft_shn11 x0 x1 x2 x3 x4 x5 x6 x7 x8 x9 x10 G]
 show _ = _
 kernel_rfl
theorem ft_all11 (x0 x1 x2 x3 x4 x5 x6 x7 x8 x9 x10 : Int) (G : Gt (ftT [x0,x1,x2,x3,x4,x5,x6,x7,x8,x9,x10])) : FT [x0,x1,x2,x3,x4,x5,x6,x7,x8,x9,x10] where
 styles:=by show _ = _;kernel_rfl
 cand:=ft_cnd11 x0 x1 x2 x3 x4 x5 x6 x7 x8 x9 x10 G
 tab:=fun i x h=>by
  match i,h with
  | 0,h=>cases h;show _ = _;kernel_rfl
  | 1,h=>cases h;show _ = _;kernel_rfl
  | 2,h=>cases h;show _ = _;kernel_rfl
  | 3,h=>cases h;show _ = _;kernel_rfl
  | 4,h=>cases h;show _ = _;kernel_rfl
  | 5,h=>cases h;show _ = _;kernel_rfl
  | 6,h=>cases h;show _ = _;kernel_rfl
  | 7,h=>cases h;show _ = _;kernel_rfl
  | 8,h=>cases h;show _ = _;kernel_rfl
  | 9,h=>cases h;show _ = _;kernel_rfl
  | 10,h=>cases h;show _ = _;kernel_rfl
  | k + 11,h=>simp at h
theorem ft_ord12 (x0 x1 x2 x3 x4 x5 x6 x7 x8 x9 x10 x11 : Int) (G : Gt (ftT [x0,x1,x2,x3,x4,x5,x6,x7,x8,x9,x10,x11])) : vw_Order (ftT [x0,x1,x2,x3,x4,x5,x6,x7,x8,x9,x10,x11]) = some [1,2,3,4,5,6,7,8,9,10,11,12,13]:=by
 unfold vw_Order
 rw [G.valid]
 show _ = _
 kernel_rfl
theorem ft_shn12 (x0 x1 x2 x3 x4 x5 x6 x7 x8 x9 x10 x11 : Int) (G : Gt (ftT [x0,x1,x2,x3,x4,x5,x6,x7,x8,x9,x10,x11])) : widgetry_layout_Shown (ftT [x0,x1,x2,x3,x4,x5,x6,x7,x8,x9,x10,x11]) (ftS 12) = some [1,2,3,4,5,6,7,8,9,10,11,12,13]:=by
 unfold widgetry_layout_Shown
 rw [G.check]
 show _ = _
 kernel_rfl
theorem ft_cnd12 (x0 x1 x2 x3 x4 x5 x6 x7 x8 x9 x10 x11 : Int) (G : Gt (ftT [x0,x1,x2,x3,x4,x5,x6,x7,x8,x9,x10,x11])) : fo_Candidates (ftT [x0,x1,x2,x3,x4,x5,x6,x7,x8,x9,x10,x11]) (ftS 12) = some [2,3,4,5,6,7,8,9,10,11,12,13]:=by
 unfold fo_Candidates fo_look
 rw [ft_ord12 x0 x1 x2 x3 x4 x5 x6 x7 x8 x9 x10 x11 G,ft_shn12 x0 x1 x2 x3 x4 x5 x6 x7 x8 x9 x10 x11 G]
 show _ = _
 kernel_rfl
theorem ft_all12 (x0 x1 x2 x3 x4 x5 x6 x7 x8 x9 x10 x11 : Int) (G : Gt (ftT [x0,x1,x2,x3,x4,x5,x6,x7,x8,x9,x10,x11])) : FT [x0,x1,x2,x3,x4,x5,x6,x7,x8,x9,x10,x11] where
 styles:=by show _ = _;kernel_rfl
 cand:=ft_cnd12 x0 x1 x2 x3 x4 x5 x6 x7 x8 x9 x10 x11 G
 tab:=fun i x h=>by
  match i,h with
  | 0,h=>cases h;show _ = _;kernel_rfl
  | 1,h=>cases h;show _ = _;kernel_rfl
  | 2,h=>cases h;show _ = _;kernel_rfl
  | 3,h=>cases h;show _ = _;kernel_rfl
  | 4,h=>cases h;show _ = _;kernel_rfl
  | 5,h=>cases h;show _ = _;kernel_rfl
  | 6,h=>cases h;show _ = _;kernel_rfl
  | 7,h=>cases h;show _ = _;kernel_rfl
  | 8,h=>cases h;show _ = _;kernel_rfl
  | 9,h=>cases h;show _ = _;kernel_rfl
  | 10,h=>cases h;show _ = _;kernel_rfl
  | 11,h=>cases h;show _ = _;kernel_rfl
  | k + 12,h=>simp at h
theorem ft_any (l : List Int) (h : l.length ≤ 12) (G : Gt (ftT l)) : FT l:=by
 rcases l with _ | ⟨x0,l⟩
 ·exact ft_all0  G
 rcases l with _ | ⟨x1,l⟩
 ·exact ft_all1 x0 G
 rcases l with _ | ⟨x2,l⟩
 ·exact ft_all2 x0 x1 G
 rcases l with _ | ⟨x3,l⟩
 ·exact ft_all3 x0 x1 x2 G
 rcases l with _ | ⟨x4,l⟩
 ·exact ft_all4 x0 x1 x2 x3 G
 rcases l with _ | ⟨x5,l⟩
 ·exact ft_all5 x0 x1 x2 x3 x4 G
 rcases l with _ | ⟨x6,l⟩
 ·exact ft_all6 x0 x1 x2 x3 x4 x5 G
 rcases l with _ | ⟨x7,l⟩
 ·exact ft_all7 x0 x1 x2 x3 x4 x5 x6 G
 rcases l with _ | ⟨x8,l⟩
 ·exact ft_all8 x0 x1 x2 x3 x4 x5 x6 x7 G
 rcases l with _ | ⟨x9,l⟩
 ·exact ft_all9 x0 x1 x2 x3 x4 x5 x6 x7 x8 G
 rcases l with _ | ⟨x10,l⟩
 ·exact ft_all10 x0 x1 x2 x3 x4 x5 x6 x7 x8 x9 G
 rcases l with _ | ⟨x11,l⟩
 ·exact ft_all11 x0 x1 x2 x3 x4 x5 x6 x7 x8 x9 x10 G
 rcases l with _ | ⟨x12,l⟩
 ·exact ft_all12 x0 x1 x2 x3 x4 x5 x6 x7 x8 x9 x10 x11 G
 exact absurd h (by simp only [List.length_cons];omega)
theorem key_empty : keyE ByteArray.empty = true:=by kernel_rfl
theorem nm_tab : namE sTab = true:=by kernel_rfl
theorem ftB_val {x : Int} (hx : -1000 ≤ x ∧ x ≤ 1000) (m : Int) (hm : m ≤ 300) : valF 16 (ftB x) 2 m = (0,m + 1):=by
 have c1 : chE (AValue.mk 1 x ByteArray.empty ([] : (List AValue))) = 0:=chE_int (by omega) (by omega)
 show valB _ _ _ _ = _
 unfold valB
 rw [if_neg (by omega),if_neg (by omega),if_neg (by simp [ftB]),if_neg (by simp [ftB,key_empty]),if_neg (by simp [ftB]),if_neg (by simp [ftB,atF,nm_tab,nle,c1]),if_neg (by simp [ftB,acF]),if_neg (by simp [ftB,dupF])]
 rfl
theorem ftB_kd : ∀ (l : List Int) (m : Int),(∀ x ∈ l,-1000 ≤ x ∧ x ≤ 1000) → m + l.length ≤ 300 → kdF (fun k m=>valF 16 k 2 m) (l.map ftB) m = (0,m + l.length)
 | [],m,_,_=>by simp [kdF]
 | x :: t,m,h,hl=>by
  rw [List.length_cons] at hl
  rw [List.map_cons,kdF_cons,ftB_val (h x (by simp)) m (by omega)]
  rw [if_neg (by simp),ftB_kd t (m + 1) (fun y hy=>h y (by simp [hy])) (by omega)]
  rw [List.length_cons];congr 1;omega
theorem ftB_dup : ∀ (l : List Int) (s : List Str),dupF s (l.map ftB) = false
 | [],s=>rfl
 | x :: t,s=>by
  rw [List.map_cons,dupF_cons,if_neg (by simp [ftB];intro h;exact absurd rfl h),ftB_dup t]
theorem ftV_err {l : List Int} (h : ∀ x ∈ l,-1000 ≤ x ∧ x ≤ 1000) (hl : l.length ≤ 12) : errV (ftV l) = 0:=by
 show (valB _ _ _ _).1 = 0
 unfold valB ftV
 simp only
 rw [if_neg (by omega),if_neg (by omega),if_neg (by omega),if_neg (by rw [key_empty];simp),if_neg (by simp;omega),if_neg (by simp [atF]),if_neg (by simp [acF]),if_neg (by rw [ftB_dup];simp)]
 show (kdF (fun k m=>valF 16 k 2 m) (l.map ftB) 1).1 = 0
 rw [ftB_kd l 1 h (by omega)]
theorem ftV_sm (l : List Int) : (ftV l).sm:=by
 rw [View.sm_eq]
 refine ⟨by show (0 : Nat) < N0;unfold N0;omega,fun a ha=>?_⟩
 obtain ⟨x,_,rfl⟩:=List.mem_map.1 (show a ∈ l.map ftB from ha)
 rw [View.sm_eq]
 exact ⟨by show (0 : Nat) < N0;unfold N0;omega,fun a ha=>by simp [ftB] at ha⟩
theorem compare_ok (x y : Int) : cmp_Compare_int x y = some (sg x y):=by
 have e : ∀ z : Int,cmp_isNaN_int z = some false:=fun z=>by unfold cmp_isNaN_int;simp
 unfold cmp_Compare_int
 rw [e,e,bindN,bindN,selF',selF',sel_dec,sel_dec]
 unfold sg
 split
 ·rfl
 ·split <;> rfl
def rk (l : List Int) (x : Int) : Int:=if mxI (l[(x - 2).toNat]?.getD 0) 0 = 0 then 1000000 else mxI (l[(x - 2).toNat]?.getD 0) 0
theorem order2_ok {l : List Int} (F : FT l) (h : ∀ x ∈ l,-1000 ≤ x ∧ x ≤ 1000) {i j : Nat} (hi : i < l.length) (hj : j < l.length) : fo_Order_2 ((i + 2 : Nat) : Int) ((j + 2 : Nat) : Int) (ftT l) = some (sg (rk l ((i + 2 : Nat) : Int)) (rk l ((j + 2 : Nat) : Int))):=by
 unfold fo_Order_2
 rw [F.tab i l[i] (List.getElem?_eq_getElem hi),bindN,F.tab j l[j] (List.getElem?_eq_getElem hj),bindN,compare_ok,compare_ok,bindN,bindN]
 have r : ∀ (k : Nat) (hk : k < l.length),rk l ((k + 2 : Nat) : Int) = if mxI l[k] 0 = 0 then 1000000 else mxI l[k] 0:=fun k hk=>by
  unfold rk
  rw [show (((k + 2 : Nat) : Int) - 2).toNat = k by omega,List.getElem?_eq_getElem hk];rfl
 rw [r i hi,r j hj]
 have b1:=h _ (List.getElem_mem hi)
 have b2:=h _ (List.getElem_mem hj)
 generalize l[i] = a at b1 ⊢
 generalize l[j] = b at b2 ⊢
 have m1 : mxI a 0 = if a < 0 then 0 else a:=by unfold mxI;(repeat' split) <;> omega
 have m2 : mxI b 0 = if b < 0 then 0 else b:=by unfold mxI;(repeat' split) <;> omega
 rw [m1,m2,sel_if]
 unfold sg
 by_cases p : a < 0 <;> by_cases q : b < 0 <;> simp only [p,q,if_true,if_false] <;> (repeat' split) <;> simp_all <;> omega
theorem order_ok {l : List Int} (F : FT l) (hl : l.length ≤ 12) (h : ∀ x ∈ l,-1000 ≤ x ∧ x ≤ 1000) : ∃ o,fo_Order (ftT l) (ftS l.length) = some o ∧ o.Pairwise (Lex (rk l) Int.toNat) ∧ o.Perm ((List.range l.length).map fun i=>((i + 2 : Nat) : Int)):=by
 have hm : ∀ x ∈ ((List.range l.length).map fun i=>((i + 2 : Nat) : Int)),∃ i,i < l.length ∧ x = ((i + 2 : Nat) : Int):=fun x hx=>by
  obtain ⟨i,hi,rfl⟩:=List.mem_map.1 hx
  exact ⟨i,List.mem_range.1 hi,rfl⟩
 have hlen : ((List.range l.length).map fun i=>((i + 2 : Nat) : Int)).length = l.length:=by simp
 have hs:=insG_ok (f:=fun x y=>fo_Order_2 x y (ftT l)) (r:=rk l) (l:=(List.range l.length).map fun i=>((i + 2 : Nat) : Int)) (by rw [hlen];omega) (fun x hx y hy=>by
  obtain ⟨i,hi,rfl⟩:=hm x hx
  obtain ⟨j,hj,rfl⟩:=hm y hy
  exact order2_ok F h hi hj)
 obtain ⟨s1,s2⟩:=isort_sorted (r:=rk l) (p:=Int.toNat) (l:=(List.range l.length).map fun i=>((i + 2 : Nat) : Int)) (by
  rw [List.pairwise_map]
  exact List.pairwise_lt_range.imp (fun {a b} hab=>by omega))
 refine ⟨_,?_,s1,s2⟩
 have hins : ∀ d : List Int,slices_insertionSortCmpFunc_int d 0 (d.length : Int) (ftT l) = insG (fun x y=>fo_Order_2 x y (ftT l)) d 0 (d.length : Int):=fun _=>rfl
 unfold fo_Order
 rw [F.cand,bindN]
 generalize hd : ((List.range l.length).map fun i=>((i + 2 : Nat) : Int)) = d at hs hlen
 have c1 : decide ((20 : Int) ≤ (d.length : Int)) = false:=by rw [hlen];simp;omega
 have c2 : decide ((20 : Int) < (d.length : Int)) = false:=by rw [hlen];simp;omega
 have e3 : ∀ k again (x : List Int),slices_stableCmpFunc_int_L3 (d.length : Int) (ftT l) k again (0,20,x) = k (0,x):=fun k again x=>by
  unfold slices_stableCmpFunc_int_L3
  show sel (decide ((20 : Int) ≤ (d.length : Int))) _ _ = _
  rw [c1];rfl
 have e2 : ∀ k again,slices_stableCmpFunc_int_L2 (d.length : Int) k again 20 = k ():=fun k again=>by
  unfold slices_stableCmpFunc_int_L2
  rw [c2];rfl
 unfold slices_SortStableFunc_Sl_int_int slices_stableCmpFunc_int
 rw [jnN,loopK_first,e3]
 show (((slices_insertionSortCmpFunc_int d 0 (d.length : Int) (ftT l)).bind fun x3=>jn (fun (_ : Unit)=>some x3) fun k5=>loopK (slices_stableCmpFunc_int_L2 (d.length : Int) k5) N0 20).bind _).bind _ = _
 rw [hins,hs,bindN,jnN,loopK_first,e2]
 rfl
theorem ft_L2 {l : List Int} (hl : l.length ≤ 12) (h : ∀ x ∈ l,-1000 ≤ x ∧ x ≤ 1000) (k : List View → Option Bool) : loopK (l31_FocusTabs_L2 l k) N0 (0,([] : (List View))) = k (l.map ftB):=by
 refine loopI (L:=l) (fun (s : List View) i=>((i : Int),s)) (fun i s=>s = (l.take i).map ftB) (fun r=>r = k (l.map ftB)) (by unfold N0;omega) (fun again s i x hx hi hp=>.inr ?_) (fun again s hp=>?_) [] rfl
 ·subst hp
  refine ⟨(l.take (i + 1)).map ftB,rfl,?_⟩
  unfold l31_FocusTabs_L2
  have hb:=h x (List.mem_of_getElem? hx)
  rw [nz_lt hi,selT',idxO_nat,hx,bindN,wrap_id (x:=x) (by omega) (by omega),appO_eq (by simp;omega),bindN,wrap_suc hi (by unfold N0;omega),take_suc hx,List.map_append]
  rfl
 ·subst hp
  unfold l31_FocusTabs_L2
  rw [nz_ge (Nat.le_refl _),selF',List.take_length]
theorem ft_L1 {l o : List Int} (hl : l.length ≤ 12) (h : ∀ x ∈ l,-1000 ≤ x ∧ x ≤ 1000) (ho : o.Pairwise (Lex (rk l) Int.toNat)) (hp : o.Perm ((List.range l.length).map fun i=>((i + 2 : Nat) : Int))) (k : Unit → Option Bool) : loopK (l31_FocusTabs_L1 l o k) N0 1 = k ():=by
 have hlen : o.length = l.length:=by rw [hp.length_eq];simp
 have hm : ∀ x ∈ o,∃ i,i < l.length ∧ x = ((i + 2 : Nat) : Int):=fun x hx=>by
  obtain ⟨i,hi,rfl⟩:=List.mem_map.1 (hp.mem_iff.1 hx)
  exact ⟨i,List.mem_range.1 hi,rfl⟩
 refine loopNF (n:=max o.length 1) (fun (_ : Unit) i=>(i : Int)) (fun i _=>1 ≤ i) (fun r=>r = k ()) (fun again _ i hi hp1=>.inr ⟨(),by omega,?_⟩) (fun again _ hp1=>?_) N0 1 () (by omega) (by unfold N0;omega) (Nat.le_refl _)
 ·have hi' : i < o.length:=by omega
  obtain ⟨a,ha,ea⟩:=hm o[i - 1] (List.getElem_mem _)
  obtain ⟨b,hb,eb⟩:=hm o[i] (List.getElem_mem _)
  have hlex:=List.pairwise_iff_getElem.1 ho (i - 1) i (by omega) hi' (by omega)
  rw [ea,eb] at hlex
  have w1 : IntKind.i64.wrap ((i : Int) - 1) = ((i - 1 : Nat) : Int):=by rw [wrap_id (by omega) (by omega)];omega
  have x1 : idxO o (i : Int) = some ((b + 2 : Nat) : Int):=by rw [idxO_at hi',eb]
  have x2 : idxO o ((i - 1 : Nat) : Int) = some ((a + 2 : Nat) : Int):=by rw [idxO_at (by omega),ea]
  have wl : IntKind.i64.wrap ((l.length : Int) + 1) = (l.length : Int) + 1:=wrap_id (by omega) (by omega)
  have wa : IntKind.i64.wrap (((a + 2 : Nat) : Int) - 2) = (a : Int):=by rw [wrap_id (by omega) (by omega)];omega
  have wb : IntKind.i64.wrap (((b + 2 : Nat) : Int) - 2) = (b : Int):=by rw [wrap_id (by omega) (by omega)];omega
  have b1:=h _ (List.getElem_mem ha)
  have b2:=h _ (List.getElem_mem hb)
  have r : ∀ (k : Nat) (hk : k < l.length),rk l ((k + 2 : Nat) : Int) = if mxI l[k] 0 = 0 then 1000000 else mxI l[k] 0:=fun k hk=>by
   unfold rk
   rw [show (((k + 2 : Nat) : Int) - 2).toNat = k by omega,List.getElem?_eq_getElem hk];rfl
  unfold Lex at hlex
  rw [r a ha,r b hb] at hlex
  unfold l31_FocusTabs_L1
  rw [nz_lt hi',selT',x1,bindN,wl,w1,x2]
  have c1 : decide (((b + 2 : Nat) : Int) < 2) = false:=by simp;omega
  have c2 : decide (((b + 2 : Nat) : Int) > (l.length : Int) + 1) = false:=by simp;omega
  have c3 : decide (((a + 2 : Nat) : Int) < 2) = false:=by simp;omega
  have c4 : decide (((a + 2 : Nat) : Int) > (l.length : Int) + 1) = false:=by simp;omega
  simp only [c1,c2,c3,c4,Bool.not_false,Bool.or_false,gOT',bindN,selF',wa,wb,idxO_at ha,idxO_at hb,wrap_id (x:=l[a]) (by omega) (by omega),wrap_id (x:=l[b]) (by omega) (by omega)]
  generalize l[a] = u at b1 hlex ⊢
  generalize l[b] = v at b2 hlex ⊢
  have m1 : mxI u 0 = if u < 0 then 0 else u:=by unfold mxI;(repeat' split) <;> omega
  have m2 : mxI v 0 = if v < 0 then 0 else v:=by unfold mxI;(repeat' split) <;> omega
  rw [m1,m2] at hlex
  have key1 : ∀ z w : Int,(z = ((a + 2 : Nat) : Int) ∧ w = ((b + 2 : Nat) : Int)) ∨ ((((decide (u > 0)) && (decide (v > 0))) && !(decide (u > v))) && (u == v)) = false → (((decide (u > 0)) && (decide (v > 0))) && ((decide (u > v)) || ((u == v) && (decide (z > w))))) = false:=by
   intro z w hz
   rcases hz with ⟨rfl,rfl⟩ | hz
   ·by_cases p : u > 0 <;> by_cases q : v > 0 <;> simp [p,q]
    rw [if_neg (by omega),if_neg (by omega),if_neg (by omega),if_neg (by omega)] at hlex
    omega
   ·by_cases p : u > 0 <;> by_cases q : v > 0 <;> simp [p,q] at hz ⊢
    rw [if_neg (by omega),if_neg (by omega),if_neg (by omega),if_neg (by omega)] at hlex
    omega
  have key2 : ∀ z w : Int,(z = ((a + 2 : Nat) : Int) ∧ w = ((b + 2 : Nat) : Int)) ∨ ((decide (u ≤ 0)) && !(decide (v > 0))) = false → ((decide (u ≤ 0)) && ((decide (v > 0)) || (decide (z > w)))) = false:=by
   intro z w hz
   have hu : u ≤ 0 → (if (if u < 0 then 0 else u) = 0 then (1000000 : Int) else if u < 0 then 0 else u) = 1000000:=fun hu=>by
    rw [if_pos];split <;> omega
   rcases hz with ⟨rfl,rfl⟩ | hz
   ·by_cases p : u ≤ 0
    ·rw [hu p] at hlex
     by_cases q : v > 0
     ·rw [if_neg (by omega),if_neg (by omega)] at hlex;omega
     ·rw [show (if (if v < 0 then 0 else v) = 0 then (1000000 : Int) else if v < 0 then 0 else v) = 1000000 from by rw [if_pos];split <;> omega] at hlex
      simp [p,q];omega
    ·simp [p]
   ·by_cases p : u ≤ 0
    ·rw [hu p] at hlex
     by_cases q : v > 0
     ·rw [if_neg (by omega),if_neg (by omega)] at hlex;omega
     ·simp [p,q] at hz
    ·simp [p]
  by_cases g1 : ((((decide (u > 0)) && (decide (v > 0))) && !(decide (u > v))) && (u == v)) = true
  ·rw [g1,gOT',bindN,gOT',bindN,key1 _ _ (.inl ⟨rfl,rfl⟩),selF']
   by_cases g2 : ((decide (u ≤ 0)) && !(decide (v > 0))) = true
   ·rw [g2,gOT',bindN,gOT',bindN,key2 _ _ (.inl ⟨rfl,rfl⟩),selF',wrap_id (by omega) (by omega)];rfl
   ·have g2':=Bool.eq_false_iff.2 g2
    rw [g2',gOF',bindN,gOF',bindN,key2 _ _ (.inr g2'),selF',wrap_id (by omega) (by omega)];rfl
  ·have g1':=Bool.eq_false_iff.2 g1
   rw [g1',gOF',bindN,gOF',bindN,key1 _ _ (.inr g1'),selF']
   by_cases g2 : ((decide (u ≤ 0)) && !(decide (v > 0))) = true
   ·rw [g2,gOT',bindN,gOT',bindN,key2 _ _ (.inl ⟨rfl,rfl⟩),selF',wrap_id (by omega) (by omega)];rfl
   ·have g2':=Bool.eq_false_iff.2 g2
    rw [g2',gOF',bindN,gOF',bindN,key2 _ _ (.inr g2'),selF',wrap_id (by omega) (by omega)];rfl
 ·unfold l31_FocusTabs_L1
  have : decide (((max o.length 1 : Nat) : Int) < (o.length : Int)) = false:=by simp;omega
  rw [this,selF']
theorem focusTabs_true (l : List Int) (hk : l.length ≤ maxLen ∧ ∀ a ∈ l,(Lit.int .i8 a).wf = true) : l31_FocusTabs l = some true:=by
 unfold l31_FocusTabs
 by_cases hl : (l.length : Int) > 12
 ·rw [decide_eq_true hl,selT']
 ·rw [decide_eq_false hl,selF',jnN]
  have h : ∀ x ∈ l,-1000 ≤ x ∧ x ≤ 1000:=fun x hx=>by
   have h:=hk.2 x hx
   simp only [Lit.wf,Bool.and_eq_true,decide_eq_true_eq] at h
   have : IntKind.i8.max = 127:=by decide
   have : IntKind.i8.min = -128:=by decide
   omega
  rw [ft_L2 (by omega) h]
  have he:=ftV_err h (by omega)
  have G : Gt (ftT l):=built_Gt he
  have F:=ft_any l (by omega) G
  have hB:=rBuild_ok (ftV_sm l) he
  obtain ⟨o,o1,o2,o3⟩:=order_ok F (by omega) h
  change ((r14_Build (ftV l) 1).bind _) = _
  rw [hB,bindN]
  show ((l31_styles (ftT l)).bind _) = _
  rw [F.styles,bindN]
  show ((fo_Order (ftT l) (ftS l.length)).bind _) = _
  rw [o1,bindN,show ((o.length : Int) != (l.length : Int)) = false by rw [o3.length_eq];simp,selF',jnN,ft_L1 (by omega) h o2 o3,awake31_true,bindN]
end Go.Proofs.YtfoigppmcelgfaaDoor
end

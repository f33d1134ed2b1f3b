/-
  Part 6 of the texts under the law AccessibleSliders: the calculus, the plain functions, their walks, plain facts.
-/
import Derived.Test.YtfoigppmcelgfaaGreatDoorAccessibleSlidersB5
import Derived.KernelRfl
section
namespace Go.Proofs.YtfoigppmcelgfaaGreatDoor
open Go Go.E2
theorem chk_loop {n : Nat} {a0 : AValue} {a1 : Int} (ih : ∀ (v : AValue) (d m : Int) (t : AType) (m' : Int),0 ≤ m → m ≤ 1000 → ex_check n v d m = some (t,0,m') → m' = m + v.wt ∧ m' ≤ 1000) (hlen : a0.L.length ≤ 100)
  {k12 : (List AType) × Int → Option (AType × Int × Int)} (hk : ∀ l m t m',k12 (l,m) = some (t,0,m') → m' = m) :
  ∀ (f i : Nat) (l : List AType) (m : Int) (t : AType) (m' : Int),i ≤ a0.L.length → 0 ≤ m → m ≤ 1000 → loopK (ex_check_L1 (ex_check n) a0 a1 k12) f (l,(i : Int),m) = some (t,0,m') → m' = m + AValue.wtL (a0.L.drop i) ∧ m' ≤ 1000
 | 0,_,_,_,_,_,_,_,_,h=>by cases h
 | f + 1,i,l,m,t,m',hi,h0,h1,h=>by
  have IH:=chk_loop (a1:=a1) ih hlen hk f
  change ex_check_L1 (ex_check n) a0 a1 k12 (loopK _ f) (l,(i : Int),m) = some (t,0,m') at h
  generalize loopK (ex_check_L1 (ex_check n) a0 a1 k12) f = again at h IH
  unfold ex_check_L1 at h
  simp only at h
  by_cases c : i < a0.L.length
  ·have hx : a0.L[i]? = some a0.L[i]:=List.getElem?_eq_getElem c
   rw [nz_lt c,sel_true,idxO_nat,hx,bind_some'] at h
   obtain ⟨r,r1,r2⟩:=bind_some h
   obtain ⟨t1,e1,m1⟩:=r
   simp only at r2
   by_cases he : e1 = 0
   ·subst he
    rw [show ((0 : Int) != 0) = false from rfl,sel_false] at r2
    obtain ⟨l2,l3,r3⟩:=bind_some r2
    obtain ⟨g1,g2⟩:=ih _ _ _ _ _ h0 h1 r1
    have hw:=a0.L[i].wt_pos
    rw [wrap_suc c (by unfold N0;omega)] at r3
    obtain ⟨g3,g4⟩:=IH (i + 1) l2 m1 t m' (by omega) (by omega) g2 r3
    rw [drop_cons' hx,AValue.wtL_cons]
    exact ⟨by omega,g4⟩
   ·rw [show (e1 != 0) = true by simp [he],sel_true] at r2
    exact absurd (congrArg (fun x=>x.2.1) (Option.some.inj r2)) he
  ·rw [nz_ge (by omega),sel_false] at h
   have:=hk _ _ _ _ h
   rw [List.drop_eq_nil_of_le (by omega),AValue.wtL_nil]
   omega
theorem chk_cnt : ∀ (n : Nat) (v : AValue) (d m : Int) (t : AType) (m' : Int),0 ≤ m → m ≤ 1000 → ex_check n v d m = some (t,0,m') → m' = m + v.wt ∧ m' ≤ 1000
 | 0,_,_,_,_,_,_,_,h=>by cases h
 | n + 1,v,d,m,t,m',h0,h1,h=>by
  change ex_check_B (ex_check n) v d m = some (t,0,m') at h
  unfold ex_check_B at h
  rw [wrap_id (x:=m + 1) (by omega) (by omega),fields_eq,bind_some',range_jn] at h
  cases c1 : ((v.Kind == 4) && (decide (d ≥ 16))) with
  | true=>rw [c1,sel_true] at h;cases h
  | false =>
   rw [c1,sel_false] at h
   cases c2 : badF v with
   | true=>rw [c2] at h;cases h
   | false =>
    rw [c2,Bool.not_false,Bool.not_true,sel_false] at h
    cases c3 : badR v with
    | true=>rw [c3,sel_true] at h;cases h
    | false =>
     rw [c3,sel_false] at h
     cases c4 : (((decide ((v.S.size : Int) > 2000)) || (decide ((v.L.length : Int) > 100))) || (decide (m + 1 > 1000))) with
     | true=>rw [c4,sel_true] at h;cases h
     | false =>
      rw [c4,sel_false] at h
      simp only [Bool.or_eq_false_iff,decide_eq_false_iff_not] at c4
      obtain ⟨b,_,hb⟩:=bind_some h
      cases b with
      | false=>cases hb
      | true =>
       rw [Bool.not_true,sel_false] at hb
       have hw:=v.wt_eq
       by_cases c5 : v.Kind = 4
       ·rw [show (v.Kind != 4) = false by simp [c5],sel_false,jn_eq] at hb
        obtain ⟨e1,e2⟩:=chk_loop (chk_cnt n) (a1:=d) (by omega) (k12:=_) (fun l q t q' hq=>by
         obtain ⟨x,_,x2⟩:=bind_some hq
         cases hx : x.2 with
         | false=>rw [hx] at x2;cases x2
         | true =>
          rw [hx] at x2
          have:=Option.some.inj x2
          exact (congrArg (fun y : AType × Int × Int=>y.2.2) this).symm) N0 0 [] (m + 1) t m' (Nat.zero_le _) (by omega) (by omega) hb
        rw [List.drop_zero] at e1
        exact ⟨by omega,e2⟩
       ·rw [show (v.Kind != 4) = true by simp [c5],sel_true] at hb
        have e : m' = m + 1:=(congrArg (fun y : AType × Int × Int=>y.2.2) (Option.some.inj hb)).symm
        have hL : v.L = []:=by
         unfold badF at c2
         simp only [Bool.or_eq_false_iff,Bool.and_eq_false_iff] at c2
         rcases c2.2 with c | c
         ·have : ¬ ((v.L.length : Int) > 0):=by simpa using c
          exact List.length_eq_zero_iff.1 (by omega)
         ·exact absurd (by simpa using c) c5
        rw [hL,AValue.wtL_nil] at hw
        exact ⟨by omega,by omega⟩
theorem chE_wt {v : AValue} (h : chE v = 0) : v.wt ≤ 1000:=by
 have h1:=chE_x v
 rw [h] at h1
 unfold ex_Check at h1
 obtain ⟨x,x1,x2⟩:=bind_some h1
 unfold ex_TypeOf at x1
 obtain ⟨y,y1,y2⟩:=bind_some x1
 obtain ⟨t,e,m⟩:=y
 by_cases he : e = 0
 ·subst he
  have:=chk_cnt N0 v 0 0 t m (by omega) (by omega) y1
  omega
 ·simp only at y2
  rw [show (e != 0) = true by simp [he],sel_true] at y2
  have:=Option.some.inj y2
  rw [← this] at x2
  exact absurd (Option.some.inj x2) he
theorem atF_each : ∀ {l : List Attr} {p : Option Attr},atF p l = 0 → ∀ a ∈ l,chE a.Value = 0
 | [],_,_,a,ha=>by cases ha
 | x :: r,p,h,a,ha=>by
  rw [atF_cons] at h
  by_cases c1 : namE x.Name = false
  ·rw [if_pos c1] at h;cases h
  rw [if_neg c1] at h
  by_cases c2 : nle (p.map (·.Name)) x.Name = true
  ·rw [if_pos c2] at h;cases h
  rw [if_neg c2] at h
  by_cases c3 : chE x.Value = 0
  ·rw [if_neg (by simp [c3])] at h
   rcases List.mem_cons.1 ha with e | e
   ·subst e;exact c3
   ·exact atF_each h a e
  ·rw [if_pos c3] at h;exact absurd h c3
theorem vaF_each : ∀ {l : List AValue},vaF l = 0 → ∀ a ∈ l,chE a = 0
 | [],_,a,ha=>by cases ha
 | x :: r,h,a,ha=>by
  rw [vaF_cons] at h
  by_cases c3 : chE x = 0
  ·rw [if_neg (by simp [c3])] at h
   rcases List.mem_cons.1 ha with e | e
   ·subst e;exact c3
   ·exact vaF_each h a e
  ·rw [if_pos c3] at h;exact absurd h c3
theorem acF_each : ∀ {l : List Action} {p : Option Action},acF p l = 0 → ∀ a ∈ l,a.Args.length ≤ 100 ∧ a.Instance.size ≤ 400 ∧ ∀ x ∈ a.Args,chE x = 0
 | [],_,_,a,ha=>by cases ha
 | x :: r,p,h,a,ha=>by
  rw [acF_cons] at h
  by_cases c1 : (namE x.Event && namE x.Handler) = false
  ·rw [if_pos c1] at h;cases h
  rw [if_neg c1] at h
  by_cases c2 : nle (p.map (·.Event)) x.Event = true
  ·rw [if_pos c2] at h;cases h
  rw [if_neg c2] at h
  by_cases c4 : x.Instance.size > 400 ∨ x.Args.length > 100
  ·rw [if_pos c4] at h;cases h
  rw [if_neg c4] at h
  by_cases c3 : vaF x.Args = 0
  ·rw [if_neg (by simp [c3])] at h
   rcases List.mem_cons.1 ha with e | e
   ·subst e;exact ⟨by omega,by omega,vaF_each c3⟩
   ·exact acF_each h a e
  ·rw [if_pos c3] at h;exact absurd h c3
theorem wtL_le {n : Nat} : ∀ {l : List AValue},(∀ x ∈ l,x.wt ≤ n) → AValue.wtL l ≤ n * l.length
 | [],_=>by rw [AValue.wtL_nil];omega
 | x :: r,h=>by
  rw [AValue.wtL_cons,List.length_cons,Nat.mul_succ]
  have:=h x (by simp)
  have:=wtL_le (l:=r) (fun y hy=>h y (by simp [hy]))
  omega
theorem OkV.attsOk {v : View} (h : OkV v) : AttrsOk v.Attrs:=⟨by have:=h.atts;omega,fun a ha=>by have:=chE_wt (atF_each h.atf a ha);omega⟩
theorem OkV.actsOk {v : View} (h : OkV v) : ActsOk v.Actions:=⟨by have:=h.acts;omega,fun a ha=>by
 obtain ⟨h1,_,h2⟩:=acF_each h.acf a ha
 have:=wtL_le (n:=1000) (fun x hx=>chE_wt (h2 x hx))
 have : 1000 * a.Args.length ≤ 1000 * 100:=Nat.mul_le_mul_left _ h1
 omega⟩
mutual
def View.vh : View → Prop
 | ⟨k,key,las,cs,kids⟩=>OkV ⟨k,key,las,cs,kids⟩ ∧ View.vhL kids
def View.vhL : List View → Prop
 | []=>True
 | x :: r=>View.vh x ∧ View.vhL r
end
theorem View.vhL_eq : ∀ l,View.vhL l ↔ ∀ a ∈ l,View.vh a
 | []=>by unfold View.vhL;simp
 | x :: r=>by unfold View.vhL;rw [View.vhL_eq r];simp
theorem View.vh_eq (v : View) : View.vh v ↔ OkV v ∧ ∀ a ∈ v.Kids,View.vh a:=by
 cases v
 conv=>lhs;unfold View.vh
 rw [View.vhL_eq]
mutual
def View.cnt : View → Nat
 | ⟨_,_,_,_,kids⟩=>1 + View.cntL kids
def View.cntL : List View → Nat
 | []=>0
 | x :: r=>View.cnt x + View.cntL r
end
theorem View.cnt_eq (v : View) : v.cnt = 1 + View.cntL v.Kids:=by cases v;conv=>lhs;unfold View.cnt
theorem View.cntL_cons (x : View) (r : List View) : View.cntL (x :: r) = x.cnt + View.cntL r:=by conv=>lhs;unfold View.cntL
theorem View.cntL_nil : View.cntL [] = 0:=by unfold View.cntL;rfl
theorem View.cntL_app : ∀ (l m : List View),View.cntL (l ++ m) = View.cntL l + View.cntL m
 | [],m=>by rw [List.nil_append,View.cntL_nil];omega
 | a :: r,m=>by rw [List.cons_append,View.cntL_cons,View.cntL_cons,View.cntL_app r m];omega
theorem val_all : ∀ (f : Nat) (v : View) (d m : Int),1 ≤ d → 18 ≤ (f : Int) + d → d ≤ 17 → m ≤ 400 → (valF f v d m).1 = 0 → v.vh ∧ (v.dp : Int) ≤ 17 - d ∧ (valF f v d m).2 = m + v.cnt ∧ (valF f v d m).2 ≤ 400
 | 0,_,_,_,_,h,h',_,_=>by omega
 | f + 1,v,d,m,hd,hf,h17,hm,h=>by
  obtain ⟨h1,h2,h3,h4⟩:=val_parts h
  have key : ∀ k m',m' ≤ 400 → (valF f k (d + 1) m').1 = 0 → k.vh ∧ (k.dp : Int) ≤ 17 - (d + 1) ∧ (valF f k (d + 1) m').2 = m' + k.cnt ∧ (valF f k (d + 1) m').2 ≤ 400:=fun k m' hm' h'=>val_all f k (d + 1) m' (by omega) (by omega) (by omega) hm' h'
  have hkids : ∀ (l : List View) (m' : Int),m' ≤ 400 → (kdF (fun k m=>valF f k (d + 1) m) l m').1 = 0 → (∀ k ∈ l,k.vh ∧ (k.dp : Int) ≤ 17 - (d + 1)) ∧ (kdF (fun k m=>valF f k (d + 1) m) l m').2 = m' + View.cntL l ∧ (kdF (fun k m=>valF f k (d + 1) m) l m').2 ≤ 400:=by
   intro l
   induction l with
   | nil=>intro m' hm' _;exact ⟨fun k hk=>(by cases hk),(by rw [View.cntL_nil];show m' = m' + ((0 : Nat) : Int);omega),hm'⟩
   | cons x r ih =>
    intro m' hm' hk
    rw [kdF_cons] at hk ⊢
    by_cases c : (valF f x (d + 1) m').1 = 0
    ·rw [if_neg (by simp [c])] at hk ⊢
     obtain ⟨k1,k2,k3,k4⟩:=key x m' hm' c
     obtain ⟨i1,i2,i3⟩:=ih _ k4 hk
     refine ⟨fun k hk'=>?_,by rw [i2,k3,View.cntL_cons];omega,i3⟩
     rcases List.mem_cons.1 hk' with e | e
     ·subst e;exact ⟨k1,k2⟩
     ·exact i1 k e
    ·rw [if_pos c] at hk;exact absurd hk c
  obtain ⟨i1,i2,i3⟩:=hkids v.Kids (m + 1) h2 h4
  have e : valF (f + 1) v d m = kdF (fun k m=>valF f k (d + 1) m) v.Kids (m + 1):=by
   show valB _ v d m = _
   unfold valB
   rw [if_neg (by omega),if_neg (by omega),if_neg (by have:=h3.kind;omega),if_neg (by rw [h3.key];exact Bool.noConfusion),if_neg (by have:=h3.atts;have:=h3.acts;have:=h3.kids;omega),if_neg (by simp [h3.atf]),if_neg (by simp [h3.acf]),if_neg (by rw [h3.dup];exact Bool.noConfusion)]
  rw [e,i2,View.cnt_eq,View.dp_eq]
  rw [i2] at i3
  have hdl : (View.dpL v.Kids : Int) ≤ 16 - d:=by
   have:=View.dpL_le (l:=v.Kids) (n:=(16 - d).toNat) (fun x hx=>by have:=(i1 x hx).2;omega)
   omega
  exact ⟨(View.vh_eq v).2 ⟨h3,fun a ha=>(i1 a ha).1⟩,by omega,by omega,i3⟩
theorem vh_bd : ∀ (n : Nat) (v : View),v.dp ≤ n → v.vh → v.bd
 | 0,v,h,_=>by rw [View.dp_eq] at h;omega
 | n + 1,v,h,hv=>by
  rw [View.dp_eq] at h
  rw [View.vh_eq] at hv
  rw [View.bd_eq]
  exact ⟨hv.1.attsOk,hv.1.actsOk,by have:=hv.1.kids;omega,fun a ha=>vh_bd n a (by have:=View.dpL_mem ha;omega) (hv.2 a ha)⟩
theorem vh_sm : ∀ (n : Nat) (v : View),v.dp ≤ n → v.vh → v.sm
 | 0,v,h,_=>by rw [View.dp_eq] at h;omega
 | n + 1,v,h,hv=>by
  rw [View.dp_eq] at h
  rw [View.vh_eq] at hv
  rw [View.sm_eq]
  exact ⟨by have:=(of_decide_eq_true hv.1.key).1;unfold N0;omega,fun a ha=>vh_sm n a (by have:=View.dpL_mem ha;omega) (hv.2 a ha)⟩
structure Vld (v : View) : Prop where
 vh : v.vh
 dp : v.dp ≤ 16
 cnt : v.cnt ≤ 400
 bd : v.bd
 sm : v.sm
theorem valid_all {v : View} (h : errV v = 0) : Vld v:=by
 obtain ⟨h1,h2,h3,h4⟩:=val_all 17 v 1 0 (by omega) (by omega) (by omega) (by omega) h
 exact ⟨h1,by omega,by omega,vh_bd _ v (Nat.le_refl _) h1,vh_sm _ v (Nat.le_refl _) h1⟩
end Go.Proofs.YtfoigppmcelgfaaGreatDoor
end
section
namespace Go.Proofs.YtfoigppmcelgfaaGreatDoor
open Go Go.E2
mutual
def bN : View → Int → Int → List Node
 | ⟨k,key,las,cs,kids⟩,p,x=>Node.mk x p k key las cs (kidIds kids (x + 1)) :: bL kids x (x + 1)
def bL : List View → Int → Int → List Node
 | [],_,_=>[]
 | v :: r,p,x=>bN v p x ++ bL r p (x + v.cnt)
def kidIds : List View → Int → List Int
 | [],_=>[]
 | v :: r,x=>x :: kidIds r (x + v.cnt)
end
theorem bN_eq (v : View) (p x : Int) : bN v p x = Node.mk x p v.Kind v.Key v.Attrs v.Actions (kidIds v.Kids (x + 1)) :: bL v.Kids x (x + 1):=by
 cases v
 conv=>lhs;unfold bN
theorem bL_nil (p x : Int) : bL [] p x = []:=by unfold bL;rfl
theorem bL_cons (v : View) (r : List View) (p x : Int) : bL (v :: r) p x = bN v p x ++ bL r p (x + v.cnt):=by conv=>lhs;unfold bL
theorem kidIds_nil (x : Int) : kidIds [] x = []:=by unfold kidIds;rfl
theorem kidIds_cons (v : View) (r : List View) (x : Int) : kidIds (v :: r) x = x :: kidIds r (x + v.cnt):=by conv=>lhs;unfold kidIds
theorem bL_app : ∀ (l m : List View) (p x : Int),bL (l ++ m) p x = bL l p x ++ bL m p (x + View.cntL l)
 | [],m,p,x=>by rw [List.nil_append,bL_nil,View.cntL_nil,List.nil_append];congr 1;omega
 | v :: l,m,p,x=>by
  rw [List.cons_append,bL_cons,bL_cons,bL_app l m,View.cntL_cons,List.append_assoc]
  congr 3;omega
theorem kidIds_app : ∀ (l m : List View) (x : Int),kidIds (l ++ m) x = kidIds l x ++ kidIds m (x + View.cntL l)
 | [],m,x=>by rw [List.nil_append,kidIds_nil,View.cntL_nil,List.nil_append];congr 1;omega
 | v :: l,m,x=>by
  rw [List.cons_append,kidIds_cons,kidIds_cons,kidIds_app l m,View.cntL_cons,List.cons_append]
  congr 3;omega
theorem cnt_pos (v : View) : 1 ≤ v.cnt:=by rw [View.cnt_eq];omega
theorem cntL_len : ∀ l : List View,l.length ≤ View.cntL l
 | []=>Nat.zero_le _
 | v :: r=>by
  rw [View.cntL_cons,List.length_cons]
  have:=cntL_len r
  have:=cnt_pos v
  omega
theorem cntL_mem : ∀ {l : List View} {v : View},v ∈ l → v.cnt ≤ View.cntL l
 | w :: r,v,h=>by
  rw [View.cntL_cons]
  rcases List.mem_cons.1 h with e | e
  ·subst e;omega
  ·have:=cntL_mem e;omega
theorem kidIds_len : ∀ (l : List View) (x : Int),(kidIds l x).length = l.length
 | [],_=>by rw [kidIds_nil];rfl
 | v :: r,x=>by rw [kidIds_cons,List.length_cons,List.length_cons,kidIds_len r]
theorem View.ind {P : View → Prop} (h : ∀ v : View,(∀ k ∈ v.Kids,P k) → P v) : ∀ (n : Nat) (v : View),v.dp ≤ n → P v
 | 0,v,hd=>by rw [View.dp_eq] at hd;omega
 | n + 1,v,hd=>by
  rw [View.dp_eq] at hd
  exact h v (fun k hk=>View.ind h n k (by have:=View.dpL_mem hk;omega))
theorem View.all {P : View → Prop} (h : ∀ v : View,(∀ k ∈ v.Kids,P k) → P v) (v : View) : P v:=View.ind h _ v (Nat.le_refl _)
theorem bL_len' : ∀ (l : List View) (p x : Int),(∀ v ∈ l,∀ p x,(bN v p x).length = v.cnt) → (bL l p x).length = View.cntL l
 | [],p,x,_=>by rw [bL_nil,View.cntL_nil];rfl
 | v :: r,p,x,h=>by rw [bL_cons,List.length_append,View.cntL_cons,h v (by simp),bL_len' r _ _ (fun w hw=>h w (by simp [hw]))]
theorem bN_len : ∀ (v : View) (p x : Int),(bN v p x).length = v.cnt:=View.all (fun v ih p x=>by
 rw [bN_eq,List.length_cons,bL_len' _ _ _ ih,View.cnt_eq];omega)
theorem bL_len (l : List View) (p x : Int) : (bL l p x).length = View.cntL l:=bL_len' l p x (fun v _=>bN_len v)
theorem cnt_split {l : List View} {i : Nat} {x : View} (h : l[i]? = some x) : View.cntL (l.take i) + x.cnt + View.cntL (l.drop (i + 1)) = View.cntL l:=by
 have e : l = l.take i ++ x :: l.drop (i + 1):=by rw [← drop_cons' h,List.take_append_drop]
 conv=>rhs;rw [e]
 rw [View.cntL_app,View.cntL_cons];omega
theorem set_mid {α : Type} (a : List α) (x y : α) (b : List α) : (a ++ x :: b).set a.length y = a ++ y :: b:=by
 rw [List.set_append_right _ _ (Nat.le_refl _),Nat.sub_self];rfl
theorem bloop {v : View} {t : Tree} {R : Type} {B : (List Int × Int × Int × Int × List Node → Option R) → List Int × Int × Int × Int × List Node → Option R} (hc : v.Kids.length ≤ 100000) (p : Int) (k : List Int × Int × Int × List Node → Option R)
  (hB : ∀ again i x,v.Kids[i]? = some x → i < v.Kids.length → B again (kidIds (v.Kids.take i) (t.Next + 1),(i : Int),t.Root,t.Next + 1 + View.cntL (v.Kids.take i),t.Nodes ++ Node.mk t.Next p v.Kind v.Key v.Attrs v.Actions [] :: bL (v.Kids.take i) t.Next (t.Next + 1)) =
   again (kidIds (v.Kids.take i) (t.Next + 1) ++ [t.Next + 1 + View.cntL (v.Kids.take i)],((i + 1 : Nat) : Int),t.Root,t.Next + 1 + View.cntL (v.Kids.take i) + x.cnt,(t.Nodes ++ Node.mk t.Next p v.Kind v.Key v.Attrs v.Actions [] :: bL (v.Kids.take i) t.Next (t.Next + 1)) ++ bN x t.Next (t.Next + 1 + View.cntL (v.Kids.take i))))
  (he : ∀ again s,B again (s.1,(v.Kids.length : Int),s.2) = k s) :
  loopK B N0 (([] : List Int),0,t.Root,t.Next + 1,t.Nodes ++ [Node.mk t.Next p v.Kind v.Key v.Attrs v.Actions []]) = k (kidIds v.Kids (t.Next + 1),t.Root,t.Next + v.cnt,t.Nodes ++ Node.mk t.Next p v.Kind v.Key v.Attrs v.Actions [] :: bL v.Kids t.Next (t.Next + 1)):=by
 refine loopI (L:=v.Kids) (fun (s : List Int × Int × Int × List Node) i=>(s.1,(i : Int),s.2)) (fun i s=>s = (kidIds (v.Kids.take i) (t.Next + 1),t.Root,t.Next + 1 + View.cntL (v.Kids.take i),t.Nodes ++ Node.mk t.Next p v.Kind v.Key v.Attrs v.Actions [] :: bL (v.Kids.take i) t.Next (t.Next + 1))) (fun o=>o = k (kidIds v.Kids (t.Next + 1),t.Root,t.Next + v.cnt,t.Nodes ++ Node.mk t.Next p v.Kind v.Key v.Attrs v.Actions [] :: bL v.Kids t.Next (t.Next + 1))) (by unfold N0;omega) ?_ ?_ (([] : List Int),t.Root,t.Next + 1,t.Nodes ++ [Node.mk t.Next p v.Kind v.Key v.Attrs v.Actions []]) ?_
 ·intro again s i x hx hi hs
  subst hs
  refine .inr ⟨_,rfl,(hB again i x hx hi).trans ?_⟩
  rw [take_suc hx,kidIds_app,kidIds_cons,kidIds_nil,bL_app,bL_cons,bL_nil,View.cntL_app,View.cntL_cons,View.cntL_nil]
  have e : t.Next + 1 + ((View.cntL (v.Kids.take i) + (x.cnt + 0) : Nat) : Int) = t.Next + 1 + (View.cntL (v.Kids.take i)) + x.cnt:=by omega
  rw [e]
  simp only [List.append_nil,List.append_assoc,List.cons_append]
 ·intro again s hs
  rw [List.take_length] at hs
  have e : t.Next + 1 + (View.cntL v.Kids : Int) = t.Next + v.cnt:=by rw [View.cnt_eq];omega
  rw [he,hs,e]
 ·have e : t.Next + 1 + ((0 : Nat) : Int) = t.Next + 1:=by omega
  rw [List.take_zero,kidIds_nil,bL_nil,View.cntL_nil,e]
theorem rbuild_ok : ∀ (n : Nat) (v : View) (p : Int) (t : Tree),v.dp ≤ n → t.Nodes.length + v.cnt ≤ 100000 → 0 ≤ t.Next → t.Next + v.cnt ≤ 2000000000000 →
  r14_build n v p t = some ⟨t.Root,t.Next + v.cnt,t.Nodes ++ bN v p t.Next⟩
 | 0,v,p,t,h,_,_,_=>by rw [View.dp_eq] at h;omega
 | n + 1,v,p,t,h,hc,h0,h1=>by
  rw [View.dp_eq] at h
  have hcv:=View.cnt_eq v
  have hk:=cntL_len v.Kids
  show r14_build_B (r14_build n) v p t = _
  unfold r14_build_B
  rw [appO_eq (by simp;omega),bind_some',jn_eq,wrap_id (by omega) (by omega)]
  rw [bloop (v:=v) (t:=t) (by omega) p (fun (s2 : (List Int) × Int × Int × (List Node))=>(ixO s2.2.2.2.length (t.Nodes.length : Int)).bind fun x4=>(s2.2.2.2[x4]?).bind fun x5=>some (Tree.mk s2.2.1 s2.2.2.1 (List.set s2.2.2.2 x4 (Node.mk x5.ID x5.Parent x5.Kind x5.Key x5.Attrs x5.Actions s2.1)))) ?_ ?_]
  ·simp only
   rw [ixO_nat (by simp),bind_some',List.getElem?_append_right (Nat.le_refl _),Nat.sub_self,List.getElem?_cons_zero,bind_some',set_mid,bN_eq]
  ·intro again i x hx hi
   have ht:=cnt_split hx
   have hd:=View.dpL_mem (List.mem_of_getElem? hx)
   have hxc:=cnt_pos x
   unfold r14_build_L1
   simp only [nz_lt hi,selT',idxO_nat,hx,bindN]
   rw [appO_eq (by rw [kidIds_len];simp;omega),bind_some',rbuild_ok n x t.Next _ (by omega) (by show (_ ++ _ :: _).length + _ ≤ _;rw [List.length_append,List.length_cons,bL_len];omega) (by show 0 ≤ t.Next + 1 + _;omega) (by show t.Next + 1 + _ + _ ≤ _;omega),bind_some',wrap_suc hi (by unfold N0;omega)]
  ·intro again s
   unfold r14_build_L1
   simp only [nz_ge (Nat.le_refl _),selF']
def trB (v : View) (next : Int) : Tree:=⟨next,next + v.cnt,bN v 0 next⟩
end Go.Proofs.YtfoigppmcelgfaaGreatDoor
end
section
namespace Go.Proofs.YtfoigppmcelgfaaGreatDoor
open Go Go.E2
def run (x : Int) : Nat → List Int
 | 0=>[]
 | n + 1=>x :: run (x + 1) n
theorem run_app (x : Int) : ∀ (m n : Nat),run x (m + n) = run x m ++ run (x + m) n
 | 0,n=>by rw [Nat.zero_add];show run x n = [] ++ run (x + ((0 : Nat) : Int)) n;rw [List.nil_append];congr 1;omega
 | m + 1,n=>by
  rw [show m + 1 + n = (m + n) + 1 by omega]
  show x :: run (x + 1) (m + n) = x :: (run (x + 1) m ++ run (x + ((m + 1 : Nat) : Int)) n)
  rw [run_app (x + 1) m n]
  congr 3
  omega
theorem run_get : ∀ (n i : Nat) (x : Int),i < n → (run x n)[i]? = some (x + i)
 | 0,i,x,h=>by omega
 | n + 1,0,x,h=>by show some x = some (x + ((0 : Nat) : Int));congr 1;omega
 | n + 1,i + 1,x,h=>by
  show (run (x + 1) n)[i]? = _
  rw [run_get n i (x + 1) (by omega)]
  congr 1;omega
theorem run_mem : ∀ (n : Nat) (x y : Int),y ∈ run x n → x ≤ y ∧ y < x + n
 | 0,_,_,h=>by cases h
 | n + 1,x,y,h=>by
  rcases List.mem_cons.1 h with e | e
  ·subst e;omega
  ·have:=run_mem n (x + 1) y e;omega
theorem run_nodup : ∀ (n : Nat) (x : Int),(run x n).Nodup
 | 0,_=>List.nodup_nil
 | n + 1,x=>List.nodup_cons.2 ⟨fun h=>by have:=run_mem n (x + 1) x h;omega,run_nodup n (x + 1)⟩
theorem run_len : ∀ (n : Nat) (x : Int),(run x n).length = n
 | 0,_=>rfl
 | n + 1,x=>by show (run (x + 1) n).length + 1 = n + 1;rw [run_len n]
theorem ids_app (l m : List Node) : ids (l ++ m) = ids l ++ ids m:=List.map_append
theorem bL_ids' : ∀ (l : List View) (p x : Int),(∀ v ∈ l,∀ p x,ids (bN v p x) = run x v.cnt) → ids (bL l p x) = run x (View.cntL l)
 | [],p,x,_=>by rw [bL_nil,View.cntL_nil];rfl
 | v :: r,p,x,h=>by rw [bL_cons,ids_app,View.cntL_cons,h v (by simp),bL_ids' r _ _ (fun w hw=>h w (by simp [hw])),← run_app]
theorem bN_ids : ∀ (v : View) (p x : Int),ids (bN v p x) = run x v.cnt:=View.all (fun v ih p x=>by
 rw [bN_eq,View.cnt_eq,show 1 + View.cntL v.Kids = View.cntL v.Kids + 1 by omega]
 show x :: ids (bL v.Kids x (x + 1)) = x :: run (x + 1) _
 rw [bL_ids' _ _ _ ih])
theorem bL_ids (l : List View) (p x : Int) : ids (bL l p x) = run x (View.cntL l):=bL_ids' l p x (fun v _=>bN_ids v)
theorem kidIds_run : ∀ (l : List View) (x y : Int),y ∈ kidIds l x → x ≤ y ∧ y < x + View.cntL l
 | [],_,_,h=>by rw [kidIds_nil] at h;cases h
 | v :: r,x,y,h=>by
  rw [kidIds_cons] at h
  rw [View.cntL_cons]
  have:=cnt_pos v
  rcases List.mem_cons.1 h with e | e
  ·subst e;omega
  ·have:=kidIds_run r _ y e;omega
theorem kidIds_nodup : ∀ (l : List View) (x : Int),(kidIds l x).Nodup
 | [],_=>by rw [kidIds_nil];exact List.nodup_nil
 | v :: r,x=>by
  rw [kidIds_cons]
  have:=cnt_pos v
  exact List.nodup_cons.2 ⟨fun h=>by have:=kidIds_run r _ x h;omega,kidIds_nodup r _⟩
theorem kid_in : ∀ (l : List View) (p x k : Int),k ∈ kidIds l x → ∃ m ∈ bL l p x,m.ID = k ∧ m.Parent = p
 | [],_,_,_,h=>by rw [kidIds_nil] at h;cases h
 | v :: r,p,x,k,h=>by
  rw [kidIds_cons] at h
  rw [bL_cons]
  rcases List.mem_cons.1 h with e | e
  ·subst e
   exact ⟨_,List.mem_append_left _ (by rw [bN_eq];exact List.mem_cons_self),rfl,rfl⟩
  ·obtain ⟨m,h1,h2⟩:=kid_in r p _ k e
   exact ⟨m,List.mem_append_right _ h1,h2⟩
theorem bL_kid' : ∀ (l : List View) (p x : Int),(∀ v ∈ l,∀ p x,∀ n ∈ bN v p x,(∀ k ∈ n.Kids,∃ m ∈ bN v p x,m.ID = k ∧ m.Parent = n.ID) ∧ n.Kids.Nodup) → ∀ n ∈ bL l p x,(∀ k ∈ n.Kids,∃ m ∈ bL l p x,m.ID = k ∧ m.Parent = n.ID) ∧ n.Kids.Nodup
 | [],p,x,_,n,hn=>by rw [bL_nil] at hn;cases hn
 | v :: r,p,x,h,n,hn=>by
  rw [bL_cons] at hn ⊢
  rcases List.mem_append.1 hn with e | e
  ·obtain ⟨h1,h2⟩:=h v (by simp) p x n e
   exact ⟨fun k hk=>by obtain ⟨m,m1,m2⟩:=h1 k hk;exact ⟨m,List.mem_append_left _ m1,m2⟩,h2⟩
  ·obtain ⟨h1,h2⟩:=bL_kid' r p _ (fun w hw=>h w (by simp [hw])) n e
   exact ⟨fun k hk=>by obtain ⟨m,m1,m2⟩:=h1 k hk;exact ⟨m,List.mem_append_right _ m1,m2⟩,h2⟩
theorem bN_kid : ∀ (v : View) (p x : Int),∀ n ∈ bN v p x,(∀ k ∈ n.Kids,∃ m ∈ bN v p x,m.ID = k ∧ m.Parent = n.ID) ∧ n.Kids.Nodup:=View.all (fun v ih p x n hn=>by
 rw [bN_eq] at hn ⊢
 rcases List.mem_cons.1 hn with e | e
 ·subst e
  exact ⟨fun k hk=>by obtain ⟨m,m1,m2⟩:=kid_in _ x _ k hk;exact ⟨m,List.mem_cons_of_mem _ m1,m2⟩,kidIds_nodup _ _⟩
 ·obtain ⟨h1,h2⟩:=bL_kid' v.Kids x (x + 1) ih n e
  exact ⟨fun k hk=>by obtain ⟨m,m1,m2⟩:=h1 k hk;exact ⟨m,List.mem_cons_of_mem _ m1,m2⟩,h2⟩)
theorem bL_tot' : ∀ (l : List View) (p x : Int),(∀ v ∈ l,∀ p x,((bN v p x).flatMap (·.Kids)).length + 1 = v.cnt) → ((bL l p x).flatMap (·.Kids)).length + l.length = View.cntL l
 | [],p,x,_=>by rw [bL_nil,View.cntL_nil];rfl
 | v :: r,p,x,h=>by
  have h1:=h v (by simp) p x
  have h2:=bL_tot' r p (x + v.cnt) (fun w hw=>h w (by simp [hw]))
  rw [bL_cons,List.flatMap_append,List.length_append,List.length_cons,View.cntL_cons]
  omega
theorem bN_tot : ∀ (v : View) (p x : Int),((bN v p x).flatMap (·.Kids)).length + 1 = v.cnt:=View.all (fun v ih p x=>by
 have h:=bL_tot' v.Kids x (x + 1) ih
 rw [bN_eq,List.flatMap_cons,List.length_append,View.cnt_eq]
 show (kidIds v.Kids (x + 1)).length + _ + 1 = _
 rw [kidIds_len];omega)
theorem bL_par' : ∀ (l : List View) (p x : Int),(∀ v ∈ l,∀ p x,∀ n ∈ bN v p x,n.Parent = p ∨ x ≤ n.Parent) → ∀ n ∈ bL l p x,n.Parent = p ∨ x ≤ n.Parent
 | [],p,x,_,n,hn=>by rw [bL_nil] at hn;cases hn
 | v :: r,p,x,h,n,hn=>by
  rw [bL_cons] at hn
  rcases List.mem_append.1 hn with e | e
  ·exact h v (by simp) p x n e
  ·rcases bL_par' r p _ (fun w hw=>h w (by simp [hw])) n e with h1 | h1
   ·exact .inl h1
   ·exact .inr (by omega)
theorem bN_par : ∀ (v : View) (p x : Int),∀ n ∈ bN v p x,n.Parent = p ∨ x ≤ n.Parent:=View.all (fun v ih p x n hn=>by
 rw [bN_eq] at hn
 rcases List.mem_cons.1 hn with e | e
 ·subst e;exact .inl rfl
 ·rcases bL_par' v.Kids x (x + 1) ih n e with h1 | h1
  ·exact .inr (by omega)
  ·exact .inr (by omega))
theorem bL_dsc {L : List Node} {g : Int → View} : ∀ (l : List View) (p x : Int),(∀ v ∈ l,∀ p x,(∀ n ∈ bN v p x,n ∈ L) → g x = v) → (∀ n ∈ bL l p x,n ∈ L) → (kidIds l x).map g = l
 | [],p,x,_,_=>by rw [kidIds_nil];rfl
 | v :: r,p,x,h,hL=>by
  rw [bL_cons] at hL
  rw [kidIds_cons,List.map_cons,h v (by simp) p x (fun n hn=>hL n (List.mem_append_left _ hn)),bL_dsc r p _ (fun w hw=>h w (by simp [hw])) (fun n hn=>hL n (List.mem_append_right _ hn))]
theorem bN_dsc {L : List Node} (hu : (ids L).Nodup) : ∀ (f : Nat) (v : View) (p x : Int),v.dp ≤ f → (∀ n ∈ bN v p x,n ∈ L) → dsc L f x = v
 | 0,v,_,_,h,_=>by rw [View.dp_eq] at h;omega
 | f + 1,v,p,x,h,hL=>by
  rw [View.dp_eq] at h
  rw [bN_eq] at hL
  have h0:=hL _ List.mem_cons_self
  have hx : nd L x = Node.mk x p v.Kind v.Key v.Attrs v.Actions (kidIds v.Kids (x + 1)):=nd_look (look_of hu h0)
  unfold dsc
  rw [hx]
  have:=bL_dsc (g:=dsc L f) v.Kids x (x + 1) (fun w hw p y hy=>bN_dsc hu f w p y (by have:=View.dpL_mem hw;omega) hy) (fun n hn=>hL n (List.mem_cons_of_mem _ hn))
  rw [this]
  cases v;rfl
theorem bL_pre {L : List Node} {g : Int → List Int} : ∀ (l : List View) (p x : Int),(∀ v ∈ l,∀ p x,(∀ n ∈ bN v p x,n ∈ L) → g x = run x v.cnt) → (∀ n ∈ bL l p x,n ∈ L) → (kidIds l x).flatMap g = run x (View.cntL l)
 | [],p,x,_,_=>by rw [kidIds_nil,View.cntL_nil];rfl
 | v :: r,p,x,h,hL=>by
  rw [bL_cons] at hL
  rw [kidIds_cons,List.flatMap_cons,h v (by simp) p x (fun n hn=>hL n (List.mem_append_left _ hn)),bL_pre r p _ (fun w hw=>h w (by simp [hw])) (fun n hn=>hL n (List.mem_append_right _ hn)),View.cntL_cons,run_app]
theorem bN_pre {L : List Node} (hu : (ids L).Nodup) : ∀ (f : Nat) (v : View) (p x : Int),v.dp ≤ f → (∀ n ∈ bN v p x,n ∈ L) → pre L f x = run x v.cnt
 | 0,v,_,_,h,_=>by rw [View.dp_eq] at h;omega
 | f + 1,v,p,x,h,hL=>by
  rw [View.dp_eq] at h
  rw [bN_eq] at hL
  have h0:=hL _ List.mem_cons_self
  have hx : nd L x = Node.mk x p v.Kind v.Key v.Attrs v.Actions (kidIds v.Kids (x + 1)):=nd_look (look_of hu h0)
  unfold pre
  rw [hx]
  have:=bL_pre (g:=pre L f) v.Kids x (x + 1) (fun w hw p y hy=>bN_pre hu f w p y (by have:=View.dpL_mem hw;omega) hy) (fun n hn=>hL n (List.mem_cons_of_mem _ hn))
  show x :: (kidIds v.Kids (x + 1)).flatMap (pre L f) = _
  rw [this,View.cnt_eq,show 1 + View.cntL v.Kids = View.cntL v.Kids + 1 by omega]
  rfl
theorem dp_cnt : ∀ v : View,v.dp ≤ v.cnt:=View.all (fun v ih=>by
 rw [View.dp_eq,View.cnt_eq]
 have : View.dpL v.Kids ≤ View.cntL v.Kids:=View.dpL_le (fun k hk=>by have:=ih k hk;have:=cntL_mem hk;omega)
 omega)
theorem built_shape {v : View} (hv : errV v = 0) {next : Int} (h1 : 1 ≤ next) (h2 : next ≤ 1099511627376) : Shp (trB v next) ∧ dscT (trB v next) = v:=by
 have vv:=valid_all hv
 have hc:=vv.cnt
 have hcp:=cnt_pos v
 have hlen : (trB v next).Nodes.length = v.cnt:=bN_len v 0 next
 have hids : ids (trB v next).Nodes = run next v.cnt:=bN_ids v 0 next
 have hu : (ids (trB v next).Nodes).Nodup:=by rw [hids];exact run_nodup _ _
 have hdp:=dp_cnt v
 have hall : ∀ n ∈ bN v 0 next,n ∈ (trB v next).Nodes:=fun n hn=>hn
 have hat : ∀ (i : Nat) (n : Node),(trB v next).Nodes[i]? = some n → i < v.cnt ∧ n.ID = next + i:=by
  intro i n hn
  have hi:=(List.getElem?_eq_some_iff.1 hn).1
  rw [hlen] at hi
  have e : (ids (trB v next).Nodes)[i]? = some n.ID:=by unfold ids;rw [List.getElem?_map,hn];rfl
  rw [hids,run_get _ _ _ hi] at e
  exact ⟨hi,(Option.some.inj e).symm⟩
 have hroot : bN v 0 next = Node.mk next 0 v.Kind v.Key v.Attrs v.Actions (kidIds v.Kids (next + 1)) :: bL v.Kids next (next + 1):=bN_eq v 0 next
 refine ⟨⟨⟨by show 2 ≤ next + v.cnt;omega,by show next + v.cnt ≤ _;omega,by rw [hlen];exact hcp,by rw [hlen];exact hc⟩,?_,?_,?_,?_,?_,?_,?_⟩,?_⟩
 ·intro i n hi hn
  obtain ⟨h3,h4⟩:=hat i n hn
  refine ⟨?_,by show n.ID < next + v.cnt;omega⟩
  unfold pvid
  by_cases c : i = 0
  ·rw [if_pos c];omega
  ·rw [if_neg c]
   have hm : (trB v next).Nodes[i - 1]? = some (trB v next).Nodes[i - 1]:=List.getElem?_eq_getElem (by omega)
   rw [hm]
   have:=(hat _ _ hm).2
   show (trB v next).Nodes[i - 1].ID < n.ID
   omega
 ·intro n hn
  show n.Parent = 0 ↔ n.ID = next
  have hn' : n ∈ bN v 0 next:=hn
  rw [hroot] at hn'
  rcases List.mem_cons.1 hn' with e | e
  ·subst e;exact ⟨fun _=>rfl,fun _=>rfl⟩
  ·have hp:=bL_par' v.Kids next (next + 1) (fun w _=>bN_par w) n e
   have hid : n.ID ∈ ids (bL v.Kids next (next + 1)):=List.mem_map.2 ⟨n,e,rfl⟩
   rw [bL_ids] at hid
   have:=run_mem _ _ _ hid
   constructor
   ·intro e0;omega
   ·intro e0;omega
 ·exact ⟨_,look_of hu (by show _ ∈ bN v 0 next;rw [hroot];exact List.mem_cons_self)⟩
 ·intro n hn k hk
  obtain ⟨m,m1,m2,m3⟩:=(bN_kid v 0 next n hn).1 k hk
  exact ⟨m,by rw [← m2];exact look_of hu m1,m3⟩
 ·intro n hn
  exact (bN_kid v 0 next n hn).2
 ·rw [hlen];exact bN_tot v 0 next
 ·show (pre (trB v next).Nodes (trB v next).Nodes.length next).length = _
  rw [bN_pre hu _ v 0 next (by rw [hlen];exact hdp) hall,run_len,hlen]
 ·exact bN_dsc hu _ v 0 next (by rw [hlen];exact hdp) hall
end Go.Proofs.YtfoigppmcelgfaaGreatDoor
end
section
namespace Go.Proofs.YtfoigppmcelgfaaGreatDoor
open Go Go.E2
def TK (t : Tree) : Prop:=∀ n ∈ t.Nodes,n.Kids.length ≤ 1000000 ∧ n.Key.size < N0
theorem TK.nd {t : Tree} (h : TK t) (x : Int) : (nd t.Nodes x).Key.size < N0:=by
 unfold Go.Proofs.YtfoigppmcelgfaaGreatDoor.nd
 cases e : look t.Nodes x with
 | none=>exact zN_NB.2.2.2
 | some n=>exact (h n (look_mem e).1).2
theorem TK.sm {t : Tree} (h : TK t) : ∀ (f : Nat) (x : Int),(dsc t.Nodes f x).sm
 | 0,x=>zV_sm
 | f + 1,x=>by
  rw [View.sm_eq]
  refine ⟨h.nd x,fun a ha=>?_⟩
  obtain ⟨k,_,rfl⟩:=List.mem_map.1 ha
  exact TK.sm h f k
end Go.Proofs.YtfoigppmcelgfaaGreatDoor
end
section
namespace Go.Proofs.YtfoigppmcelgfaaGreatDoor
open Go Go.E2
end Go.Proofs.YtfoigppmcelgfaaGreatDoor
end
section
set_option maxRecDepth 100000
namespace Go.Proofs.YtfoigppmcelgfaaGreatDoor
open Go Go.E2
structure Gt (t : Tree) : Prop where
 shp : Shp t
 err : errV (dscT t) = 0
section
variable {t : Tree}
theorem Gt.len (G : Gt t) : t.Nodes.length ≤ 400:=G.shp.lim.2.2.2
theorem Gt.node (G : Gt t) {d : Nat} {x : Int} (h : Reach t.Nodes t.Root d x) : AttrsOk (nd t.Nodes x).Attrs ∧ ActsOk (nd t.Nodes x).Actions ∧ (nd t.Nodes x).Attrs.length ≤ 24 ∧ (nd t.Nodes x).Actions.length ≤ 24:=by
 have h1:=(good_node G.shp G.err h).2
 exact ⟨h1.attsOk,h1.actsOk,h1.atts,h1.acts⟩
theorem Gt.tb (G : Gt t) : TB t:=fun n hn=>by
 obtain ⟨d,hd⟩:=whole_reach G.shp.to0 G.shp.whole (show n.ID ∈ ids t.Nodes from List.mem_map_of_mem hn)
 have e : nd t.Nodes n.ID = n:=nd_look (look_of G.shp.to0.uniq hn)
 have h1:=G.node hd
 have h2:=kids100 G.shp G.err hd
 have h3:=key24 G.shp G.err hd
 rw [e] at h1 h2 h3
 exact ⟨h1.1,h1.2.1,by omega,by unfold N0;omega⟩
theorem Gt.examine (G : Gt t) : vw_examine t = some (mpo t.Nodes,dscT t,0):=by
 rcases examine_ok G.tb with ⟨h,_⟩ | ⟨_,h,_⟩
 ·exact absurd G.shp h
 ·rw [h,G.err]
theorem Gt.valid (G : Gt t) : vw_valid t = some (mpo t.Nodes,true):=by
 unfold vw_valid
 rw [G.examine,bind_some'];rfl
theorem Gt.check (G : Gt t) : vw_Check t = some 0:=by
 unfold vw_Check
 rw [G.examine,bind_some']
theorem Gt.order (G : Gt t) : vw_Order t = some (pre t.Nodes t.Nodes.length t.Root):=by
 unfold vw_Order
 rw [G.valid,bind_some',Bool.not_true,sel_false,preorder_ok G.shp.to0 G.len t.Nodes.length N0 0 t.Root Reach.z (by omega) (by have:=G.len;unfold N0;omega)];rfl
end
theorem built_Gt {v : View} (hv : errV v = 0) : Gt (trB v 1):=by
 obtain ⟨hS,hD⟩:=built_shape hv (next:=1) (by omega) (by omega)
 exact ⟨hS,by rw [hD];exact hv⟩
theorem rBuild_ok {v : View} (hs : v.sm) (hv : errV v = 0) : r14_Build v 1 = some (trB v 1,0):=by
 unfold r14_Build
 rw [rValidate_ok hs,bind_some',show (errV v != 0) = false by simp [hv],sel_false,show ((decide ((1 : Int) < 1)) || (decide ((1 : Int) > 1099511627376))) = false by decide,sel_false]
 have vv:=valid_all hv
 have hdp:=vv.dp
 have hcnt:=vv.cnt
 rw [rbuild_ok N0 v 0 ⟨1,1,[]⟩ (by unfold N0;omega) (by show 0 + _ ≤ _;omega) (by show (0 : Int) ≤ 1;omega) (by show (1 : Int) + _ ≤ _;omega)]
 rfl
theorem check_suc (n : Nat) (v : AValue) (d p : Int) : ex_check (n + 1) v d p = ex_check_B (ex_check n) v d p:=rfl
theorem copy_one : ex_copyType N0 (AType.mk 1 ([] : (List AType))) = some (AType.mk 1 ([] : (List AType))):=by kernel_rfl
theorem chE_int {n : Int} (h1 : -1099511627776 ≤ n) (h2 : n ≤ 1099511627776) : chE ⟨1,n,ByteArray.empty,[]⟩ = 0:=by
 have e1 : ex_fields ⟨1,n,ByteArray.empty,[]⟩ = some true:=by kernel_rfl
 have e2 : ex_within n = some true:=by unfold ex_within;rw [decide_eq_true (show n ≥ -1099511627776 from h1),decide_eq_true h2];rfl
 have e3 : unicode_utf8_ValidString ByteArray.empty = some true:=by kernel_rfl
 have key : ∀ self,ex_check_B self ⟨1,n,ByteArray.empty,[]⟩ 0 0 = some (AType.mk 1 ([] : (List AType)),0,1):=fun self=>by
  unfold ex_check_B
  simp only [e1,e2,e3]
  rfl
 have h : ex_Check ⟨1,n,ByteArray.empty,[]⟩ = some 0:=by
  unfold ex_Check ex_TypeOf
  have hk : ex_check N0 ⟨1,n,ByteArray.empty,[]⟩ 0 0 = some (AType.mk 1 ([] : (List AType)),0,1):=(check_suc 9223372036854775807 _ 0 0).trans (key _)
  rw [hk,bindN,show ((AType.mk 1 ([] : (List AType)),(0 : Int),(1 : Int)).2.1 != 0) = false from rfl,selF',copy_one,bindN,bindN]
 unfold chE;rw [h]
end Go.Proofs.YtfoigppmcelgfaaGreatDoor
end
section
set_option maxRecDepth 100000
namespace Go.Proofs.YtfoigppmcelgfaaGreatDoor
open Go Go.E2
theorem awake37_true : l37_awake = some true:=by kernel_rfl
end Go.Proofs.YtfoigppmcelgfaaGreatDoor
end
section
set_option maxRecDepth 100000
namespace Go.Proofs.YtfoigppmcelgfaaGreatDoor
open Go Go.E2
def slV (A : List Attr) : View:=View.mk 1 ByteArray.empty ([] : (List Attr)) ([] : (List Action)) ([(View.mk 13 ByteArray.empty A ([] : (List Action)) ([] : (List View)))])
def slT (A : List Attr) : Tree:=⟨1,3,[⟨1,0,1,ByteArray.empty,[],[],[2]⟩,⟨2,1,13,ByteArray.empty,A,[],[]⟩]⟩
theorem slT_eq (A : List Attr) : trB (slV A) 1 = slT A:=by kernel_rfl
theorem key_empty : keyE ByteArray.empty = true:=by kernel_rfl
theorem slV_err {A : List Attr} (h : atF none A = 0) (hl : A.length ≤ 24) : errV (slV A) = 0:=by
 have h1 : valF 16 (View.mk 13 ByteArray.empty A ([] : (List Action)) ([] : (List View))) 2 1 = (0,2):=by
  show valB _ _ _ _ = _
  unfold valB
  have : ¬ (A.length > 24):=by omega
  simp [key_empty,h,this,acF,dupF,kdF]
 show (valB _ _ _ _).1 = 0
 unfold valB slV
 simp only
 rw [if_neg (by omega),if_neg (by omega),if_neg (by omega),if_neg (by rw [key_empty];simp),if_neg (by simp),if_neg (by simp [atF]),if_neg (by simp [acF]),if_neg (by simp [dupF])]
 show (kdF _ _ _).1 = 0
 rw [kdF_cons]
 show (if (valF 16 _ 2 1).1 ≠ 0 then valF 16 _ 2 1 else kdF _ [] (valF 16 _ 2 1).2).1 = 0
 rw [h1]
 simp [kdF]
theorem slV_sm (A : List Attr) : (slV A).sm:=by
 rw [View.sm_eq]
 refine ⟨by show (0 : Nat) < N0;unfold N0;omega,fun a ha=>?_⟩
 have : a = View.mk 13 ByteArray.empty A ([] : (List Action)) ([] : (List View)):=by simpa [slV] using ha
 subst this
 rw [View.sm_eq]
 exact ⟨by show (0 : Nat) < N0;unfold N0;omega,fun a ha=>by simp at ha⟩
def slS : List Styled:=(l37_styles (slT [])).getD default
def atI (s : Str) (n : Int) : Attr:=Attr.mk s (AValue.mk 1 n ByteArray.empty ([] : (List AValue)))
def sLeast : Str:=ByteArray.mk #[108,101,97,115,116]
def sMost : Str:=ByteArray.mk #[109,111,115,116]
def sValue : Str:=ByteArray.mk #[118,97,108,117,101]
def sDis : Str:=ByteArray.mk #[100,105,115,97,98,108,101,100]
def slA (v l m : Int) : List Attr:=[atI sLeast l,atI sMost m,atI sValue v]
def slD (v l m : Int) : List Attr:=Attr.mk sDis (AValue.mk 2 1 ByteArray.empty ([] : (List AValue))) :: slA v l m
theorem nm1 : namE sLeast = true ∧ namE sMost = true ∧ namE sValue = true ∧ namE sDis = true:=⟨by kernel_rfl,by kernel_rfl,by kernel_rfl,by kernel_rfl⟩
theorem nl1 : nle (some sLeast) sMost = false ∧ nle (some sMost) sValue = false ∧ nle (some sDis) sLeast = false:=⟨by kernel_rfl,by kernel_rfl,by kernel_rfl⟩
theorem dis_ok : chE (AValue.mk 2 1 ByteArray.empty ([] : (List AValue))) = 0:=by kernel_rfl
theorem slA_err {v l m : Int} (hv : -1000 ≤ v ∧ v ≤ 1000) (hl : -1000 ≤ l ∧ l ≤ 1000) (hm : -1000 ≤ m ∧ m ≤ 1000) (p : Option Attr) (hp : nle (p.map (·.Name)) sLeast = false) : atF p (slA v l m) = 0:=by
 have c1 : chE (atI sLeast l).Value = 0:=chE_int (by omega) (by omega)
 have c2 : chE (atI sMost m).Value = 0:=chE_int (by omega) (by omega)
 have c3 : chE (atI sValue v).Value = 0:=chE_int (by omega) (by omega)
 unfold slA
 rw [atF_cons,atF_cons,atF_cons,c1,c2,c3]
 rw [if_neg (by rw [show (atI sLeast l).Name = sLeast from rfl,nm1.1];simp),if_neg (by rw [show (atI sLeast l).Name = sLeast from rfl,hp];simp),if_neg (by simp)]
 rw [if_neg (by rw [show (atI sMost m).Name = sMost from rfl,nm1.2.1];simp),if_neg (by rw [show ((some (atI sLeast l)).map (·.Name)) = some sLeast from rfl,show (atI sMost m).Name = sMost from rfl,nl1.1];simp),if_neg (by simp)]
 rw [if_neg (by rw [show (atI sValue v).Name = sValue from rfl,nm1.2.2.1];simp),if_neg (by rw [show ((some (atI sMost m)).map (·.Name)) = some sMost from rfl,show (atI sValue v).Name = sValue from rfl,nl1.2.1];simp),if_neg (by simp)]
 rfl
theorem slD_err {v l m : Int} (hv : -1000 ≤ v ∧ v ≤ 1000) (hl : -1000 ≤ l ∧ l ≤ 1000) (hm : -1000 ≤ m ∧ m ≤ 1000) : atF none (slD v l m) = 0:=by
 unfold slD
 rw [atF_cons,if_neg (by rw [nm1.2.2.2];simp),if_neg (by simp [nle]),if_neg (by rw [dis_ok];simp)]
 exact slA_err hv hl hm _ nl1.2.2
section
variable {A : List Attr}
theorem sl_styles (A : List Attr) : l37_styles (slT A) = some slS:=by kernel_rfl
theorem sl_path (G : Gt (slT A)) : vw_Path (slT A) 2 = some [1,2]:=by
 unfold vw_Path
 rw [G.valid]
 kernel_rfl
theorem sl_order (G : Gt (slT A)) : vw_Order (slT A) = some [1,2]:=by
 unfold vw_Order
 rw [G.valid]
 kernel_rfl
end
theorem sl_act {v l m : Int} (G : Gt (slT (slA v l m))) : ac_Actions (slT (slA v l m)) slS [] [] 2 = (ac_Actions_1 4 (decide (v < m)) 2).bind fun x18=>(ac_Actions_1 8 (decide (v > l)) x18).bind fun x20=>some x20:=by
 have hs : widgetry_layout_Shown (slT (slA v l m)) slS = some [1,2]:=by
  unfold widgetry_layout_Shown
  rw [G.check]
  kernel_rfl
 have hd : dp_Disabled (slT (slA v l m)) 2 = some false:=by
  unfold dp_Disabled dp_steps
  rw [sl_path G]
  kernel_rfl
 have hh : ht_Shown (slT (slA v l m)) slS 2 = some true:=by
  unfold ht_Shown
  rw [hs]
  kernel_rfl
 have hc : fo_Scope (slT (slA v l m)) slS = some 1:=by
  unfold fo_Scope fo_look
  rw [sl_order G,hs]
  kernel_rfl
 have hk : fo_Candidates (slT (slA v l m)) slS = some [2]:=by
  unfold fo_Candidates fo_look
  rw [sl_order G,hs]
  kernel_rfl
 unfold ac_Actions
 rw [hd,hh,sl_path G,hc,hk]
 show _ = _
 kernel_rfl
theorem sl_dis {v l m : Int} (G : Gt (slT (slD v l m))) : ac_Actions (slT (slD v l m)) slS [] [] 2 = some 0:=by
 have hd : dp_Disabled (slT (slD v l m)) 2 = some true:=by
  unfold dp_Disabled dp_steps
  rw [sl_path G]
  kernel_rfl
 unfold ac_Actions
 rw [hd]
 show _ = _
 kernel_rfl
theorem sliders_true (v l m : Int) (d : Bool) (hv : (Lit.int .i8 v).wf = true) (hl : (Lit.int .i8 l).wf = true) (hm : (Lit.int .i8 m).wf = true) : l37_AccessibleSliders v l m d = some true:=by
 have h0 : ∀ {x : Int},(Lit.int .i8 x).wf = true → -128 ≤ x ∧ x < 128:=fun {x} h=>by
  simp only [Lit.wf,Bool.and_eq_true,decide_eq_true_eq] at h
  have : IntKind.i8.max = 127:=by decide
  have : IntKind.i8.min = -128:=by decide
  omega
 obtain ⟨v0,v1⟩:=h0 hv
 obtain ⟨l0,l1⟩:=h0 hl
 obtain ⟨m0,m1⟩:=h0 hm
 have wr : ∀ x : Int,-128 ≤ x → x < 128 → IntKind.i64.wrap x = x:=fun x a b=>by rw [IntKind.wrap_i64];omega
 unfold l37_AccessibleSliders
 rw [wr v v0 v1,wr l l0 l1,wr m m0 m1,jnN]
 have A1 : bAnd .i64 (bOr .i64 (bOr .i64 2 4) 8) 4 = 4:=by kernel_rfl
 have A2 : bAnd .i64 (bOr .i64 (bOr .i64 2 4) 8) 8 = 8:=by kernel_rfl
 have A3 : bAnd .i64 (bOr .i64 (bOr .i64 2 4) 8) 2 = 2:=by kernel_rfl
 have A4 : bAnd .i64 (bOr .i64 (bOr .i64 2 4) 8) 1 = 0:=by kernel_rfl
 have B1 : bAnd .i64 (bOr .i64 2 4) 4 = 4:=by kernel_rfl
 have B2 : bAnd .i64 (bOr .i64 2 4) 8 = 0:=by kernel_rfl
 have B3 : bAnd .i64 (bOr .i64 2 4) 2 = 2:=by kernel_rfl
 have B4 : bAnd .i64 (bOr .i64 2 4) 1 = 0:=by kernel_rfl
 have C1 : bAnd .i64 (bOr .i64 2 8) 4 = 0:=by kernel_rfl
 have C2 : bAnd .i64 (bOr .i64 2 8) 8 = 8:=by kernel_rfl
 have C3 : bAnd .i64 (bOr .i64 2 8) 2 = 2:=by kernel_rfl
 have C4 : bAnd .i64 (bOr .i64 2 8) 1 = 0:=by kernel_rfl
 have D1 : bAnd .i64 2 4 = 0:=by kernel_rfl
 have D2 : bAnd .i64 2 8 = 0:=by kernel_rfl
 have D3 : bAnd .i64 2 2 = 2:=by kernel_rfl
 have D4 : bAnd .i64 2 1 = 0:=by kernel_rfl
 cases d with
 | true =>
  have hb:=slD_err (v:=v) (l:=l) (m:=m) (by omega) (by omega) (by omega)
  have he:=slV_err hb (by show (4 : Nat) ≤ 24;omega)
  have G : Gt (slT (slD v l m)):=by rw [← slT_eq];exact built_Gt he
  have hB:=rBuild_ok (slV_sm (slD v l m)) he
  rw [slT_eq] at hB
  rw [selT',appO_eq (by simp),bindN]
  change ((r14_Build (slV (slD v l m)) 1).bind _) = _
  rw [hB,bindN,sl_styles,bindN,sl_dis G,bindN,selT',awake37_true]
  rfl
 | false =>
  have hb:=slA_err (v:=v) (l:=l) (m:=m) (by omega) (by omega) (by omega) none rfl
  have he:=slV_err hb (by show (3 : Nat) ≤ 24;omega)
  have G : Gt (slT (slA v l m)):=by rw [← slT_eq];exact built_Gt he
  have hB:=rBuild_ok (slV_sm (slA v l m)) he
  rw [slT_eq] at hB
  rw [selF']
  change ((r14_Build (slV (slA v l m)) 1).bind _) = _
  rw [hB,bindN,sl_styles,bindN,sl_act G,awake37_true]
  unfold ac_Actions_1
  by_cases p : v < m <;> by_cases q : v > l
  ·rw [decide_eq_true p,decide_eq_true q];simp [A1,A2,A3,A4]
  ·rw [decide_eq_true p,decide_eq_false q];simp [B1,B2,B3,B4]
  ·rw [decide_eq_false p,decide_eq_true q];simp [C1,C2,C3,C4]
  ·rw [decide_eq_false p,decide_eq_false q];simp [D1,D2,D3,D4]
end Go.Proofs.YtfoigppmcelgfaaGreatDoor
end

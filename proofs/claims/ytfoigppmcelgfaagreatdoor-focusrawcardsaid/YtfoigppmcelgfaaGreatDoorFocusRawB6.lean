/-
  Part 6 of the texts under the law FocusRaw: the calculus, the plain functions, their walks, plain facts.
-/
import Derived.Test.YtfoigppmcelgfaaGreatDoorFocusRawB5
import Derived.KernelRfl
section
namespace Go.Proofs.YtfoigppmcelgfaaGreatDoor
open Go Go.E2
theorem tG {n:Nat} {a0:AValue} {a1:Int} (ih:∀ (v:AValue) (d m:Int) (t:AType) (m':Int),0≤m→m≤1000→cv n v d m=some (t,0,m')→m'=m+v.wt∧m'≤1000) (hlen:a0.L.length≤100)
  {k12:(List AType)×Int→Option (AType×Int×Int)} (hk:∀ l m t m',k12 (l,m)=some (t,0,m')→m'=m) :
  ∀ (f i:Nat) (l:List AType) (m:Int) (t:AType) (m':Int),i≤a0.L.length→0≤m→m≤1000→loopK (bN (cv n) a0 a1 k12) f (l,(i:Int),m)=some (t,0,m')→m'=m+AValue.wtL (a0.L.drop i)∧m'≤1000
 | 0,_,_,_,_,_,_,_,_,h=>by cases h
 | f+1,i,l,m,t,m',hi,h0,h1,h=>by
  have IH:=tG (a1:=a1) ih hlen hk f
  change bN (cv n) a0 a1 k12 (loopK _ f) (l,(i:Int),m)=some (t,0,m') at h
  generalize loopK (bN (cv n) a0 a1 k12) f=again at h IH
  unfold bN at h
  simp only at h
  by_cases c:i<a0.L.length
  ·have hx:a0.L[i]? = some a0.L[i]:=List.getElem?_eq_getElem c
   rw [bK c,sel_true,aD,hx,bind_some'] at h
   obtain ⟨r,r1,r2⟩:=bind_some h
   obtain ⟨t1,e1,m1⟩:=r
   simp only at r2
   by_cases he:e1=0
   ·subst he
    rw [show ((0:Int) != 0)=false from rfl,sel_false] at r2
    obtain ⟨l2,l3,r3⟩:=bind_some r2
    obtain ⟨g1,g2⟩:=ih _ _ _ _ _ h0 h1 r1
    have hw:=a0.L[i].wt_pos
    rw [aH c (by unfold N0;omega)] at r3
    obtain ⟨g3,g4⟩:=IH (i+1) l2 m1 t m' (by omega) (by omega) g2 r3
    rw [bB hx,AValue.wtL_cons]
    exact ⟨by omega,g4⟩
   ·rw [show (e1 != 0)=true by simp [he],sel_true] at r2
    exact absurd (congrArg (fun x=>x.2.1) (Option.some.inj r2)) he
  ·rw [bI (by omega),sel_false] at h
   have:=hk _ _ _ _ h
   rw [List.drop_eq_nil_of_le (by omega),AValue.wtL_nil]
   omega
theorem wp:∀ (n:Nat) (v:AValue) (d m:Int) (t:AType) (m':Int),0≤m→m≤1000→cv n v d m=some (t,0,m')→m'=m+v.wt∧m'≤1000
 | 0,_,_,_,_,_,_,_,h=>by cases h
 | n+1,v,d,m,t,m',h0,h1,h=>by
  change cV (cv n) v d m=some (t,0,m') at h
  unfold cV at h
  rw [bY (x:=m+1) (by omega) (by omega),nf,bind_some',sx] at h
  cases c1:((v.Kind==4)&&(decide (d≥16))) with
  | true=>rw [c1,sel_true] at h;cases h
  | false =>
   rw [c1,sel_false] at h
   cases c2:badF v with
   | true=>rw [c2] at h;cases h
   | false =>
    rw [c2,Bool.not_false,Bool.not_true,sel_false] at h
    cases c3:badR v with
    | true=>rw [c3,sel_true] at h;cases h
    | false =>
     rw [c3,sel_false] at h
     cases c4:(((decide ((v.S.size:Int)>2000))||(decide ((v.L.length:Int)>100)))||(decide (m+1>1000))) with
     | true=>rw [c4,sel_true] at h;cases h
     | false =>
      rw [c4,sel_false] at h
      simp only [Bool.or_eq_false_iff,decide_eq_false_iff_not] at c4
      obtain ⟨b,_,hb⟩:=bind_some h
      cases b with
      | false=>cases hb
      | true =>
       rw [Bool.not_true,sel_false] at hb
       have hw:=v.wt_eq
       by_cases c5:v.Kind=4
       ·rw [show (v.Kind != 4)=false by simp [c5],sel_false,jn_eq] at hb
        obtain ⟨e1,e2⟩:=tG (wp n) (a1:=d) (by omega) (k12:=_) (fun l q t q' hq=>by
         obtain ⟨x,_,x2⟩:=bind_some hq
         cases hx:x.2 with
         | false=>rw [hx] at x2;cases x2
         | true =>
          rw [hx] at x2
          have:=Option.some.inj x2
          exact (congrArg (fun y:AType×Int×Int=>y.2.2) this).symm) N0 0 [] (m+1) t m' (Nat.zero_le _) (by omega) (by omega) hb
        rw [List.drop_zero] at e1
        exact ⟨by omega,e2⟩
       ·rw [show (v.Kind != 4)=true by simp [c5],sel_true] at hb
        have e:m'=m+1:=(congrArg (fun y:AType×Int×Int=>y.2.2) (Option.some.inj hb)).symm
        have hL:v.L=[]:=by
         unfold badF at c2
         simp only [Bool.or_eq_false_iff,Bool.and_eq_false_iff] at c2
         rcases c2.2 with c | c
         ·have:¬ ((v.L.length:Int)>0):=by simpa using c
          exact List.length_eq_zero_iff.1 (by omega)
         ·exact absurd (by simpa using c) c5
        rw [hL,AValue.wtL_nil] at hw
        exact ⟨by omega,by omega⟩
theorem yi {v:AValue} (h:chE v=0):v.wt≤1000:=by
 have h1:=xQ v
 rw [h] at h1
 unfold fF at h1
 obtain ⟨x,x1,x2⟩:=bind_some h1
 unfold iL at x1
 obtain ⟨y,y1,y2⟩:=bind_some x1
 obtain ⟨t,e,m⟩:=y
 by_cases he:e=0
 ·subst he
  have:=wp N0 v 0 0 t m (by omega) (by omega) y1
  omega
 ·simp only at y2
  rw [show (e != 0)=true by simp [he],sel_true] at y2
  have:=Option.some.inj y2
  rw [← this] at x2
  exact absurd (Option.some.inj x2) he
theorem pz:∀ {l:List Attr} {p:Option Attr},atF p l=0→∀ a∈l,chE a.Value=0
 | [],_,_,a,ha=>by cases ha
 | x :: r,p,h,a,ha=>by
  rw [pA] at h
  by_cases c1:namE x.Name=false
  ·rw [if_pos c1] at h;cases h
  rw [if_neg c1] at h
  by_cases c2:nle (p.map (·.Name)) x.Name=true
  ·rw [if_pos c2] at h;cases h
  rw [if_neg c2] at h
  by_cases c3:chE x.Value=0
  ·rw [if_neg (by simp [c3])] at h
   rcases List.mem_cons.1 ha with e | e
   ·subst e;exact c3
   ·exact pz h a e
  ·rw [if_pos c3] at h;exact absurd h c3
theorem r5:∀ {l:List AValue},vaF l=0→∀ a∈l,chE a=0
 | [],_,a,ha=>by cases ha
 | x :: r,h,a,ha=>by
  rw [oA] at h
  by_cases c3:chE x=0
  ·rw [if_neg (by simp [c3])] at h
   rcases List.mem_cons.1 ha with e | e
   ·subst e;exact c3
   ·exact r5 h a e
  ·rw [if_pos c3] at h;exact absurd h c3
theorem tL:∀ {l:List Action} {p:Option Action},acF p l=0→∀ a∈l,a.Args.length≤100∧a.Instance.size≤400∧∀ x∈a.Args,chE x=0
 | [],_,_,a,ha=>by cases ha
 | x :: r,p,h,a,ha=>by
  rw [pB] at h
  by_cases c1:(namE x.Event&&namE x.Handler)=false
  ·rw [if_pos c1] at h;cases h
  rw [if_neg c1] at h
  by_cases c2:nle (p.map (·.Event)) x.Event=true
  ·rw [if_pos c2] at h;cases h
  rw [if_neg c2] at h
  by_cases c4:x.Instance.size>400∨x.Args.length>100
  ·rw [if_pos c4] at h;cases h
  rw [if_neg c4] at h
  by_cases c3:vaF x.Args=0
  ·rw [if_neg (by simp [c3])] at h
   rcases List.mem_cons.1 ha with e | e
   ·subst e;exact ⟨by omega,by omega,r5 c3⟩
   ·exact tL h a e
  ·rw [if_pos c3] at h;exact absurd h c3
theorem xY {n:Nat}:∀ {l:List AValue},(∀ x∈l,x.wt≤n)→AValue.wtL l≤n*l.length
 | [],_=>by rw [AValue.wtL_nil];omega
 | x :: r,h=>by
  rw [AValue.wtL_cons,List.length_cons,Nat.mul_succ]
  have:=h x (by simp)
  have:=xY (l:=r) (fun y hy=>h y (by simp [hy]))
  omega
theorem OkV.attsOk {v:View} (h:OkV v):AttrsOk v.Attrs:=⟨by have:=h.atts;omega,fun a ha=>by have:=yi (pz h.atf a ha);omega⟩
theorem OkV.actsOk {v:View} (h:OkV v):ActsOk v.Actions:=⟨by have:=h.acts;omega,fun a ha=>by
 obtain ⟨h1,_,h2⟩:=tL h.acf a ha
 have:=xY (n:=1000) (fun x hx=>yi (h2 x hx))
 have:1000*a.Args.length≤1000*100:=Nat.mul_le_mul_left _ h1
 omega⟩
mutual
def View.vh:View→Prop
 | ⟨k,key,las,cs,kids⟩=>OkV ⟨k,key,las,cs,kids⟩∧View.vhL kids
def View.vhL:List View→Prop
 | []=>True
 | x :: r=>View.vh x∧View.vhL r
end
mutual
def View.cnt:View→Nat
 | ⟨_,_,_,_,kids⟩=>1+View.cntL kids
def View.cntL:List View→Nat
 | []=>0
 | x :: r=>View.cnt x+View.cntL r
end
structure Vld (v:View):Prop where
 vh:v.vh
 dp:v.dp≤16
 cnt:v.cnt≤400
 bd:v.bd
 sm:v.sm
end Go.Proofs.YtfoigppmcelgfaaGreatDoor
end
section
namespace Go.Proofs.YtfoigppmcelgfaaGreatDoor
open Go Go.E2
theorem View.ind {P:View→Prop} (h:∀ v:View,(∀ k∈v.Kids,P k)→P v):∀ (n:Nat) (v:View),v.dp≤n→P v
 | 0,v,hd=>by rw [View.dp_eq] at hd;omega
 | n+1,v,hd=>by
  rw [View.dp_eq] at hd
  exact h v (fun k hk=>View.ind h n k (by have:=View.dpL_mem hk;omega))
theorem View.all {P:View→Prop} (h:∀ v:View,(∀ k∈v.Kids,P k)→P v) (v:View):P v:=View.ind h _ v (Nat.le_refl _)
end Go.Proofs.YtfoigppmcelgfaaGreatDoor
end
section
namespace Go.Proofs.YtfoigppmcelgfaaGreatDoor
open Go Go.E2
end Go.Proofs.YtfoigppmcelgfaaGreatDoor
end
section
namespace Go.Proofs.YtfoigppmcelgfaaGreatDoor
open Go Go.E2
def TK (t:Tree):Prop:=∀ n∈t.Nodes,n.Kids.length≤1000000∧n.Key.size<N0
theorem TK.nd {t:Tree} (h:TK t) (x:Int):(nd t.Nodes x).Key.size<N0:=by
 unfold Go.Proofs.YtfoigppmcelgfaaGreatDoor.nd
 cases e:look t.Nodes x with
 | none=>exact zy.2.2.2
 | some n=>exact (h n (dj e).1).2
theorem TK.sm {t:Tree} (h:TK t):∀ (f:Nat) (x:Int),(dsc t.Nodes f x).sm
 | 0,x=>zx
 | f+1,x=>by
  rw [View.sm_eq]
  refine ⟨h.nd x,fun a ha=>?_⟩
  obtain ⟨k,_,rfl⟩:=List.mem_map.1 ha
  exact TK.sm h f k
theorem ya {t:Tree} (h:TK t):(Shp t∧errV (dscT t)=0∧eM t=some (mpo t.Nodes,true)∧dw t=some 0)∨((∃ m,eM t=some (m,false))∧∃ e,e≠0∧dw t=some e):=by
 obtain ⟨m,b,g1,g2,g3⟩:=sO t (fun n hn=>(h n hn).1)
 obtain ⟨c,s1,s2⟩:=uN t
 have e:c=b:=by
  cases b <;> cases c
  ·rfl
  ·exact absurd (g2.2 (s2.1 rfl)) (by simp)
  ·exact absurd (s2.2 (g2.1 rfl)) (by simp)
  ·rfl
 subst e
 cases c with
 | false =>
  refine .inr ⟨⟨[],?_⟩,12,by omega,by unfold dw;rw [s1];rfl⟩
  unfold eM dE
  rw [g1];rfl
 | true =>
  have S:=g2.1 rfl
  have hl:=S.lim.2.2.2
  have hx:dE t=some (mpo t.Nodes,dscT t,errV (dscT t)):=by
   unfold dE
   rw [g1,bind_some',g3 rfl,Bool.not_true,sel_false,jF S.to0 hl t.Nodes.length N0 0 t.Root Reach.z (by omega) (by unfold N0;omega),bind_some']
   show (eg (dscT t)).bind _=_
   rw [nu (show (dscT t).sm from h.sm _ _)];rfl
  have hc:dw t=some (errV (dscT t)):=by
   unfold dw
   rw [s1,bind_some',Bool.not_true,sel_false,lV S.to0 hl t.Nodes.length N0 0 t.Root Reach.z (by omega) (by unfold N0;omega),bind_some']
   show (dv (dscT t)).bind _=_
   rw [p9 (show (dscT t).sm from h.sm _ _)];rfl
  by_cases he:errV (dscT t)=0
  ·refine .inl ⟨S,he,?_,by rw [hc,he]⟩
   unfold eM
   rw [hx,bind_some'];simp [he]
  ·refine .inr ⟨⟨mpo t.Nodes,?_⟩,_,he,hc⟩
   unfold eM
   rw [hx,bind_some'];simp [he]
end Go.Proofs.YtfoigppmcelgfaaGreatDoor
end
section
namespace Go.Proofs.YtfoigppmcelgfaaGreatDoor
open Go Go.E2
theorem yP {t:Tree} (h:TB t) (hl:t.Nodes.length<N0) (x:Int):(∃ n,look t.Nodes x=some n∧jk t x=some (n,true))∨(look t.Nodes x=none∧jk t x=some (zN,false)):=by
 unfold jk
 rw [jn_eq]
 refine loopI (L:=t.Nodes) (fun (_:Unit) i=>(i:Int)) (fun i _=>look t.Nodes x=look (t.Nodes.drop i) x) (fun r=>(∃ n,look t.Nodes x=some n∧r=some (n,true))∨(look t.Nodes x=none∧r=some (zN,false))) hl ?_ ?_ () rfl
 ·intro again _ i n hn hi hp
  rw [bB hn] at hp
  have hp:look t.Nodes x=if x=n.ID then some n else look (t.Nodes.drop (i+1)) x:=hp
  unfold jI
  rw [bK hi,sel_true,aD,hn,bind_some',aH hi hl]
  by_cases c:x=n.ID
  ·rw [if_pos c] at hp
   obtain ⟨h1,h2,h3,_⟩:=h n (List.mem_of_getElem? hn)
   rw [show (n.ID != x)=false by simp [c],sel_false,wi h1 h2,bind_some']
   unfold ch
   rw [ck (by simp;omega),bind_some']
   exact .inl (.inl ⟨n,hp,by cases n;rfl⟩)
  ·rw [if_neg c] at hp
   rw [show (n.ID != x)=true by rw [bne_iff_ne];exact fun e=>c e.symm,sel_true]
   exact .inr ⟨(),hp,rfl⟩
 ·intro again _ hp
  rw [List.drop_length] at hp
  unfold jI
  rw [bI (Nat.le_refl _),sel_false]
  exact .inr ⟨hp,rfl⟩
end Go.Proofs.YtfoigppmcelgfaaGreatDoor
end
section
set_option maxRecDepth 100000
namespace Go.Proofs.YtfoigppmcelgfaaGreatDoor
open Go Go.E2
structure Gt (t:Tree):Prop where
 shp:Shp t
 err:errV (dscT t)=0
section
variable {t:Tree}
theorem Gt.len (G:Gt t):t.Nodes.length≤400:=G.shp.lim.2.2.2
theorem Gt.node (G:Gt t) {d:Nat} {x:Int} (h:Reach t.Nodes t.Root d x):AttrsOk (nd t.Nodes x).Attrs∧ActsOk (nd t.Nodes x).Actions∧(nd t.Nodes x).Attrs.length≤24∧(nd t.Nodes x).Actions.length≤24:=by
 have h1:=(li G.shp G.err h).2
 exact ⟨h1.attsOk,h1.actsOk,h1.atts,h1.acts⟩
theorem Gt.tb (G:Gt t):TB t:=fun n hn=>by
 obtain ⟨d,hd⟩:=qO G.shp.to0 G.shp.whole (show n.ID∈ids t.Nodes from List.mem_map_of_mem hn)
 have e:nd t.Nodes n.ID=n:=eZ (ru G.shp.to0.uniq hn)
 have h1:=G.node hd
 have h2:=yH G.shp G.err hd
 have h3:=zW G.shp G.err hd
 rw [e] at h1 h2 h3
 exact ⟨h1.1,h1.2.1,by omega,by unfold N0;omega⟩
theorem Gt.find (G:Gt t) {d:Nat} {x:Int} (h:Reach t.Nodes t.Root d x):jk t x=some (nd t.Nodes x,true):=by
 obtain ⟨n,n1,_⟩:=jo G.shp.to0 h
 rcases yP G.tb (by have:=G.len;unfold N0;omega) x with ⟨m,m1,m2⟩ | ⟨m1,_⟩
 ·rw [m2,eZ m1]
 ·rw [m1] at n1;cases n1
theorem Gt.examine (G:Gt t):dE t=some (mpo t.Nodes,dscT t,0):=by
 obtain ⟨m,b,g1,g2,g3⟩:=sO t (fun n hn=>(G.tb n hn).2.2.1)
 obtain rfl:b=true:=g2.2 G.shp
 have hl:=G.len
 unfold dE
 rw [g1,bind_some',g3 rfl,Bool.not_true,sel_false,jF G.shp.to0 hl t.Nodes.length N0 0 t.Root Reach.z (by omega) (by unfold N0;omega),bind_some']
 show (eg (dscT t)).bind _=_
 rw [nu (zm G.tb),G.err];rfl
theorem Gt.valid (G:Gt t):eM t=some (mpo t.Nodes,true):=by
 unfold eM
 rw [G.examine,bind_some'];rfl
theorem Gt.check (G:Gt t):kK t=some 0:=by
 unfold kK
 rw [G.examine,bind_some']
theorem Gt.order (G:Gt t):iS t=some (pre t.Nodes t.Nodes.length t.Root):=by
 unfold iS
 rw [G.valid,bind_some',Bool.not_true,sel_false,km G.shp.to0 G.len t.Nodes.length N0 0 t.Root Reach.z (by omega) (by have:=G.len;unfold N0;omega)];rfl
theorem Gt.nid (G:Gt t) {d:Nat} {x:Int} (h:Reach t.Nodes t.Root d x):(nd t.Nodes x).ID=x:=by
 obtain ⟨n,n1,n2,n3⟩:=jo G.shp.to0 h
 rw [eZ n1,n3]
end
theorem wu (n:Nat) (v:AValue) (d p:Int):cv (n+1) v d p=cV (cv n) v d p:=rfl
end Go.Proofs.YtfoigppmcelgfaaGreatDoor
end
section
namespace Go.Proofs.YtfoigppmcelgfaaGreatDoor
open Go Go.E2
def attrP (name:Str):List Attr→Option AValue
 | []=>none
 | a :: r=>if a.Name.toList==name.toList then some a.Value else attrP name r
def attrR (o:Option AValue):AValue×Bool:=match o with
 | some v=>(v,true)
 | none=>(⟨0,0,ByteArray.empty,[]⟩,false)
theorem sA {l:List Attr} (name:Str) (h:l.length≤1000):jQ l name=some (attrR (attrP name l)):=by
 unfold jQ
 rw [jn_eq]
 have key:∀ (m i:Nat),l.length - i<m→i≤l.length→loopK (fm l name fun _=>some (⟨0,0,ByteArray.empty,[]⟩,false)) m (i:Int)=some (attrR (attrP name (l.drop i))):=by
  intro m
  induction m with
  | zero=>intro i h;omega
  | succ m ih =>
   intro i hm hi
   show fm l name _ (loopK _ m) (i:Int)=_
   generalize loopK (fm l name fun _=>some (⟨0,0,ByteArray.empty,[]⟩,false)) m=again at ih ⊢
   unfold fm
   by_cases hl:i<l.length
   ·rw [bK hl,sel_true,rB hl,bind_some',List.drop_eq_getElem_cons hl]
    unfold attrP
    cases hn:(l[i].Name.toList==name.toList) with
    | true=>rw [sel_true,bind_some',if_pos rfl];rfl
    | false =>
     rw [sel_false,aH hl (by unfold N0;omega),if_neg (by simp)]
     exact ih (i+1) (by omega) (by omega)
   ·rw [bI (by omega),sel_false,List.drop_eq_nil_of_le (by omega)];rfl
 exact key N0 0 (by unfold N0;omega) (by omega)
theorem r6 {l:List Attr} (name:Str) (h:AttrsOk l):lw l name=some (attrR (attrP name l)):=by
 obtain ⟨h,hv⟩:=h
 unfold lw
 rw [jn_eq]
 have key:∀ (m i:Nat),l.length - i<m→i≤l.length→loopK (f9 l name fun _=>some (⟨0,0,ByteArray.empty,[]⟩,false)) m (i:Int)=some (attrR (attrP name (l.drop i))):=by
  intro m
  induction m with
  | zero=>intro i h;omega
  | succ m ih =>
   intro i hm hi
   show f9 l name _ (loopK _ m) (i:Int)=_
   generalize loopK (f9 l name fun _=>some (⟨0,0,ByteArray.empty,[]⟩,false)) m=again at ih ⊢
   unfold f9
   by_cases hl:i<l.length
   ·rw [bK hl,sel_true,rB hl,bind_some',List.drop_eq_getElem_cons hl]
    unfold attrP
    cases hn:(l[i].Name.toList==name.toList) with
    | true=>rw [sel_true,tF (hv _ (List.getElem_mem hl)),bind_some',if_pos rfl];rfl
    | false =>
     rw [sel_false,aH hl (by unfold N0;omega),if_neg (by simp)]
     exact ih (i+1) (by omega) (by omega)
   ·rw [bI (by omega),sel_false,List.drop_eq_nil_of_le (by omega)];rfl
 exact key N0 0 (by unfold N0;omega) (by omega)
end Go.Proofs.YtfoigppmcelgfaaGreatDoor
end
section
namespace Go.Proofs.YtfoigppmcelgfaaGreatDoor
open Go Go.E2
section
variable {L:List Node} {root:Int}
theorem sB (S:Shp0 L root):∀ (f g d:Nat) (x:Int),Reach L root d x→L.length≤f+d→L.length≤g+d→pre L f x=pre L g x
 | 0,_,d,x,h,h1,_=>by have:=br S h;omega
 | _+1,0,d,x,h,_,h2=>by have:=br S h;omega
 | f+1,g+1,d,x,h,h1,h2=>by
  unfold pre
  rw [List.flatMap_def,List.flatMap_def]
  have:(nd L x).Kids.map (pre L f)=(nd L x).Kids.map (pre L g):=List.map_congr_left fun k hk=>sB S f g (d+1) k (.s h hk) (by omega) (by omega)
  rw [this]
theorem wT (d:Nat) (x:Int):x∈pth L d x:=by
 cases d with
 | zero=>exact List.mem_singleton.2 rfl
 | succ d=>unfold pth;simp
theorem u6:∀ (i d:Nat) (y s:Int),s∈pth L d (upn L i y)→s∈pth L (d+i) y
 | 0,d,y,s,h=>h
 | i+1,d,y,s,h=>by
  have:=u6 i d (up L y) s h
  show s∈pth L ((d+i)+1) y
  unfold pth
  exact List.mem_append_left _ this
theorem u7 (S:Shp0 L root) {f d e:Nat} {x y s:Int} (hx:Reach L root d x) (hy:y∈pre L f x) (he:Reach L root e y) (h:s∈pth L d x):s∈pth L e y:=by
 obtain ⟨i,i1,i2⟩:=ix S f hx hy
 have:=df S he i1
 subst this
 exact u6 i d y s (by rw [i2];exact h)
theorem yy (S:Shp0 L root) {d:Nat} {x k s:Int} (hk:k∈(nd L x).Kids):s∈pth L (d+1) k↔s∈pth L d x∨s=k:=by
 have e:pth L (d+1) k=pth L d (up L k)++[k]:=rfl
 rw [e,(qt S hk).1,List.mem_append,List.mem_singleton]
theorem wV {f d:Nat} {x:Int} (S:Shp0 L root) (h:Reach L root d x) (hf:L.length≤f+d):x∈pre L f x:=by
 cases f with
 | zero=>have:=br S h;omega
 | succ f=>unfold pre;simp
theorem sT {α:Type} {q:Int→Prop} [DecidablePred q] (B:List α):∀ {K:List Int},K.Pairwise (fun a b=>¬ (q a∧q b))→K.flatMap (fun k=>if q k then B else [])=if ∃ k∈K,q k then B else []
 | [],_=>by simp
 | k :: t,h=>by
  rw [List.pairwise_cons] at h
  rw [List.flatMap_cons,sT B h.2]
  by_cases hk:q k
  ·have h2:¬ ∃ j∈t,q j:=fun ⟨j,j1,j2⟩=>h.1 j j1 ⟨hk,j2⟩
   rw [if_pos hk,if_neg h2,if_pos ⟨k,by simp,hk⟩,List.append_nil]
  ·rw [if_neg hk,List.nil_append]
   by_cases h2:∃ j∈t,q j
   ·obtain ⟨j,j1,j2⟩:=h2
    rw [if_pos ⟨j,j1,j2⟩,if_pos ⟨j,by simp [j1],j2⟩]
   ·rw [if_neg h2,if_neg]
    rintro ⟨j,j1,j2⟩
    rcases List.mem_cons.1 j1 with e | e
    ·subst e;exact hk j2
    ·exact h2 ⟨j,e,j2⟩
theorem block (S:Shp0 L root) {p:Int→Bool} {s:Int} {es:Nat} (hs:Reach L root es s) (hp:∀ y e,Reach L root e y→(p y=true↔s∈pth L e y)) :
  ∀ (f d:Nat) (x:Int),Reach L root d x→L.length≤f+d→(pre L f x).filter p=if s∈pth L d x then pre L f x else if s∈pre L f x then pre L (L.length - es) s else []
 | 0,d,x,h,h1=>by have:=br S h;omega
 | f+1,d,x,h,h1=>by
  by_cases hc:s∈pth L d x
  ·rw [if_pos hc]
   refine List.filter_eq_self.2 fun y hy=>?_
   obtain ⟨i,i1,_⟩:=ix S _ h hy
   exact (hp y _ i1).2 (u7 S h hy i1 hc)
  ·rw [if_neg hc]
   have hpx:¬ (p x=true):=fun e=>hc ((hp x d h).1 e)
   have hsx:s≠x:=fun e=>hc (by rw [e];exact wT d x)
   have hnod:=jt S (f+1) h
   have e1:pre L (f+1) x=x :: (nd L x).Kids.flatMap (pre L f):=rfl
   rw [e1] at hnod ⊢
   rw [List.filter_cons,if_neg hpx,List.filter_flatMap]
   have hpw:=(List.pairwise_flatMap.1 (List.nodup_cons.1 hnod).2).2
   have e2:(nd L x).Kids.flatMap (fun k=>(pre L f k).filter p)=(nd L x).Kids.flatMap (fun k=>if s∈pre L f k then pre L (L.length - es) s else []):=by
    rw [List.flatMap_def,List.flatMap_def]
    refine congrArg List.flatten (List.map_congr_left fun k hk=>?_)
    have hrk:=Reach.s h hk
    rw [block S hs hp f (d+1) k hrk (by omega)]
    have hk2:=yy (d:=d) (s:=s) S hk
    by_cases hsk:s=k
    ·have hse:es=d+1:=df S hs (hsk ▸ hrk)
     rw [if_pos (hk2.2 (.inr hsk)),hsk,if_pos (wV S hrk (by omega))]
     exact sB S _ _ (d+1) k hrk (by omega) (by omega)
    ·rw [if_neg (fun e=>(hk2.1 e).elim hc hsk)]
   rw [e2,sT _ (hpw.imp fun {a b} hab ⟨h1,h2⟩=>hab s h1 s h2 rfl)]
   by_cases h2:∃ k∈(nd L x).Kids,s∈pre L f k
   ·rw [if_pos h2,if_pos]
    obtain ⟨k,k1,k2⟩:=h2
    exact List.mem_cons_of_mem _ (List.mem_flatMap.2 ⟨k,k1,k2⟩)
   ·rw [if_neg h2,if_neg]
    intro e
    rcases List.mem_cons.1 e with e | e
    ·exact hsx e
    ·obtain ⟨k,k1,k2⟩:=List.mem_flatMap.1 e
     exact h2 ⟨k,k1,k2⟩
theorem under (S:Shp0 L root) {p:Int→Bool} {s:Int} {es:Nat} (hs:Reach L root es s) (hp:∀ y e,Reach L root e y→(p y=true↔s∈pth L e y)) (hin:s∈pre L L.length root) :
  (pre L L.length root).filter p=pre L (L.length - es) s:=by
 rw [block S hs hp L.length 0 root .z (by omega)]
 by_cases h:s∈pth L 0 root
 ·have:s=root:=by simpa [pth] using h
  subst this
  have:es=0:=df S hs .z
  subst this
  rw [if_pos h];rfl
 ·rw [if_neg h,if_pos hin]
end
end Go.Proofs.YtfoigppmcelgfaaGreatDoor
end
section
set_option maxRecDepth 100000
namespace Go.Proofs.YtfoigppmcelgfaaGreatDoor
open Go Go.E2
theorem f8 {V:Type} (L:List (Int×V)) (k:Int) (z:V):mgetO L k z=some ((cG L k).getD z,(cG L k).isSome):=by
 unfold mgetO
 cases cG L k <;> rfl
theorem jy {V:Type} (L:List (Int×V)) (k:Int) (v:V) (y:Int):cG (msetL L k v) y=if y=k then some v else cG L y:=by
 rw [m8]
 by_cases h:y=k
 ·rw [if_pos h,show (y==k)=true by simpa using h]
 ·rw [if_neg h,show (y==k)=false by simpa using h]
def sty:List Styled→Int→Nat→Int
 | [],_=>fun _=>0
 | s :: r,x=>if s.ID=x then s.Style else sty r x
def spo (st:List Styled):List (Int×(Nat→Int)):=st.map fun s=>(s.ID,s.Style)
theorem uI:∀ (st:List Styled) (x:Int),(cG (spo st) x).getD (fun _=>0)=sty st x
 | [],_=>rfl
 | s :: r,x=>by
  show (match x==s.ID with | true=>some s.Style | false=>cG (spo r) x).getD _=if s.ID=x then s.Style else sty r x
  by_cases h:s.ID=x
  ·rw [if_pos h,show (x==s.ID)=true by simpa using h.symm];rfl
  ·rw [if_neg h,show (x==s.ID)=false by simpa using fun e=>h e.symm]
   exact uI r x
theorem uH:∀ (st:List Styled) (s:Styled),s.ID∉st.map (·.ID)→msetL (spo st) s.ID s.Style=spo (st++[s])
 | [],_,_=>rfl
 | m :: r,s,h=>by
  have h1:¬ s.ID=m.ID:=fun e=>h (by simp [e])
  have h2:s.ID∉r.map (·.ID):=fun e=>h (List.mem_cons_of_mem _ e)
  show (match s.ID==m.ID with | true=>(s.ID,s.Style) :: spo r | false=>(m.ID,m.Style) :: msetL (spo r) s.ID s.Style)=(m.ID,m.Style) :: spo (r++[s])
  rw [show (s.ID==m.ID)=false by simp [h1],uH r s h2]
def flA (nm:Str) (n:Node):Bool:=((attrR (attrP nm n.Attrs)).1.Kind==2)&&((attrR (attrP nm n.Attrs)).1.N==1)
theorem vH {n:Node} (nm:Str) (h:AttrsOk n.Attrs):gr n.Attrs nm=some (flA nm n):=by
 unfold gr
 rw [r6 nm h];rfl
theorem vI {n:Node} (nm:Str) (h:AttrsOk n.Attrs):dJ n.Attrs nm=some (flA nm n):=by
 unfold dJ
 rw [sA nm h.1];rfl
def hidA:Str:=ByteArray.mk #[104,105,100,100,101,110]
def hid (t:Tree) (st:List Styled) (x:Int):Bool:=(sty st x 5==0)||flA hidA (nd t.Nodes x)
def leafK (k:Int):Bool:=((((k==2)||(k==4))||(k==7))||(k==9))||((k==5)||(k==13))
def shF (t:Tree) (st:List Styled):Nat→Int→List Int
 | 0,_=>[]
 | f+1,x=>x :: (if leafK (nd t.Nodes x).Kind=true then [] else (nd t.Nodes x).Kids.flatMap fun k=>if hid t st k=true then [] else shF t st f k)
theorem mx {α β:Type} {g h:α→List β}:∀ {K:List α},(∀ k∈K,(g k).Sublist (h k))→(K.flatMap g).Sublist (K.flatMap h)
 | [],_=>List.Sublist.refl _
 | k :: t,hk=>by
  rw [List.flatMap_cons,List.flatMap_cons]
  exact (hk k (by simp)).append (mx fun j hj=>hk j (by simp [hj]))
theorem oC (t:Tree) (st:List Styled):∀ (f:Nat) (x:Int),(shF t st f x).Sublist (pre t.Nodes f x)
 | 0,_=>List.Sublist.refl _
 | f+1,x=>by
  unfold shF pre
  refine List.Sublist.cons_cons x ?_
  split
  ·exact List.nil_sublist _
  ·refine mx fun k _=>?_
   split
   ·exact List.nil_sublist _
   ·exact oC t st f k
section
variable {t:Tree}
structure SC (t:Tree) (st:List Styled) (S:layout_scene):Prop where
 nodes:S.nodes=mpo t.Nodes
 style:S.style=spo st
theorem AttrsOk.zN:AttrsOk zN.Attrs:=⟨by decide,fun a ha=>by cases ha⟩
theorem ie (G:Gt t) (x:Int):AttrsOk (nd t.Nodes x).Attrs:=by
 cases hl:look t.Nodes x with
 | none=>rw [kn hl];exact AttrsOk.zN
 | some n =>
  have:=G.tb n (dj hl).1
  rw [eZ hl];exact this.1
theorem qx (G:Gt t) {st:List Styled} {S:layout_scene} (h:SC t st S) (x:Int):a5 S x=some (hid t st x,S):=by
 unfold a5 hid
 rw [f8,bindN,h.style,uI,h.nodes,fD]
 cases hc:sty st x 5==0 with
 | true=>rfl
 | false =>
  show ((some (nd t.Nodes x,(look t.Nodes x).isSome)).bind fun x2=>(gr x2.1.Attrs hidA).bind fun x3=>some (false||x3,S):Option (Bool×layout_scene))=_
  rw [bindN,vH hidA (ie G x),bindN]
def KB (m:List (Int×Nat)) (n:Nat):Prop:=∀ y,(cG m y).getD 0≤n
theorem KB.set {m:List (Int×Nat)} {n k:Nat} (h:KB m n) (hk:k≤n+1) (x:Int):KB (msetL m x k) (n+1):=fun y=>by
 rw [jy]
 split
 ·exact hk
 ·exact Nat.le_succ_of_le (h y)
theorem KB.up {m:List (Int×Nat)} {n k:Nat} (h:KB m n) (hk:n≤k):KB m k:=fun y=>Nat.le_trans (h y) hk
abbrev LS:=Int×Int×Int×(List Node)×(List Font)×(List (Int×Node))×(List (Int×(Nat→Int)))×(List (Int×Nat))×(List Int)×(List (Int×Int))×(List (Int×Int))×(List ((Int×Int)×Int))×(List ((Int×Int)×Int))
def stS (S:layout_scene) (i:Int):LS:=(i,S.t.Root,S.t.Next,S.t.Nodes,S.fonts,S.nodes,S.style,S.kids,S.shown,S.least,S.most,S.tall,S.first)
def wK (S:layout_scene) (m:List (Int×Nat)):layout_scene:=layout_scene.mk S.t S.fonts S.nodes S.style m S.shown S.least S.most S.tall S.first
def wS (S:layout_scene) (l:List Int):layout_scene:=layout_scene.mk S.t S.fonts S.nodes S.style S.kids l S.least S.most S.tall S.first
theorem nO (self0:layout_scene→Int→Option layout_scene) (id:Int) (x2:Node×Bool) (again:LS→Option layout_scene) (S:layout_scene) (i:Int) :
  bL self0 id x2 again (stS S i)=sel (decide (i<(x2.1.Kids.length:Int))) ((idxO x2.1.Kids i).bind fun k=>(a5 S k).bind fun h=>sel (!h.1) ((mgetO h.2.kids id 0).bind fun a=>(jappO a.1 1).bind fun b=>(self0 (wK h.2 (msetL h.2.kids id b)) k).bind fun S'=>again (stS S' (IntKind.i64.wrap (i+1)))) (again (stS h.2 (IntKind.i64.wrap (i+1))))) (some S):=rfl
theorem wM (n:Nat) (S:layout_scene) (x:Int):be (n+1) S x=bi (be n) S x:=rfl
theorem uM (self0:layout_scene→Int→Option layout_scene) (S:layout_scene) (x:Int):bi self0 S x=(appO S.shown ([x])).bind fun x1=>(mgetO S.nodes x zN).bind fun x2=>sel (leafK x2.1.Kind) (some (wS S x1)) (loopK (bL self0 x x2) N0 (stS (wS S x1) 0)):=by
 unfold bi
 refine congrArg (Option.bind (appO S.shown [x])) (funext fun x1=>?_)
 refine congrArg (Option.bind (mgetO S.nodes x zN)) (funext fun x2=>?_)
 unfold cu cd leafK
 rw [bindN]
 cases hc:(((x2.1.Kind==2)||(x2.1.Kind==4))||(x2.1.Kind==7))||(x2.1.Kind==9) with
 | true=>rfl
 | false=>rfl
theorem uL (G:Gt t) (st:List Styled):∀ (f n d:Nat) (x:Int) (S:layout_scene),Reach t.Nodes t.Root d x→t.Nodes.length≤f+d→f≤n→SC t st S→KB S.kids (S.shown.length+1)→S.shown.length+(pre t.Nodes f x).length≤1000 →
  ∃ S',be n S x=some S'∧SC t st S'∧S'.shown=S.shown++shF t st f x∧KB S'.kids S'.shown.length
 | 0,_,d,x,S,h,h1,_,_,_,_=>by have:=br G.shp.to0 h;omega
 | _+1,0,_,_,_,_,_,h2,_,_,_=>absurd h2 (by omega)
 | f+1,n+1,d,x,S,h,h1,h2,hS,hK,hl=>by
  have hp:(pre t.Nodes (f+1) x).length=1+((nd t.Nodes x).Kids.flatMap (pre t.Nodes f)).length:=by
   show (x :: _).length=_
   rw [List.length_cons];omega
  rw [hp] at hl
  rw [wM,uM,ck (by simp;omega),bindN,hS.nodes,show mgetO (mpo t.Nodes) x zN=some (nd t.Nodes x,(look t.Nodes x).isSome) from fD t.Nodes x,bindN]
  have hS1:SC t st (wS S (S.shown++[x])):=⟨hS.nodes,hS.style⟩
  have hK1:KB (wS S (S.shown++[x])).kids (wS S (S.shown++[x])).shown.length:=hK.up (by show _≤(S.shown++[x]).length;rw [List.length_append];exact Nat.le_refl _)
  cases hc:leafK (nd t.Nodes x).Kind with
  | true =>
   rw [selT']
   refine ⟨_,rfl,hS1,?_,hK1⟩
   unfold shF
   rw [if_pos hc];rfl
  | false =>
   rw [selF']
   have hkl:(nd t.Nodes x).Kids.length<N0:=by
    have:=il G.shp.to0 x
    have:=G.len
    unfold N0;omega
   have hsh:shF t st (f+1) x=x :: (nd t.Nodes x).Kids.flatMap (fun k=>if hid t st k=true then [] else shF t st f k):=by
    conv=>lhs;unfold shF
    rw [if_neg (by rw [hc];simp)]
   rw [hsh]
   refine loopI (L:=(nd t.Nodes x).Kids) (fun S i=>stS S (i:Int)) (fun i S'=>SC t st S'∧S'.shown=S.shown++x :: ((nd t.Nodes x).Kids.take i).flatMap (fun k=>if hid t st k=true then [] else shF t st f k)∧KB S'.kids S'.shown.length) (fun o=>∃ S',o=some S'∧SC t st S'∧S'.shown=S.shown++(x :: (nd t.Nodes x).Kids.flatMap (fun k=>if hid t st k=true then [] else shF t st f k))∧KB S'.kids S'.shown.length) hkl (fun again S' i k hk hi hinv=>.inr ?_) (fun again S' hinv=>?_) (wS S (S.shown++[x])) ⟨hS1,by show S.shown++[x]=_;simp,hK1⟩
   ·obtain ⟨g1,g2,g3⟩:=hinv
    rw [nO]
    have hkm:k∈(nd t.Nodes x).Kids:=List.mem_of_getElem? hk
    have hrk:=Reach.s h hkm
    have htk:(nd t.Nodes x).Kids.take (i+1)=(nd t.Nodes x).Kids.take i++[k]:=by rw [List.take_add_one,hk];rfl
    have hsum:(((nd t.Nodes x).Kids.take i).flatMap (pre t.Nodes f)).length+(pre t.Nodes f k).length≤((nd t.Nodes x).Kids.flatMap (pre t.Nodes f)).length:=by
     have:=fa (pre t.Nodes f) (nd t.Nodes x).Kids (i+1)
     rw [htk,List.flatMap_append,List.length_append] at this
     simpa using this
    have hsub:(((nd t.Nodes x).Kids.take i).flatMap (fun k=>if hid t st k=true then [] else shF t st f k)).length≤(((nd t.Nodes x).Kids.take i).flatMap (pre t.Nodes f)).length:=by
     refine (mx fun j _=>?_).length_le
     split
     ·exact List.nil_sublist _
     ·exact oC t st f j
    have hlen:S'.shown.length=S.shown.length+1+(((nd t.Nodes x).Kids.take i).flatMap (fun k=>if hid t st k=true then [] else shF t st f k)).length:=by
     rw [g2,List.length_append,List.length_cons];omega
    rw [bK hi,selT',aD,hk,bindN,qx G g1,bindN]
    simp only
    rw [aH hi hkl]
    cases hh:hid t st k with
    | true =>
     refine ⟨S',⟨g1,?_,g3⟩,by rw [Bool.not_true,selF']⟩
     rw [g2,htk,List.flatMap_append]
     simp [hh]
    | false =>
     rw [Bool.not_false,selT',f8,bindN]
     have hb:(cG S'.kids x).getD 0≤S'.shown.length:=g3 x
     have hj:jappO ((cG S'.kids x).getD 0) 1=some ((cG S'.kids x).getD 0+1):=if_pos (by omega)
     simp only
     rw [hj,bindN]
     obtain ⟨S2,e1,e2,e3,e4⟩:=uL G st f n (d+1) k (wK S' (msetL S'.kids x ((cG S'.kids x).getD 0+1))) hrk (by omega) (by omega) ⟨g1.nodes,g1.style⟩ (g3.set (by omega) x) (by show S'.shown.length+_≤_;omega)
     rw [e1,bindN]
     refine ⟨S2,⟨e2,?_,e4⟩,rfl⟩
     rw [e3]
     show S'.shown++shF t st f k=_
     rw [g2,htk,List.flatMap_append]
     simp [hh]
   ·obtain ⟨g1,g2,g3⟩:=hinv
    rw [nO,bI (Nat.le_refl _),selF']
    rw [List.take_length] at g2
    exact ⟨S',rfl,g1,g2,g3⟩
def cmpB (t:Tree) (st:List Styled):Bool:=decide (ids t.Nodes=st.map (·.ID))
theorem rT (t:Tree) (st:List Styled) (hl:t.Nodes.length<N0):bv t st=some (cmpB t st):=by
 unfold bv aX
 by_cases hn:t.Nodes.length=st.length
 ·rw [show ((t.Nodes.length:Int) != (st.length:Int))=false by rw [hn];simp,selF',jnN]
  refine loopI (L:=t.Nodes) (fun (_:Unit) i=>(i:Int)) (fun i _=>(ids t.Nodes).take i=(st.map (·.ID)).take i) (fun o=>(o.bind fun x1=>some x1)=some (cmpB t st)) hl (fun again _ i n hni hi hp=>?_) (fun again _ hp=>?_) () (by simp)
  ·unfold aW bU
   have hi2:i<st.length:=by omega
   have hs:st[i]? = some st[i]:=List.getElem?_eq_getElem hi2
   rw [bK hi,selT',aD,aD,hni,bindN,hs,bindN,bindN,aH hi hl]
   have e1:(ids t.Nodes)[i]? = some n.ID:=by unfold ids;rw [List.getElem?_map,hni];rfl
   have e2:(st.map (·.ID))[i]? = some st[i].ID:=by rw [List.getElem?_map,hs];rfl
   by_cases h:n.ID=st[i].ID
   ·rw [show (n.ID==st[i].ID)=true by simpa using h,Bool.not_true,selF']
    refine .inr ⟨(),?_,rfl⟩
    rw [List.take_add_one,List.take_add_one,hp,e1,e2,h]
   ·rw [show (n.ID==st[i].ID)=false by simpa using h,Bool.not_false,selT']
    refine .inl ?_
    unfold cmpB
    rw [decide_eq_false fun e=>h (by rw [e,e2] at e1;exact (Option.some.inj e1).symm)]
    rfl
  ·unfold aW
   rw [bI (Nat.le_refl _),selF']
   unfold cmpB
   rw [List.take_of_length_le (by rw [iy];exact Nat.le_refl _),List.take_of_length_le (by rw [List.length_map];omega)] at hp
   rw [decide_eq_true hp]
   rfl
 ·rw [show ((t.Nodes.length:Int) != (st.length:Int))=true by simpa using fun e:(t.Nodes.length:Int)=st.length=>hn (by omega),selT']
  unfold cmpB
  rw [decide_eq_false fun e=>hn (by have:=congrArg List.length e;rwa [iy,List.length_map] at this)]
  rfl
def inR (k:Nat) (n:Int):Bool:=match styProps[k]? with
 | some p=>decide (p.2.1≤n)&&decide (n≤p.2.2.1)
 | none=>false
theorem uf {k:Nat} (hk:k<22) (n:Int):bX (k:Int) n=some (inR k n):=by
 unfold bX cA inR
 have hl:styProps.length=22:=by decide
 obtain ⟨p,hp⟩:∃ p,styProps[k]? = some p:=⟨_,List.getElem?_eq_getElem (by rw [hl];exact hk)⟩
 rw [decide_eq_true (show (k:Int)≥0 by omega),decide_eq_true (show (k:Int)<22 by omega),bindN,hp]
 show ((idxO styProps (k:Int)).bind _:Option Bool)=_
 rw [aD,hp,bindN]
 show ((gO (true&&decide (n≥p.2.1)) (some p)).bind fun x3=>some ((true&&decide (n≥p.2.1))&&decide (n≤x3.2.2.1)):Option Bool)=some (decide (p.2.1≤n)&&decide (n≤p.2.2.1))
 by_cases h:p.2.1≤n
 ·rw [decide_eq_true (show n≥p.2.1 from h)];rfl
 ·rw [decide_eq_false (show ¬ n≥p.2.1 from h)];rfl
def stdB (st:List Styled):Bool:=st.all fun s=>(List.range 22).all fun k=>inR k (s.Style k)
theorem uD {st:List Styled} (hl:st.length<N0):bu st=some (stdB st):=by
 unfold bu
 rw [jnN]
 refine loopI (L:=st) (fun (_:Unit) i=>(i:Int)) (fun i _=>(st.take i).all (fun s=>(List.range 22).all fun k=>inR k (s.Style k))=true) (fun o=>o=some (stdB st)) hl (fun again _ i s hs hi hp=>?_) (fun again _ hp=>?_) () (by simp)
 ·unfold b8
  rw [bK hi,selT',jnN,aD,hs,bindN,jnN,aH hi hl]
  refine loopN (n:=22) (fun (_:Unit) i=>(i:Int)) (fun k _=>∀ j,j<k→inR j (s.Style j)=true) (fun o=>(o=some (stdB st))∨∃ s',(st.take (i+1)).all (fun s=>(List.range 22).all fun k=>inR k (s.Style k))=true∧o=again (((i+1:Nat):Int))) (by unfold N0;omega) (fun again2 _ k hk hq=>?_) (fun again2 _ hq=>?_) () (fun j hj=>absurd hj (by omega))
  ·unfold b9
   have hx:ixO 22 (k:Int)=some k:=if_pos hk
   rw [decide_eq_true (show (k:Int)<22 by omega),selT',hx,bindN,uf hk,bindN,aH hk (by unfold N0;omega)]
   cases hb:inR k (s.Style k) with
   | true =>
    rw [Bool.not_true,selF']
    refine .inr ⟨(),fun j hj=>?_,rfl⟩
    rcases Nat.lt_or_ge j k with h | h
    ·exact hq j h
    ·obtain rfl:j=k:=by omega
     exact hb
   | false =>
    rw [Bool.not_false,selT']
    refine .inl (.inl ?_)
    have:stdB st=false:=by
     unfold stdB
     rw [List.all_eq_false]
     refine ⟨s,List.mem_of_getElem? hs,?_⟩
     intro e
     have:=List.all_eq_true.1 e k (List.mem_range.2 hk)
     rw [hb] at this;cases this
    rw [this]
  ·unfold b9
   rw [decide_eq_false (show ¬ ((22:Nat):Int)<22 by omega),selF']
   refine .inr ⟨(),?_,rfl⟩
   rw [List.take_add_one,hs,List.all_append,hp]
   rw [Bool.true_and]
   show ([s].all _)=true
   rw [List.all_cons,List.all_nil,Bool.and_true,List.all_eq_true]
   exact fun k hk=>hq k (List.mem_range.1 hk)
 ·unfold b8
  rw [bI (Nat.le_refl _),selF']
  rw [List.take_length] at hp
  unfold stdB
  rw [hp]
def shT (t:Tree) (st:List Styled):List Int:=if hid t st t.Root=true then [] else shF t st t.Nodes.length t.Root
theorem yB (G:Gt t) {st:List Styled} (hc:cmpB t st=true):∃ S:layout_scene,bD t st ([]:List Font)=some S∧S.shown=shT t st:=by
 have hc':ids t.Nodes=st.map (·.ID):=of_decide_eq_true hc
 have hn:t.Nodes.length=st.length:=by have:=congrArg List.length hc';rwa [iy,List.length_map] at this
 have hl:t.Nodes.length<N0:=by have:=G.len;unfold N0;omega
 have hu:=G.shp.to0.uniq
 unfold bD
 rw [jnN]
 refine loopI (L:=t.Nodes) (fun (_:Unit) i=>((i:Int),mpo (t.Nodes.take i),spo (st.take i))) (fun _ _=>True) (fun o=>∃ S:layout_scene,o=some S∧S.shown=shT t st) hl (fun again _ i n hni hi _=>.inr ⟨(),trivial,?_⟩) (fun again _ _=>?_) () trivial
 ·unfold cg
  have hi2:i<st.length:=by omega
  have hs:st[i]? = some st[i]:=List.getElem?_eq_getElem hi2
  have e1:(ids t.Nodes)[i]? = some n.ID:=by unfold ids;rw [List.getElem?_map,hni];rfl
  have e2:(st.map (·.ID))[i]? = some st[i].ID:=by rw [List.getElem?_map,hs];rfl
  have he:n.ID=st[i].ID:=by rw [hc',e2] at e1;exact (Option.some.inj e1).symm
  have hnot:n.ID∉(ids t.Nodes).take i:=fun hm=>by
   have h2:(ids t.Nodes).take (i+1)=(ids t.Nodes).take i++[n.ID]:=by rw [List.take_add_one,e1];rfl
   have h3:((ids t.Nodes).take (i+1)).Nodup:=hu.sublist (List.take_sublist _ _)
   rw [h2,List.nodup_append] at h3
   exact h3.2.2 _ hm _ (by simp) rfl
  have t1:t.Nodes.take (i+1)=t.Nodes.take i++[n]:=by rw [List.take_add_one,hni];rfl
  have t2:st.take (i+1)=st.take i++[st[i]]:=by rw [List.take_add_one,hs];rfl
  simp only
  rw [bK hi,selT',aD,aD,hni,bindN,hs,bindN,f8,f8,bindN,bindN,aH hi hl,t1,t2]
  rw [oY _ n (by unfold ids at hnot ⊢;rw [List.map_take];exact hnot),he,uH _ st[i] (by rw [List.map_take,← hc',← he];exact hnot)]
 ·unfold cg
  simp only
  rw [bI (Nat.le_refl _),selF',jnN,List.take_length,List.take_of_length_le (by omega:st.length≤t.Nodes.length)]
  have hS:SC t st (layout_scene.mk t ([]:List Font) (mpo t.Nodes) (spo st) ([]:(List (Int×Nat))) ([]:(List Int)) ([]:(List (Int×Int))) ([]:(List (Int×Int))) ([]:(List ((Int×Int)×Int))) ([]:(List ((Int×Int)×Int)))):=⟨rfl,rfl⟩
  rw [qx G hS,bindN]
  unfold shT
  simp only
  cases hh:hid t st t.Root with
  | true =>
   rw [Bool.not_true,selF',if_pos rfl]
   exact ⟨_,rfl,rfl⟩
  | false =>
   rw [Bool.not_false,selT',if_neg (by simp)]
   obtain ⟨S',s1,s2,s3,s4⟩:=uL G st t.Nodes.length N0 0 t.Root _ .z (by omega) (by have:=G.len;unfold N0;omega) hS (fun y=>Nat.zero_le _) (by
    have:=gP G.shp.to0 (f:=t.Nodes.length) (Reach.z)
    have:=G.len
    show 0+_≤_;omega)
   rw [s1,bindN]
   exact ⟨_,rfl,s3⟩
def shown (t:Tree) (st:List Styled):List Int:=if cmpB t st=true∧stdB st=true then shT t st else []
theorem xX (G:Gt t) {st:List Styled} (hst:st.length<N0):cc t st=some (shown t st):=by
 have hl:t.Nodes.length<N0:=by have:=G.len;unfold N0;omega
 unfold cc shown
 rw [G.check,bindN]
 show ((bv t st).bind fun x2=>(gO (!((false)||(!x2))) (bu st)).bind fun x3=>sel (((false)||(!x2))||(!x3)) (some ([]:(List Int))) ((bD t st ([]:(List Font))).bind fun x5=>some x5.shown):Option (List Int))=_
 rw [rT t st hl,bindN]
 cases hc:cmpB t st with
 | false=>rw [if_neg (by simp)];rfl
 | true =>
  show ((bu st).bind _:Option (List Int))=_
  rw [uD hst,bindN]
  cases hs:stdB st with
  | false=>rw [if_neg (by simp)];rfl
  | true =>
   rw [if_pos ⟨rfl,rfl⟩]
   obtain ⟨S,s1,s2⟩:=yB G hc
   show ((bD t st ([]:(List Font))).bind _:Option (List Int))=_
   rw [s1,bindN,s2]
end
end Go.Proofs.YtfoigppmcelgfaaGreatDoor
end
section
set_option maxRecDepth 100000
namespace Go.Proofs.YtfoigppmcelgfaaGreatDoor
open Go Go.E2
theorem uV {st:List Styled} (hl:st.length<N0) (x:Int):jO st x=some (sty st x):=by
 unfold jO
 rw [jnN]
 refine loopI (L:=st) (fun (_:Unit) i=>(i:Int)) (fun i _=>sty (st.drop i) x=sty st x) (fun o=>o=some (sty st x)) hl (fun again _ i s hs hi hp=>?_) (fun again _ hp=>?_) () rfl
 ·rw [bB hs] at hp
  unfold iZ
  rw [bK hi,selT',aD,hs,bindN]
  have hp:(if s.ID=x then s.Style else sty (st.drop (i+1)) x)=sty st x:=hp
  by_cases h:s.ID=x
  ·rw [if_pos h] at hp
   rw [show (s.ID==x)=true by simpa using h,selT',bindN,hp]
   exact .inl rfl
  ·rw [if_neg h] at hp
   rw [show (s.ID==x)=false by simpa using h,selF',aH hi hl]
   exact .inr ⟨(),hp,rfl⟩
 ·rw [List.drop_length] at hp
  unfold iZ
  rw [bI (Nat.le_refl _),selF',← hp]
  rfl
theorem qc {t:Tree} {st:List Styled} (hl:st.length<N0):fL t st=some (cmpB t st):=by
 unfold fL
 by_cases hn:t.Nodes.length=st.length
 ·rw [show ((st.length:Int) != (t.Nodes.length:Int))=false by rw [hn];simp,selF',jnN]
  refine loopI (L:=st) (fun (_:Unit) i=>(i:Int)) (fun i _=>(ids t.Nodes).take i=(st.map (·.ID)).take i) (fun o=>o=some (cmpB t st)) hl (fun again _ i s hs hi hp=>?_) (fun again _ hp=>?_) () (by simp)
  ·unfold eT
   have hi2:i<t.Nodes.length:=by omega
   have hn':t.Nodes[i]? = some t.Nodes[i]:=List.getElem?_eq_getElem hi2
   rw [bK hi,selT',aD,aD,hs,bindN,hn',bindN,aH hi hl]
   have e1:(ids t.Nodes)[i]? = some t.Nodes[i].ID:=by unfold ids;rw [List.getElem?_map,hn'];rfl
   have e2:(st.map (·.ID))[i]? = some s.ID:=by rw [List.getElem?_map,hs];rfl
   by_cases h:s.ID=t.Nodes[i].ID
   ·rw [show (s.ID != t.Nodes[i].ID)=false by simpa using h,selF']
    refine .inr ⟨(),?_,rfl⟩
    rw [List.take_add_one,List.take_add_one,hp,e1,e2,h]
   ·rw [show (s.ID != t.Nodes[i].ID)=true by simpa using h,selT']
    refine .inl ?_
    unfold cmpB
    rw [decide_eq_false fun e=>h (by rw [e,e2] at e1;exact Option.some.inj e1)]
  ·unfold eT
   rw [bI (Nat.le_refl _),selF']
   unfold cmpB
   rw [List.take_of_length_le (by rw [iy];omega),List.take_of_length_le (by rw [List.length_map];exact Nat.le_refl _)] at hp
   rw [decide_eq_true hp]
 ·rw [show ((st.length:Int) != (t.Nodes.length:Int))=true by simpa using fun e:(st.length:Int)=t.Nodes.length=>hn (by omega),selT']
  unfold cmpB
  rw [decide_eq_false fun e=>hn (by have:=congrArg List.length e;rwa [iy,List.length_map] at this)]
theorem qY {k:Nat} (hk:k<22) (n:Int):iY (k:Int) n=some (inR k n):=by
 match k,hk with
 | 0,_=>show _=_;kernel_rfl
 | 1,_=>show _=_;kernel_rfl
 | 2,_=>show _=_;kernel_rfl
 | 3,_=>show _=_;kernel_rfl
 | 4,_=>show _=_;kernel_rfl
 | 5,_=>show _=_;kernel_rfl
 | 6,_=>show _=_;kernel_rfl
 | 7,_=>show _=_;kernel_rfl
 | 8,_=>show _=_;kernel_rfl
 | 9,_=>show _=_;kernel_rfl
 | 10,_=>show _=_;kernel_rfl
 | 11,_=>show _=_;kernel_rfl
 | 12,_=>show _=_;kernel_rfl
 | 13,_=>show _=_;kernel_rfl
 | 14,_=>show _=_;kernel_rfl
 | 15,_=>show _=_;kernel_rfl
 | 16,_=>show _=_;kernel_rfl
 | 17,_=>show _=_;kernel_rfl
 | 18,_=>show _=_;kernel_rfl
 | 19,_=>show _=_;kernel_rfl
 | 20,_=>show _=_;kernel_rfl
 | 21,_=>show _=_;kernel_rfl
 | k+22,h=>exact absurd h (by omega)
theorem t7 {t:Tree} {st:List Styled} (hl:st.length<N0):gf t st=some (if cmpB t st=true then (if stdB st=true then 0 else 1) else 7):=by
 unfold gf
 rw [qc hl,bindN]
 cases hc:cmpB t st with
 | false=>rfl
 | true =>
  rw [Bool.not_true,selF',jnN,if_pos rfl]
  refine loopI (L:=st) (fun (_:Unit) i=>(i:Int)) (fun i _=>(st.take i).all (fun s=>(List.range 22).all fun k=>inR k (s.Style k))=true) (fun o=>o=some (if stdB st=true then 0 else 1)) hl (fun again _ i s hs hi hp=>?_) (fun again _ hp=>?_) () (by simp)
  ·unfold f6
   rw [bK hi,selT',jnN,jnN,aH hi hl]
   refine loopN (n:=22) (fun (_:Unit) i=>(i:Int)) (fun k _=>∀ j,j<k→inR j (s.Style j)=true) (fun o=>(o=some (if stdB st=true then 0 else 1))∨∃ s',(st.take (i+1)).all (fun s=>(List.range 22).all fun k=>inR k (s.Style k))=true∧o=again (((i+1:Nat):Int))) (by unfold N0;omega) (fun again2 _ k hk hq=>?_) (fun again2 _ hq=>?_) () (fun j hj=>absurd hj (by omega))
   ·unfold f7
    have hx:ixO 22 (k:Int)=some k:=if_pos hk
    rw [decide_eq_true (show (k:Int)<22 by omega),selT',aD,hs,bindN,hx,bindN,qY hk,bindN,aH hk (by unfold N0;omega)]
    cases hb:inR k (s.Style k) with
    | true =>
     rw [Bool.not_true,selF']
     refine .inr ⟨(),fun j hj=>?_,rfl⟩
     rcases Nat.lt_or_ge j k with h | h
     ·exact hq j h
     ·obtain rfl:j=k:=by omega
      exact hb
    | false =>
     rw [Bool.not_false,selT']
     refine .inl (.inl ?_)
     have:stdB st=false:=by
      unfold stdB
      rw [List.all_eq_false]
      refine ⟨s,List.mem_of_getElem? hs,?_⟩
      intro e
      have:=List.all_eq_true.1 e k (List.mem_range.2 hk)
      rw [hb] at this;cases this
     rw [this];rfl
   ·unfold f7
    rw [decide_eq_false (show ¬ ((22:Nat):Int)<22 by omega),selF']
    refine .inr ⟨(),?_,rfl⟩
    rw [List.take_add_one,hs,List.all_append,hp]
    rw [Bool.true_and]
    show ([s].all _)=true
    rw [List.all_cons,List.all_nil,Bool.and_true,List.all_eq_true]
    exact fun k hk=>hq k (List.mem_range.1 hk)
  ·unfold f6
   rw [bI (Nat.le_refl _),selF']
   rw [List.take_length] at hp
   unfold stdB
   rw [hp];rfl
section
variable {t:Tree}
theorem tY (n:Nat) (t:Tree) (st:List Styled) (x:Int) (l:List Int):cT (n+1) t st x l=gG (cT n) t st x l:=rfl
theorem pZ (G:Gt t) {st:List Styled} (hst:st.length<N0):∀ (f n d:Nat) (x:Int) (l:List Int),Reach t.Nodes t.Root d x→t.Nodes.length≤f+d→f≤n→l.length+(pre t.Nodes f x).length≤1000 →
  cT n t st x l=some (l++if hid t st x=true then [] else shF t st f x)
 | 0,_,d,x,_,h,h1,_,_=>by have:=br G.shp.to0 h;omega
 | _+1,0,_,_,_,_,_,h2,_=>absurd h2 (by omega)
 | f+1,n+1,d,x,l,h,h1,h2,hl=>by
  have hN:t.Nodes.length<N0:=by have:=G.len;unfold N0;omega
  have hp:(pre t.Nodes (f+1) x).length=1+((nd t.Nodes x).Kids.flatMap (pre t.Nodes f)).length:=by
   show (x :: _).length=_
   rw [List.length_cons];omega
  rw [hp] at hl
  rw [tY]
  unfold gG
  rw [pC t x hN,bindN,uV hst,bindN]
  have hfl:((gO (!((sty st x 5)==0)) (dJ (nd t.Nodes x).Attrs (ByteArray.mk #[104,105,100,100,101,110]))).bind fun x3=>sel (((sty st x 5)==0)||x3) (some l) ((appO l ([x])).bind fun x5=>(fl (nd t.Nodes x).Kind).bind fun x6=>(gO (!x6) (gg (nd t.Nodes x).Kind)).bind fun x7=>sel (x6||x7) (some x5) (jn (fun (s9:(List Int))=>some s9) fun k10=>loopK (cZ (cT n) t st (nd t.Nodes x) k10) N0 (x5,0))))=sel (hid t st x) (some l) ((appO l ([x])).bind fun x5=>sel (leafK (nd t.Nodes x).Kind) (some x5) (loopK (cZ (cT n) t st (nd t.Nodes x) fun (s9:(List Int))=>some s9) N0 (x5,0))):=by
   unfold hid
   have e2:∀ x5:List Int,((fl (nd t.Nodes x).Kind).bind fun x6=>(gO (!x6) (gg (nd t.Nodes x).Kind)).bind fun x7=>sel (x6||x7) (some x5) (jn (fun (s9:(List Int))=>some s9) fun k10=>loopK (cZ (cT n) t st (nd t.Nodes x) k10) N0 (x5,0)))=sel (leafK (nd t.Nodes x).Kind) (some x5) (loopK (cZ (cT n) t st (nd t.Nodes x) fun (s9:(List Int))=>some s9) N0 (x5,0)):=fun x5=>by
    unfold fl gg leafK
    rw [bindN]
    cases hc:((((nd t.Nodes x).Kind==2)||((nd t.Nodes x).Kind==4))||((nd t.Nodes x).Kind==7))||((nd t.Nodes x).Kind==9) with
    | true=>rfl
    | false=>rw [Bool.not_false];show ((some _).bind _:Option (List Int))=_;rw [bindN,jnN]
   rw [funext e2]
   cases hc:sty st x 5==0 with
   | true=>rfl
   | false =>
    show ((dJ (nd t.Nodes x).Attrs hidA).bind fun x3=>sel (false||x3) (some l) _:Option (List Int))=_
    rw [vI hidA (ie G x),bindN]
  rw [hfl]
  cases hh:hid t st x with
  | true=>rw [selT',if_pos rfl,List.append_nil]
  | false =>
   rw [selF',ck (by simp;omega),bindN,if_neg (by simp)]
   have hkl:(nd t.Nodes x).Kids.length<N0:=by
    have:=il G.shp.to0 x
    have:=G.len
    unfold N0;omega
   cases hc:leafK (nd t.Nodes x).Kind with
   | true =>
    rw [selT']
    unfold shF
    rw [if_pos hc]
   | false =>
    rw [selF']
    have hsh:shF t st (f+1) x=x :: (nd t.Nodes x).Kids.flatMap (fun k=>if hid t st k=true then [] else shF t st f k):=by
     conv=>lhs;unfold shF
     rw [if_neg (by rw [hc];simp)]
    rw [hsh]
    refine loopI (L:=(nd t.Nodes x).Kids) (fun (a:List Int) i=>(a,(i:Int))) (fun i a=>a=l++x :: ((nd t.Nodes x).Kids.take i).flatMap (fun k=>if hid t st k=true then [] else shF t st f k)) (fun o=>o=some (l++(x :: (nd t.Nodes x).Kids.flatMap (fun k=>if hid t st k=true then [] else shF t st f k)))) hkl (fun again a i k hk hi ha=>.inr ?_) (fun again a ha=>?_) (l++[x]) (by simp)
    ·unfold cZ
     have hkm:k∈(nd t.Nodes x).Kids:=List.mem_of_getElem? hk
     have hrk:=Reach.s h hkm
     have htk:(nd t.Nodes x).Kids.take (i+1)=(nd t.Nodes x).Kids.take i++[k]:=by rw [List.take_add_one,hk];rfl
     have hsum:(((nd t.Nodes x).Kids.take i).flatMap (pre t.Nodes f)).length+(pre t.Nodes f k).length≤((nd t.Nodes x).Kids.flatMap (pre t.Nodes f)).length:=by
      have:=fa (pre t.Nodes f) (nd t.Nodes x).Kids (i+1)
      rw [htk,List.flatMap_append,List.length_append] at this
      simpa using this
     have hsub:(((nd t.Nodes x).Kids.take i).flatMap (fun k=>if hid t st k=true then [] else shF t st f k)).length≤(((nd t.Nodes x).Kids.take i).flatMap (pre t.Nodes f)).length:=by
      refine (mx fun j _=>?_).length_le
      split
      ·exact List.nil_sublist _
      ·exact oC t st f j
     have hlen:a.length=l.length+1+(((nd t.Nodes x).Kids.take i).flatMap (fun k=>if hid t st k=true then [] else shF t st f k)).length:=by
      rw [ha,List.length_append,List.length_cons];omega
     simp only
     rw [bK hi,selT',aD,hk,bindN,pZ G hst f n (d+1) k a hrk (by omega) (by omega) (by omega),bindN,aH hi hkl]
     refine ⟨_,?_,rfl⟩
     rw [ha,htk,List.flatMap_append]
     simp
    ·unfold cZ
     simp only
     rw [bI (Nat.le_refl _),selF',ha,List.take_length]
theorem Gt.tk (G:Gt t):TK t:=fun n hn=>⟨(G.tb n hn).2.2.1,(G.tb n hn).2.2.2⟩
theorem qd (G:Gt t):dw t=some 0:=by
 rcases ya G.tk with ⟨_,_,_,h⟩ | ⟨⟨m,h⟩,_⟩
 ·exact h
 ·rw [G.valid] at h
  have:=congrArg (fun o:Option (List (Int×Node)×Bool)=>o.map (·.2)) h
  simp at this
theorem uX (G:Gt t):gK t=some (pre t.Nodes t.Nodes.length t.Root):=by
 have hl:=G.len
 have hpl:=gP G.shp.to0 (f:=t.Nodes.length) Reach.z
 unfold gK
 rw [qd G,bindN,show ((0:Int) != 0)=false from rfl,selF',mP G.shp.to0 hl t.Nodes.length N0 0 t.Root [] Reach.z (by omega) (by unfold N0;omega) (by simp only [List.length_nil];omega)];rfl
theorem uW (G:Gt t) {st:List Styled} (hst:st.length<N0):gH t st=some (shown t st):=by
 unfold gH shown
 rw [qd G,bindN]
 show ((gf t st).bind fun x2=>sel (false||(x2 != 0)) (some ([]:(List Int))) ((cT N0 t st t.Root ([]:(List Int))).bind fun x4=>some x4):Option (List Int))=_
 rw [t7 hst,bindN]
 cases hc:cmpB t st with
 | false=>rw [if_neg (by simp),if_neg (by simp)];rfl
 | true =>
  rw [if_pos rfl]
  cases hs:stdB st with
  | false=>rw [if_neg (by simp),if_neg (by simp)];rfl
  | true =>
   rw [if_pos rfl,if_pos ⟨rfl,rfl⟩]
   show ((cT N0 t st t.Root ([]:(List Int))).bind fun x4=>some x4:Option (List Int))=_
   rw [pZ G hst t.Nodes.length N0 0 t.Root [] .z (by omega) (by have:=G.len;unfold N0;omega) (by
    have:=gP G.shp.to0 (f:=t.Nodes.length) (Reach.z)
    have:=G.len
    show 0+_≤_;omega),bindN]
   rfl
def seen (t:Tree) (st:List Styled):List Int:=(shown t st).filter fun x=>sty st x 21==0
theorem pQ (t:Tree) (st:List Styled):(shown t st).Sublist (pre t.Nodes t.Nodes.length t.Root):=by
 unfold shown shT
 split
 ·split
  ·exact List.nil_sublist _
  ·exact oC _ _ _ _
 ·exact List.nil_sublist _
theorem mL (G:Gt t) (st:List Styled):(shown t st).length≤400:=by
 have:=(pQ t st).length_le
 have:=gP G.shp.to0 (f:=t.Nodes.length) (Reach.z)
 have:=G.len
 omega
theorem sy (G:Gt t) {st:List Styled} (hst:st.length<N0):hO t st=some ⟨t,st,pre t.Nodes t.Nodes.length t.Root,seen t st⟩:=by
 unfold hO
 rw [uX G,bindN,uW G hst,bindN,jnN]
 have hl:=mL G st
 refine loopI (L:=shown t st) (fun (a:List Int) i=>((i:Int),a)) (fun i a=>a=((shown t st).take i).filter fun x=>sty st x 21==0) (fun o=>o=some (widgetryref29_Facts.mk t st (pre t.Nodes t.Nodes.length t.Root) (seen t st))) (by unfold N0;omega) (fun again a i x hx hi ha=>.inr ?_) (fun again a ha=>?_) [] (by simp)
 ·unfold iX
  have hal:a.length≤400:=by
   rw [ha]
   have:=List.length_filter_le (fun x=>sty st x 21==0) ((shown t st).take i)
   have:=List.length_take_le i (shown t st)
   rw [List.length_take] at *
   omega
  have htk:(shown t st).take (i+1)=(shown t st).take i++[x]:=by rw [List.take_add_one,hx];rfl
  simp only
  rw [bK hi,selT',jnN,aD,hx,bindN,uV hst,bindN,aH hi (by unfold N0;omega)]
  cases hc:sty st x 21==0 with
  | true =>
   rw [selT',bindN,ck (by simp;omega),bindN]
   refine ⟨_,?_,rfl⟩
   rw [ha,htk,List.filter_append]
   simp [hc]
  | false =>
   rw [selF']
   refine ⟨_,?_,rfl⟩
   rw [ha,htk,List.filter_append]
   simp [hc]
 ·unfold iX
  simp only
  rw [bI (Nat.le_refl _),selF',ha,List.take_length]
  rfl
end
end Go.Proofs.YtfoigppmcelgfaaGreatDoor
end
section
set_option maxRecDepth 100000
namespace Go.Proofs.YtfoigppmcelgfaaGreatDoor
open Go Go.E2
theorem oc {g:Int→List Int}:∀ {K a b:List Int} {y:Int},K.flatMap g=a++y :: b→∃ K1 k K2 a1 b1,K=K1++k :: K2∧g k=a1++y :: b1∧a=K1.flatMap g++a1
 | [],a,b,y,h=>by simp at h
 | k :: t,a,b,y,h=>by
  rw [List.flatMap_cons] at h
  rcases Nat.lt_or_ge a.length (g k).length with h1 | h1
  ·have e1:a=(g k).take a.length:=by
    have:=congrArg (List.take a.length) h
    rw [List.take_append_of_le_length (by omega),List.take_append_of_le_length (Nat.le_refl _),List.take_length] at this
    exact this.symm
   have e2:y :: b=(g k).drop a.length++t.flatMap g:=by
    have:=congrArg (List.drop a.length) h
    rw [List.drop_append_of_le_length (by omega),List.drop_append_of_le_length (Nat.le_refl _),List.drop_length] at this
    simpa using this.symm
   cases hd:(g k).drop a.length with
   | nil =>
    have:=congrArg List.length hd
    rw [List.length_drop,List.length_nil] at this
    omega
   | cons z r =>
    rw [hd,List.cons_append] at e2
    cases e2
    refine ⟨[],k,t,a,r,rfl,?_,by simp⟩
    conv=>lhs;rw [← List.take_append_drop a.length (g k),hd,← e1]
  ·have e2:t.flatMap g=a.drop (g k).length++y :: b:=by
    have:=congrArg (List.drop (g k).length) h
    rw [List.drop_append_of_le_length (Nat.le_refl _),List.drop_append_of_le_length h1,List.drop_length] at this
    simpa using this
   have e1:a=g k++a.drop (g k).length:=by
    have:=congrArg (List.take (g k).length) h
    rw [List.take_append_of_le_length (Nat.le_refl _),List.take_append_of_le_length h1,List.take_length] at this
    conv=>lhs;rw [← List.take_append_drop (g k).length a,← this]
   obtain ⟨K1,j,K2,a1,b1,q1,q2,q3⟩:=oc e2
   refine ⟨k :: K1,j,K2,a1,b1,by rw [q1];rfl,q2,?_⟩
   rw [List.flatMap_cons,List.append_assoc,← q3]
   exact e1
section
variable {L:List Node} {root:Int}
theorem qp (S:Shp0 L root):∀ (f:Nat) {d:Nat} {x y:Int} {a b:List Int},Reach L root d x→pre L f x=a++y :: b→y=x∨up L y∈a
 | 0,d,x,y,a,b,_,h=>by simp [pre] at h
 | f+1,d,x,y,a,b,hr,h=>by
  have e:pre L (f+1) x=x :: (nd L x).Kids.flatMap (pre L f):=rfl
  rw [e] at h
  cases a with
  | nil =>
   simp at h
   exact .inl h.1.symm
  | cons z a =>
   simp at h
   obtain ⟨rfl,h⟩:=h
   obtain ⟨K1,k,K2,a1,b1,q1,q2,q3⟩:=oc h
   have hk:k∈(nd L x).Kids:=by rw [q1];simp
   rcases qp S f (.s hr hk) q2 with e1 | e1
   ·right
    rw [e1,(qt S hk).1];simp
   ·right
    rw [q3]
    simp [e1]
end
def disA:Str:=ByteArray.mk #[100,105,115,97,98,108,101,100]
section
variable {t:Tree}
def disP (t:Tree) (d:Nat) (x:Int):Bool:=(pth t.Nodes d x).any fun z=>flA disA (nd t.Nodes z)
theorem xL (t:Tree) (d:Nat) (x:Int):disP t (d+1) x=(disP t d (up t.Nodes x)||flA disA (nd t.Nodes x)):=by
 unfold disP
 show (pth t.Nodes d (up t.Nodes x)++[x]).any _=_
 rw [List.any_append];simp
theorem sj {st:List Styled} {x:Int} (h:x∈shown t st):cmpB t st=true:=by
 unfold shown at h
 split at h
 ·rename_i hc;exact hc.1
 ·cases h
theorem zD {st:List Styled} (hu:(st.map (·.ID)).Nodup) {i:Nat} {s:Styled} (h:st[i]? = some s):sty st s.ID=s.Style:=by
 induction st generalizing i with
 | nil=>simp at h
 | cons m r ih =>
  show (if m.ID=s.ID then m.Style else sty r s.ID)=s.Style
  rw [List.map_cons,List.nodup_cons] at hu
  cases i with
  | zero =>
   have:m=s:=by simpa using h
   rw [this,if_pos rfl]
  | succ i =>
   have h2:r[i]? = some s:=by simpa using h
   have:s.ID∈r.map (·.ID):=List.mem_map_of_mem (List.mem_of_getElem? h2)
   rw [if_neg (fun e=>hu.1 (by rw [e];exact this))]
   exact ih hu.2 h2
theorem wn (G:Gt t) {st:List Styled} (h:cmpB t st=true):(st.map (·.ID)).Nodup:=by
 rw [← (of_decide_eq_true h:ids t.Nodes=st.map (·.ID))]
 exact G.shp.to0.uniq
theorem oD {st:List Styled} {x:Int}:x∈seen t st↔x∈shown t st∧(sty st x 21==0)=true:=by
 unfold seen
 rw [List.mem_filter]
structure SI (t:Tree) (st:List Styled) (S:focus_sight):Prop where
 order:S.order=pre t.Nodes t.Nodes.length t.Root
 nodes:S.nodes=mpo t.Nodes
 visible:∀ y,(cG S.visible y).getD false=decide (y∈seen t st)
 disabled:∀ d y,Reach t.Nodes t.Root d y→(cG S.disabled y).getD false=disP t d y
theorem el (G:Gt t) {x:Int} (h:x∈pre t.Nodes t.Nodes.length t.Root):∃ d,Reach t.Nodes t.Root d x:=by
 obtain ⟨i,h1,_⟩:=ix G.shp.to0 _ .z h
 exact ⟨_,h1⟩
theorem ki (G:Gt t) {d:Nat} {x:Int} (h:Reach t.Nodes t.Root d x):x∈pre t.Nodes t.Nodes.length t.Root:=by
 have hs:=nX (jt G.shp.to0 t.Nodes.length Reach.z) (fun y hy=>oU G.shp.to0 Reach.z hy) (G.shp.whole.trans (iy t.Nodes).symm)
 exact hs x (mR G.shp.to0 h)
theorem fM (G:Gt t):1≤(pre t.Nodes t.Nodes.length t.Root).length∧(pre t.Nodes t.Nodes.length t.Root).length≤400:=by
 have h1:=gP G.shp.to0 (f:=t.Nodes.length) (Reach.z)
 have h2:=G.len
 have h3:=List.length_pos_of_mem (ki G .z)
 omega
theorem vr (G:Gt t) {st:List Styled} (hst:st.length<N0):∃ S,jA t st=some S∧SI t st S:=by
 have hlen:=fM G
 have hl:t.Nodes.length<N0:=by have:=G.len;unfold N0;omega
 have hu:=G.shp.to0.uniq
 unfold jA
 rw [G.order,bindN]
 generalize ho:pre t.Nodes t.Nodes.length t.Root=o at hlen
 rw [show ((o.length:Int)==0)=false by rw [beq_eq_false_iff_ne];omega,selF',jnN]
 -- the nodes
 refine loopI (L:=t.Nodes) (fun (_:Unit) i=>((i:Int),mpo (t.Nodes.take i))) (fun _ _=>True) (fun r=>∃ S,r=some S∧SI t st S) hl (fun again _ i n hni hi _=>.inr ⟨(),trivial,?_⟩) (fun again _ _=>?_) () trivial
 ·unfold jV
  have e1:(ids t.Nodes)[i]? = some n.ID:=by unfold ids;rw [List.getElem?_map,hni];rfl
  have hnot:n.ID∉(ids t.Nodes).take i:=fun hm=>by
   have h2:(ids t.Nodes).take (i+1)=(ids t.Nodes).take i++[n.ID]:=by rw [List.take_add_one,e1];rfl
   have h3:((ids t.Nodes).take (i+1)).Nodup:=hu.sublist (List.take_sublist _ _)
   rw [h2,List.nodup_append] at h3
   exact h3.2.2 _ hm _ (by simp) rfl
  have t1:t.Nodes.take (i+1)=t.Nodes.take i++[n]:=by rw [List.take_add_one,hni];rfl
  simp only
  rw [bK hi,selT',aD,hni,bindN,aH hi hl,t1,oY _ n (by unfold ids at hnot ⊢;rw [List.map_take];exact hnot)]
 unfold jV
 simp only
 rw [bI (Nat.le_refl _),selF',List.take_length,jnN,xX G hst,bindN]
 -- the shown ones
 have hsl:=mL G st
 refine loopI (L:=shown t st) (fun (m:List (Int×Bool)) i=>((i:Int),m)) (fun i m=>∀ y,(cG m y).getD false=decide (y∈(shown t st).take i)) (fun r=>∃ S,r=some S∧SI t st S) (by unfold N0;omega) (fun again m i x hx hi hm=>.inr ?_) (fun again m1 hm1=>?_) [] (fun y=>by simp [cG])
 ·unfold jW
  simp only
  rw [bK hi,selT',aD,hx,bindN,aH hi (by unfold N0;omega)]
  refine ⟨_,fun y=>?_,rfl⟩
  have htk:(shown t st).take (i+1)=(shown t st).take i++[x]:=by rw [List.take_add_one,hx];rfl
  rw [jy,htk]
  by_cases h:y=x
  ·rw [if_pos h,h];simp
  ·rw [if_neg h,hm y];simp [h]
 unfold jW
 simp only
 rw [bI (Nat.le_refl _),selF',jnN]
 rw [List.take_length] at hm1
 -- the visible ones
 refine loopI (L:=st) (fun (m:List (Int×Bool)) i=>((i:Int),m)) (fun i m=>∀ y,(cG m y).getD false=(decide (y∈(st.take i).map (·.ID))&&decide (y∈seen t st))) (fun r=>∃ S,r=some S∧SI t st S) hst (fun again m i s hs hi hm=>.inr ?_) (fun again m2 hm2=>?_) [] (fun y=>by simp [cG])
 ·unfold jX
  simp only
  rw [bK hi,selT',aD,hs,bindN,f8,bindN,aH hi hst]
  refine ⟨_,fun y=>?_,rfl⟩
  have htk:(st.take (i+1)).map (·.ID)=(st.take i).map (·.ID)++[s.ID]:=by rw [List.take_add_one,hs,List.map_append];rfl
  rw [jy,htk]
  by_cases h:y=s.ID
  ·rw [if_pos h,h,hm1 s.ID]
   have hval:(decide (s.ID∈shown t st)&&(s.Style 21==0))=decide (s.ID∈seen t st):=by
    by_cases hin:s.ID∈shown t st
    ·rw [decide_eq_true hin,Bool.true_and]
     have hsy:=zD (wn G (sj hin)) hs
     have:s.ID∈seen t st↔(s.Style 21==0)=true:=by
      rw [oD,hsy]
      exact ⟨fun h=>h.2,fun h=>⟨hin,h⟩⟩
     cases hc:s.Style 21==0 with
     | true=>rw [decide_eq_true (this.2 hc)]
     | false=>rw [decide_eq_false fun e=>by rw [hc] at this;exact absurd (this.1 e) (by simp)]
    ·rw [decide_eq_false hin,Bool.false_and,decide_eq_false fun e=>hin (oD.1 e).1]
   show (decide (s.ID∈shown t st)&&(s.Style 21==0))=_
   rw [hval]
   simp
  ·rw [if_neg h,hm y]
   simp [h]
 unfold jX
 simp only
 rw [bI (Nat.le_refl _),selF',jnN]
 rw [List.take_length] at hm2
 have hvis:∀ y,(cG m2 y).getD false=decide (y∈seen t st):=fun y=>by
  rw [hm2 y]
  by_cases h:y∈seen t st
  ·have hin:=(oD.1 h).1
   have hc:ids t.Nodes=st.map (·.ID):=of_decide_eq_true (sj hin)
   have:y∈st.map (·.ID):=by
    rw [← hc]
    exact oU G.shp.to0 .z ((pQ t st).subset hin)
   rw [decide_eq_true this,decide_eq_true h];rfl
  ·rw [decide_eq_false h,Bool.and_false]
 -- the disabled ones
 refine loopI (L:=o) (fun (m:List (Int×Bool)) i=>((i:Int),m)) (fun i m=>(∀ y,y∉o.take i→cG m y=none)∧∀ d y,Reach t.Nodes t.Root d y→y∈o.take i→(cG m y).getD false=disP t d y) (fun r=>∃ S,r=some S∧SI t st S) (by unfold N0;omega) (fun again m i x hx hi hm=>.inr ?_) (fun again m3 hm3=>?_) [] ⟨fun y _=>rfl,fun d y _ hy=>by simp at hy⟩
 ·unfold jY
  obtain ⟨g1,g2⟩:=hm
  have hxo:x∈o:=List.mem_of_getElem? hx
  obtain ⟨d,hd⟩:=el G (ho.symm ▸ hxo)
  have hsplit:o=o.take i++x :: o.drop (i+1):=by
   conv=>lhs;rw [← List.take_append_drop i o,bB hx]
  have htk:o.take (i+1)=o.take i++[x]:=by rw [List.take_add_one,hx];rfl
  have hpar:((cG m (nd t.Nodes x).Parent).getD false||flA disA (nd t.Nodes x))=disP t d x:=by
   cases d with
   | zero =>
    have hx0:=iH hd
    have h0:(nd t.Nodes x).Parent=0:=by rw [hx0];exact oB G.shp.to0
    rw [h0,g1 0 (fun h=>by
     obtain ⟨e,he⟩:=el G (ho.symm ▸ (List.mem_of_mem_take h))
     exact absurd (kW G.shp.to0 he) (by omega))]
    unfold disP
    show (false||_)=([x].any _)
    simp
   | succ d =>
    have hup:=(fY G.shp.to0 hd).1
    have hin:up t.Nodes x∈o.take i:=by
     rcases qp G.shp.to0 t.Nodes.length Reach.z (ho.trans hsplit) with e | e
     ·exfalso
      subst e
      have:=df G.shp.to0 hd Reach.z
      omega
     ·exact e
    rw [xL]
    show ((cG m (up t.Nodes x)).getD false||_)=_
    rw [g2 d _ hup hin]
  simp only
  rw [bK hi,selT',aD,hx,bindN,fD,bindN,f8,bindN,aH hi (by unfold N0;omega)]
  have hfl:((gO (!((cG m (nd t.Nodes x).Parent).getD false)) (gr (nd t.Nodes x).Attrs (ByteArray.mk #[100,105,115,97,98,108,101,100]))).bind fun x17=>again (((i+1:Nat):Int),msetL m x ((cG m (nd t.Nodes x).Parent).getD false||x17)))=again (((i+1:Nat):Int),msetL m x (disP t d x)):=by
   rw [← hpar]
   cases hb:(cG m (nd t.Nodes x).Parent).getD false with
   | true=>rfl
   | false =>
    show ((gr (nd t.Nodes x).Attrs disA).bind _:Option focus_sight)=_
    rw [vH disA (ie G x),bindN]
  rw [hfl]
  refine ⟨_,⟨fun y hy=>?_,fun e y hr hy=>?_⟩,rfl⟩
  ·rw [htk] at hy
   simp at hy
   rw [jy,if_neg hy.2]
   exact g1 y hy.1
  ·rw [jy]
   by_cases h:y=x
   ·subst h
    rw [if_pos rfl,df G.shp.to0 hr hd];rfl
   ·rw [if_neg h]
    rw [htk] at hy
    simp [h] at hy
    exact g2 e y hr hy
 ·unfold jY
  obtain ⟨g1,g2⟩:=hm3
  simp only
  rw [bI (Nat.le_refl _),selF']
  rw [List.take_length] at g2
  exact ⟨_,rfl,ho.symm,rfl,hvis,fun d y hr=>g2 d y hr (ho ▸ ki G hr)⟩
end
end Go.Proofs.YtfoigppmcelgfaaGreatDoor
end
section
namespace Go.E2
open Go
variable (f:Int→Int→Option Int)
def lH (a:Int) (k9:(List Int)→Option (List Int)) (again11:(Int×(List Int))→Option (List Int)) (s10:Int×(List Int)):Option (List Int):=(gO (decide (s10.1>a)) (ixO s10.2.length s10.1)).bind fun x12=>(gO (decide (s10.1>a)) (s10.2[x12]?)).bind fun x13=>(gO (decide (s10.1>a)) (ixO s10.2.length (IntKind.i64.wrap (s10.1 - 1)))).bind fun x14=>(gO (decide (s10.1>a)) (s10.2[x14]?)).bind fun x15=>(gO (decide (s10.1>a)) (f x13 x15)).bind fun x16=>sel ((decide (s10.1>a))&&(decide (x16<0))) ((ixO s10.2.length (IntKind.i64.wrap (s10.1 - 1))).bind fun x18=>(s10.2[x18]?).bind fun x19=>(ixO s10.2.length s10.1).bind fun x20=>(s10.2[x20]?).bind fun x21=>(ixO s10.2.length s10.1).bind fun x22=>(ixO (List.set s10.2 x22 x19).length (IntKind.i64.wrap (s10.1 - 1))).bind fun x23=>again11 (IntKind.i64.wrap (s10.1 - 1),List.set (List.set s10.2 x22 x19) x23 x21)) (k9 s10.2)
def kx (a b:Int) (k2:(List Int)→Option (List Int)) (again4:(Int×(List Int))→Option (List Int)) (s3:Int×(List Int)):Option (List Int):=sel (decide (s3.1<b)) (jn (fun (s6:(List Int))=>again4 (IntKind.i64.wrap (s3.1+1),s6)) fun k7=>jn (fun (s8:(List Int))=>k7 s8) fun k9=>loopK (lH f a k9) N0 (s3.1,s3.2)) (k2 s3.2)
def insG (data:(List Int)) (a b:Int):Option (List Int):=jn (fun (s1:(List Int))=>some s1) fun k2=>loopK (kx f a b k2) N0 (IntKind.i64.wrap (a+1),data)
def sg (a b:Int):Int:=if a<b then -1 else if a>b then 1 else 0
theorem zE {a b:Int}:decide (sg a b<0)=decide (a<b):=by unfold sg;split <;> (try split) <;> simp <;> omega
variable (r:Int→Int)
def insR:List Int→Int→List Int→List Int
 | [],x,acc=>x :: acc
 | y :: t,x,acc=>if r x<r y then insR t x (y :: acc) else (y :: t).reverse++x :: acc
theorem sK:∀ (t:List Int) (x:Int) (a b:List Int),insR r t x (a++b)=insR r t x a++b
 | [],x,a,b=>rfl
 | y :: t,x,a,b=>by
  unfold insR
  split
  ·exact sK t x (y :: a) b
  ·simp
theorem pb:∀ (t:List Int) (x:Int) (a:List Int),(insR r t x a).length=t.length+1+a.length
 | [],x,a=>by simp [insR];omega
 | y :: t,x,a=>by
  unfold insR
  split
  ·rw [pb t x (y :: a)];simp;omega
  ·simp;omega
theorem lh:∀ (t:List Int) (x:Int) (a:List Int),(insR r t x a).Perm (x :: (t.reverse++a))
 | [],x,a=>List.Perm.refl _
 | y :: t,x,a=>by
  unfold insR
  split
  ·refine (lh t x (y :: a)).trans ?_
   refine List.Perm.cons x ?_
   simp
  ·exact List.perm_middle
def isortF:List Int→List Int→List Int
 | s,[]=>s
 | s,x :: t=>isortF (insR r s.reverse x []) t
variable {f r}
theorem yu {α:Type} (p:List α) (y x:α) (q:List α):((p++y :: x :: q).set (p.length+1) y).set p.length x=p++x :: y :: q:=by
 rw [List.set_append_right _ _ (by omega),List.set_append_right _ _ (by omega)]
 simp
theorem nZ {n:Nat} (hn:n≤1073741824) (k:List Int→Option (List Int)):∀ (m:Nat) (t:List Int) (x:Int) (q:List Int),t.length<m→t.length+1+q.length=n→(∀ y∈t,f x y=some (sg (r x) (r y)))→loopK (lH f 0 k) m ((t.length:Int),t.reverse++x :: q)=k (insR r t x q)
 | 0,_,_,_,h,_,_=>absurd h (Nat.not_lt_zero _)
 | m+1,t,x,q,h,hl,hf=>by
  show lH f 0 k (loopK (lH f 0 k) m) _=_
  have ih:=fun t' q' h1 h2 h3=>nZ hn k m t' x q' h1 h2 h3
  generalize loopK (lH f 0 k) m=again at ih ⊢
  unfold lH
  cases t with
  | nil =>
   simp only [List.length_nil,List.reverse_nil,List.nil_append]
   rw [show decide (((0:Nat):Int)>0)=false by decide,gOF',bindN,gOF',bindN,gOF',bindN,gOF',bindN,gOF',bindN,Bool.false_and,selF']
   rfl
  | cons y t =>
   have hlen:((y :: t).reverse++x :: q).length=n:=by simp at hl ⊢;omega
   have hj:((y :: t).length:Int)>0:=by rw [List.length_cons];omega
   have e1:((y :: t).reverse++x :: q)[(y :: t).length]? = some x:=by
    rw [List.getElem?_append_right (by simp)];simp
   have e2:((y :: t).reverse++x :: q)[t.length]? = some y:=by
    rw [List.getElem?_append_left (by simp)];simp
   have w1:IntKind.i64.wrap (((y :: t).length:Int) - 1)=(t.length:Int):=by
    rw [List.length_cons,bY (by omega) (by simp at hl;omega)]
    omega
   have i1:ixO ((y :: t).reverse++x :: q).length ((y :: t).length:Int)=some (y :: t).length:=kv (by rw [hlen];simp at hl ⊢;omega)
   have i2:ixO ((y :: t).reverse++x :: q).length (t.length:Int)=some t.length:=kv (by rw [hlen];simp at hl;omega)
   simp only [w1,decide_eq_true hj,gOT',i1,i2,bindN,e1,e2,hf y (by simp),Bool.true_and,zE]
   by_cases hc:r x<r y
   ·rw [decide_eq_true hc,selT']
    simp only [List.length_set,i2,bindN]
    have e3:(((y :: t).reverse++x :: q).set (y :: t).length y).set t.length x=t.reverse++x :: (y :: q):=by
     have:=yu t.reverse y x q
     rw [List.length_reverse] at this
     rw [List.reverse_cons,List.append_assoc]
     exact this
    rw [e3,ih t (y :: q) (by simp at h;omega) (by simp at hl ⊢;omega) (fun z hz=>hf z (by simp [hz]))]
    conv=>rhs;unfold insR
    rw [if_pos hc]
   ·rw [decide_eq_false hc,selF']
    conv=>rhs;unfold insR
    rw [if_neg hc]
theorem yK {l:List Int} (hn:l.length≤1073741823) (hf:∀ x∈l,∀ y∈l,f x y=some (sg (r x) (r y))):insG f l 0 (l.length:Int)=some (isortF r (l.take 1) (l.drop 1)):=by
 unfold insG
 rw [jnN,show IntKind.i64.wrap (0+1)=((1:Nat):Int) by rw [bY] <;> omega]
 have key:∀ (m:Nat) (s t:List Int),t.length<m→s.length+t.length=l.length→(∀ x∈s++t,x∈l)→loopK (kx f 0 (l.length:Int) fun s1=>some s1) m ((s.length:Int),s++t)=some (isortF r s t):=by
  intro m
  induction m with
  | zero=>intro s t h;exact absurd h (Nat.not_lt_zero _)
  | succ m ih =>
   intro s t h hl hm
   show kx f 0 _ _ (loopK _ m) _=_
   unfold kx
   cases t with
   | nil =>
    rw [bI (by simp at hl;omega),selF',List.append_nil];rfl
   | cons x t =>
    rw [bK (by simp at hl;omega),selT',jnN,jnN]
    have:=nZ (f:=f) (r:=r) (n:=l.length) (by omega) (fun s8=>loopK (kx f 0 (l.length:Int) fun s1=>some s1) m (IntKind.i64.wrap ((s.length:Int)+1),s8)) N0 s.reverse x t (by rw [List.length_reverse];unfold N0;omega) (by rw [List.length_reverse];simp at hl;omega) (fun y hy=>hf x (hm x (by simp)) y (hm y (by simp at hy;simp [hy])))
    rw [List.length_reverse,List.reverse_reverse] at this
    refine this.trans ?_
    have e:insR r s.reverse x t=insR r s.reverse x []++t:=by
     have:=sK r s.reverse x [] t
     rwa [List.nil_append] at this
    have hlen:(insR r s.reverse x []).length=s.length+1:=by rw [pb];simp
    have hp:=lh r s.reverse x []
    rw [List.reverse_reverse,List.append_nil] at hp
    rw [e,bY (by omega) (by simp at hl;omega),show (s.length:Int)+1=((insR r s.reverse x []).length:Int) by rw [hlen];omega,ih _ t (by simp at h;omega) (by rw [hlen];simp at hl;omega) (fun y hy=>by
     rcases List.mem_append.1 hy with h1 | h1
     ·have:=hp.mem_iff.1 h1
      exact hm y (by simp at this ⊢;rcases this with h2 | h2 <;> simp [h2])
     ·exact hm y (by simp [h1]))]
    rfl
 cases l with
 | nil =>
  rw [cr]
  unfold kx
  simp [isortF]
 | cons x t =>
  have:=key N0 [x] t (by simp at hn;unfold N0;omega) (by simp;omega) (fun y hy=>by simpa using hy)
  exact this
theorem kw:∀ (t s:List Int),(isortF r s t).Perm (s++t)
 | [],s=>by rw [List.append_nil];exact List.Perm.refl _
 | x :: t,s=>by
  refine (kw t _).trans ?_
  have hp:=lh r s.reverse x []
  rw [List.reverse_reverse,List.append_nil] at hp
  refine (hp.append_right t).trans ?_
  exact (List.perm_middle (l₁:=s) (a:=x) (l₂:=t)).symm
def Lex (r:Int→Int) (p:Int→Nat) (x y:Int):Prop:=r x<r y∨(r x=r y∧p x<p y)
theorem Lex.trans {p:Int→Nat} {x y z:Int} (h:Lex r p x y) (h':Lex r p y z):Lex r p x z:=by unfold Lex at *;omega
end Go.E2
end
section
set_option maxRecDepth 100000
namespace Go.Proofs.YtfoigppmcelgfaaGreatDoor
open Go Go.E2
section
variable {t:Tree}
def ord (t:Tree):List Int:=pre t.Nodes t.Nodes.length t.Root
def fac (t:Tree) (st:List Styled):widgetryref29_Facts:=widgetryref29_Facts.mk t st (ord t) (seen t st)
theorem od (G:Gt t) {d:Nat} {x:Int} (h:Reach t.Nodes t.Root d x):cj t x=some (nd t.Nodes x,true):=by
 have hl:t.Nodes.length<N0:=by have:=G.len;unfold N0;omega
 obtain ⟨n,n1,_⟩:=jo G.shp.to0 h
 unfold cj
 rcases ls t x hl with ⟨i,m,e1,e2,e3⟩ | ⟨e1,e2⟩
 ·rw [e1,bindN,show decide ((i:Int)<0)=false from decide_eq_false (by omega),selF',pC t x hl];rfl
 ·rw [e2] at n1;cases n1
theorem rH (G:Gt t):cj t 0=some (zN,false):=by
 have hl:t.Nodes.length<N0:=by have:=G.len;unfold N0;omega
 unfold cj
 rcases ls t 0 hl with ⟨i,m,e1,e2,e3⟩ | ⟨e1,e2⟩
 ·rw [vq G.shp.to0] at e3;cases e3
 ·rw [e1,bindN];rfl
theorem z7 {l:List Int} (hl:l.length<N0) (v:Int):qh l v=some (decide (v∈l)):=by
 unfold qh
 rw [jnN]
 refine loopI (L:=l) (fun (_:Unit) i=>(i:Int)) (fun i _=>v∉l.take i) (fun o=>o=some (decide (v∈l))) hl (fun again _ i x hx hi hp=>?_) (fun again _ hp=>?_) () (by simp)
 ·unfold kZ
  rw [bK hi,selT',aD,hx,bindN]
  by_cases h:x=v
  ·rw [show (x==v)=true by simpa using h,selT',decide_eq_true (h ▸ List.mem_of_getElem? hx)]
   exact .inl rfl
  ·rw [show (x==v)=false by simpa using h,selF',aH hi hl]
   refine .inr ⟨(),?_,rfl⟩
   rw [List.take_add_one,hx]
   simp [hp]
   exact fun e=>h e.symm
 ·unfold kZ
  rw [List.take_length] at hp
  rw [bI (Nat.le_refl _),selF',decide_eq_false hp]
theorem zX {l:List Int} (hl:l.length<N0) (v:Int):jd l v=some (decide (v∈l)):=by
 unfold jd
 rw [z7 hl,bindN]
theorem sk (G:Gt t) (st:List Styled):(seen t st).length<N0:=by
 have:=mL G st
 have:=List.length_filter_le (fun x=>sty st x 21==0) (shown t st)
 unfold seen N0;omega
theorem n5 (G:Gt t) (st:List Styled) (k:List Int→Option (List Int)):∀ (d n:Nat) (x:Int) (acc:List Int),Reach t.Nodes t.Root d x→d+2≤n→acc.length+d≤1000 →
  loopK (aN (fac t st) k) n (pst acc (nd t.Nodes x) true)=k (pth t.Nodes d x++acc)
 | d,0,_,_,_,h,_=>by omega
 | d,n+1,x,acc,hr,h,hl=>by
  show aN (fac t st) k (loopK (aN (fac t st) k) n) _=_
  have hx:=G.nid hr
  have hd:=br G.shp.to0 hr
  have hg:=G.len
  cases d with
  | zero =>
   have hx0:=iH hr
   have hu:(nd t.Nodes x).Parent=0:=by rw [hx0];exact oB G.shp.to0
   have hstep:aN (fac t st) k (loopK (aN (fac t st) k) n) (pst acc (nd t.Nodes x) true)=loopK (aN (fac t st) k) n (pst ([x]++acc) zN false):=by
    generalize loopK (aN (fac t st) k) n=again
    unfold aN pst
    simp only
    rw [selT',hx,ck (by simp;omega),bindN,hu]
    show ((cj t 0).bind _:Option (List Int))=_
    rw [rH G,bindN]
   rw [hstep]
   obtain ⟨n,rfl⟩:∃ m,n=m+1:=⟨n - 1,by omega⟩
   show aN (fac t st) k (loopK (aN (fac t st) k) n) _=_
   generalize loopK (aN (fac t st) k) n=again
   unfold aN pst
   simp only
   rw [selF'];rfl
  | succ d =>
   have hu:=(fY G.shp.to0 hr).1
   have hstep:aN (fac t st) k (loopK (aN (fac t st) k) n) (pst acc (nd t.Nodes x) true)=loopK (aN (fac t st) k) n (pst ([x]++acc) (nd t.Nodes (up t.Nodes x)) true):=by
    generalize loopK (aN (fac t st) k) n=again
    unfold aN pst
    simp only
    rw [selT',hx,ck (by simp;omega),bindN]
    show ((cj t (up t.Nodes x)).bind _:Option (List Int))=_
    rw [od G hu,bindN]
   rw [hstep,n5 G st k d n _ _ hu (by omega) (by simp;omega)]
   show _=k ((pth t.Nodes d (up t.Nodes x)++[x])++acc)
   rw [List.append_assoc]
theorem fpath (G:Gt t) (st:List Styled) {d:Nat} {x:Int} (h:Reach t.Nodes t.Root d x):cM (fac t st) x=some (pth t.Nodes d x):=by
 have hd:=br G.shp.to0 h
 have hg:=G.len
 have ho:=fM G
 unfold cM
 have:(((fac t st).Order.length:Int)==0)=false:=by
  rw [beq_eq_false_iff_ne]
  show ((ord t).length:Int)≠0
  unfold ord;omega
 rw [this,selF',jnN]
 show ((cj t x).bind _:Option (List Int))=_
 rw [od G h,bindN]
 refine Eq.trans (n5 G st _ d N0 x [] h (by unfold N0;omega) (by show 0+_≤_;omega)) ?_
 rw [List.append_nil]
theorem fdis (G:Gt t) (st:List Styled) {d:Nat} {x:Int} (h:Reach t.Nodes t.Root d x):bE (fac t st) x=some (disP t d x):=by
 have hd:=br G.shp.to0 h
 have hg:=G.len
 unfold bE
 rw [fpath G st h,bindN,jnN]
 have hall:∀ y∈pth t.Nodes d x,∃ e,Reach t.Nodes t.Root e y:=fun y hy=>by
  obtain ⟨i,hi⟩:=List.getElem?_of_mem hy
  exact ⟨i,(u9 G.shp.to0 h i y hi).2.1⟩
 have hlen:(pth t.Nodes d x).length<N0:=by rw [kl];unfold N0;omega
 unfold disP
 generalize pth t.Nodes d x=p at hall hlen
 refine loopI (L:=p) (fun (_:Unit) i=>(i:Int)) (fun i _=>(p.take i).any (fun z=>flA disA (nd t.Nodes z))=false) (fun o=>o=some (p.any fun z=>flA disA (nd t.Nodes z))) hlen (fun again _ i y hy hi hp=>?_) (fun again _ hp=>?_) () (by simp)
 ·unfold cF
  obtain ⟨e,he⟩:=hall y (List.mem_of_getElem? hy)
  have hstep:(idxO p (i:Int)).bind (fun x7=>(cj (fac t st).T x7).bind fun x8=>(dJ x8.1.Attrs (ByteArray.mk #[100,105,115,97,98,108,101,100])).bind fun x9=>sel x9 (some true) (again (IntKind.i64.wrap ((i:Int)+1))))=sel (flA disA (nd t.Nodes y)) (some true) (again ((i+1:Nat):Int)):=by
   rw [aD,hy,bindN,aH hi hlen]
   show ((cj t y).bind _:Option Bool)=_
   rw [od G he,bindN]
   show ((dJ (nd t.Nodes y).Attrs disA).bind _:Option Bool)=_
   rw [vI disA (ie G y),bindN]
  rw [bK hi,selT',hstep]
  cases hf:flA disA (nd t.Nodes y) with
  | true =>
   rw [selT']
   refine .inl ?_
   have:(p.any fun z=>flA disA (nd t.Nodes z))=true:=List.any_eq_true.2 ⟨y,List.mem_of_getElem? hy,hf⟩
   rw [this]
  | false =>
   rw [selF']
   refine .inr ⟨(),?_,rfl⟩
   rw [List.take_add_one,hy,List.any_append,hp]
   simp [hf]
 ·unfold cF
  rw [List.take_length] at hp
  rw [bI (Nat.le_refl _),selF',hp]
def dlg (t:Tree) (st:List Styled) (x:Int):Bool:=((nd t.Nodes x).Kind==12)&&decide (x∈seen t st)
def scp (t:Tree) (st:List Styled):Int:=(((ord t).filter (dlg t st)).getLast?).getD t.Root
theorem sD (G:Gt t):(ord t)[0]? = some t.Root:=by
 have h:=G.shp.to0
 have hd:=br h Reach.z
 unfold ord
 obtain ⟨f,hf⟩:∃ f,t.Nodes.length=f+1:=⟨t.Nodes.length - 1,by omega⟩
 rw [hf];rfl
theorem rscope (G:Gt t) (st:List Styled):fk (fac t st)=some (scp t st):=by
 have ho:=fM G
 unfold fk
 have:(((fac t st).Order.length:Int)==0)=false:=by
  rw [beq_eq_false_iff_ne]
  show ((ord t).length:Int)≠0
  unfold ord;omega
 rw [this,selF']
 show ((idxO (ord t) ((0:Nat):Int)).bind _:Option Int)=_
 rw [aD,sD G,bindN,jnN]
 refine loopI (L:=ord t) (fun (a:Int) i=>(a,(i:Int))) (fun i a=>a=((((ord t).take i).filter (dlg t st)).getLast?).getD t.Root) (fun o=>o=some (scp t st)) (by unfold ord N0;omega) (fun again a i x hx hi ha=>.inr ?_) (fun again a ha=>?_) t.Root rfl
 ·unfold fZ
  obtain ⟨d,hd⟩:=el G (List.mem_of_getElem? hx)
  have hi':i<(fac t st).Order.length:=hi
  simp only
  rw [bK hi',selT',jnN]
  show ∃ s',_∧((idxO (ord t) (i:Int)).bind _:Option Int)=_
  rw [aD,hx,bindN]
  show ∃ s',_∧((cj t x).bind _:Option Int)=_
  rw [od G hd,bindN]
  have htk:(ord t).take (i+1)=(ord t).take i++[x]:=by rw [List.take_add_one,hx];rfl
  simp only
  rw [G.nid hd,aH hi (by unfold ord N0;omega)]
  cases hk:(nd t.Nodes x).Kind==12 with
  | false =>
   show ∃ s',_∧again (a,((i+1:Nat):Int))=_
   refine ⟨a,?_,rfl⟩
   rw [htk,List.filter_append,ha]
   have:[x].filter (dlg t st)=[]:=by simp [dlg,hk]
   rw [this,List.append_nil]
  | true =>
   show ∃ s',_∧((jd (seen t st) x).bind fun x12=>sel (true&&x12) _ _:Option Int)=_
   rw [zX (sk G st),bindN,Bool.true_and]
   by_cases hin:x∈seen t st
   ·rw [decide_eq_true hin,selT']
    refine ⟨x,?_,rfl⟩
    rw [htk,List.filter_append]
    have:[x].filter (dlg t st)=[x]:=by simp [dlg,hk,hin]
    rw [this];simp
   ·rw [decide_eq_false hin,selF']
    refine ⟨a,?_,rfl⟩
    rw [htk,List.filter_append,ha]
    have:[x].filter (dlg t st)=[]:=by simp [dlg,hin]
    rw [this,List.append_nil]
 ·unfold fZ
  rw [List.take_length] at ha
  have:(fac t st).Order.length≤(ord t).length:=Nat.le_refl _
  simp only
  rw [bI this,selF',ha]
  rfl
theorem pscope (G:Gt t) {st:List Styled} {S:focus_sight} (h:SI t st S):cN S=some (scp t st):=by
 have ho:=fM G
 have hord:S.order=ord t:=h.order
 unfold cN
 rw [jnN,jnN,hord]
 generalize hk:(fun (_:Unit)=>sel (((ord t).length:Int)==0) (some 0) ((idxO (ord t) 0).bind fun x4=>some x4))=k
 have hk0:k ()=some t.Root:=by
  rw [← hk]
  have e0:(((ord t).length:Int)==0)=false:=by
   rw [beq_eq_false_iff_ne];unfold ord;omega
  show (sel (((ord t).length:Int)==0) _ _:Option Int)=_
  rw [e0,selF']
  show ((idxO (ord t) ((0:Nat):Int)).bind _:Option Int)=_
  rw [aD,sD G,bindN]
 have key:∀ (n i:Nat),i<n→i≤(ord t).length→((ord t).drop i).filter (dlg t st)=[]→loopK (bA S k) n ((i:Int) - 1)=some (scp t st):=by
  intro n
  induction n with
  | zero=>intro i hi;exact absurd hi (Nat.not_lt_zero _)
  | succ n ih =>
   intro i hi hl hd
   show bA S k (loopK (bA S k) n) _=_
   generalize loopK (bA S k) n=again at ih ⊢
   cases i with
   | zero =>
    rw [List.drop_zero] at hd
    unfold bA
    rw [decide_eq_false (show ¬ (((0:Nat):Int) - 1≥0) by omega),selF',hk0]
    unfold scp
    rw [hd];rfl
   | succ i =>
    have hx:(ord t)[i]? = some (ord t)[i]:=List.getElem?_eq_getElem (by omega)
    generalize (ord t)[i]=x at hx
    obtain ⟨d,hr⟩:=el G (List.mem_of_getElem? hx)
    have hwr:IntKind.i64.wrap ((i:Int) - 1)=(i:Int) - 1:=bY (by omega) (by have:=ho.2;unfold ord at hl;omega)
    have hdr:=bB hx
    have hstep:bA S k again (((i+1:Nat):Int) - 1)=sel (dlg t st x) (some x) (again ((i:Int) - 1)):=by
     unfold bA
     rw [show (((i+1:Nat):Int) - 1)=(i:Int) by omega,decide_eq_true (show (i:Int)≥0 by omega),selT',hord,aD,hx,bindN,h.nodes,fD,bindN,hwr]
     unfold dlg
     simp only
     cases hk:(nd t.Nodes x).Kind==12 with
     | false=>rfl
     | true =>
      show ((mgetO S.visible x false).bind _:Option Int)=_
      rw [f8,bindN,h.visible x]
    rw [hstep]
    cases hc:dlg t st x with
    | true =>
     rw [selT']
     unfold scp
     have e1:(ord t).filter (dlg t st)=((ord t).take i).filter (dlg t st)++[x]:=by
      conv=>lhs;rw [← List.take_append_drop i (ord t),hdr,List.filter_append,List.filter_cons,hd,hc]
      rfl
     rw [e1];simp
    | false =>
     rw [selF']
     refine ih i (by omega) (by omega) ?_
     rw [hdr,List.filter_cons,hc,hd]
     rfl
 have:=key N0 (ord t).length (by unfold ord N0;omega) (Nat.le_refl _) (by rw [List.drop_length];rfl)
 rw [bY (by omega) (by unfold ord;omega)]
 exact this
theorem uP (G:Gt t) (st:List Styled):scp t st∈ord t:=by
 unfold scp
 cases h:((ord t).filter (dlg t st)).getLast? with
 | none=>exact ki G .z
 | some x=>exact (List.mem_filter.1 (List.mem_of_getLast? h)).1
end
end Go.Proofs.YtfoigppmcelgfaaGreatDoor
end
section
set_option maxRecDepth 100000
namespace Go.Proofs.YtfoigppmcelgfaaGreatDoor
open Go Go.E2
def evP (a:Action):Bool:=a.Event.toList==(ByteArray.mk #[112,114,101,115,115]).toList
def prB (n:Node):Bool:=(((n.Kind==3)||(n.Kind==6))||(n.Kind==7))||(((n.Kind != 4)&&(n.Kind != 13))&&n.Actions.any evP)
theorem yz {l:List Action} (hl:l.length<N0):bw l=some (l.any evP):=by
 unfold bw di
 rw [jnN]
 refine loopI (L:=l) (fun (_:Unit) i=>(i:Int)) (fun i _=>(l.take i).any evP=false) (fun o=>(o.bind fun x1=>some (decide (x1≥0)))=some (l.any evP)) hl (fun again _ i a ha hi hp=>?_) (fun again _ hp=>?_) () (by simp)
 ·unfold cE fE
  rw [bK hi,selT',aD,ha,bindN,bindN,aH hi hl]
  rw [show (a.Event.toList==(ByteArray.mk #[112,114,101,115,115]).toList)=evP a from rfl]
  cases he:evP a with
  | true =>
   rw [selT',bindN,decide_eq_true (show (i:Int)≥0 by omega)]
   refine .inl ?_
   rw [show l.any evP=true from List.any_eq_true.2 ⟨a,List.mem_of_getElem? ha,he⟩]
  | false =>
   refine .inr ⟨(),?_,selF' _ _⟩
   rw [List.take_add_one,ha,List.any_append,hp]
   simp [he]
 ·unfold cE
  rw [List.take_length] at hp
  rw [bI (Nat.le_refl _),selF',bindN,hp]
  rfl
theorem zP {n:Node} (hl:n.Actions.length<N0):jN n (ByteArray.mk #[112,114,101,115,115])=some (n.Actions.any evP):=by
 unfold jN jM
 rw [jnN]
 refine loopI (L:=n.Actions) (fun (_:Unit) i=>(i:Int)) (fun i _=>(n.Actions.take i).any evP=false) (fun o=>(o.bind fun x1:Action×Bool=>some x1.2)=some (n.Actions.any evP)) hl (fun again _ i a ha hi hp=>?_) (fun again _ hp=>?_) () (by simp)
 ·unfold f5
  rw [bK hi,selT',aD,ha,bindN,aH hi hl]
  rw [show (a.Event.toList==(ByteArray.mk #[112,114,101,115,115]).toList)=evP a from rfl]
  cases he:evP a with
  | true =>
   rw [selT',bindN]
   refine .inl ?_
   rw [show n.Actions.any evP=true from List.any_eq_true.2 ⟨a,List.mem_of_getElem? ha,he⟩]
   rfl
  | false =>
   refine .inr ⟨(),?_,selF' _ _⟩
   rw [List.take_add_one,ha,List.any_append,hp]
   simp [he]
 ·unfold f5
  rw [List.take_length] at hp
  rw [bI (Nat.le_refl _),selF',bindN,hp]
theorem rl {n:Node} (hl:n.Actions.length<N0):eE n=some (prB n):=by
 unfold eE prB
 rw [jnN]
 have e:∀ b:Bool,sel b (some true) ((gO (!((n.Kind==4)||(n.Kind==13))) (bw n.Actions)).bind fun x4=>some ((!((n.Kind==4)||(n.Kind==13)))&&x4))=some (b||(((n.Kind != 4)&&(n.Kind != 13))&&n.Actions.any evP)):=fun b=>by
  cases b with
  | true=>rfl
  | false =>
   rw [selF',Bool.false_or]
   have hb:(!((n.Kind==4)||(n.Kind==13)))=((n.Kind != 4)&&(n.Kind != 13)):=by
    rw [Bool.not_or];rfl
   rw [hb]
   cases hc:(n.Kind != 4)&&(n.Kind != 13) with
   | false=>rfl
   | true =>
    show ((bw n.Actions).bind _:Option Bool)=_
    rw [yz hl,bindN]
 dsimp only
 rw [e,e,e]
 cases h1:n.Kind==3 with
 | true=>rw [selT'];rfl
 | false =>
  rw [selF']
  cases h2:n.Kind==6 with
  | true=>rw [selT'];rfl
  | false=>rw [selF'];rfl
theorem rk {n:Node} (hl:n.Actions.length<N0):dG n=some (prB n):=by
 unfold dG prB
 cases h1:((n.Kind==3)||(n.Kind==6))||(n.Kind==7) with
 | true=>rfl
 | false =>
  rw [selF',Bool.false_or]
  cases hc:(n.Kind != 4)&&(n.Kind != 13) with
  | false=>rfl
  | true =>
   show ((jN n _).bind _:Option Bool)=_
   rw [zP hl,bindN]
section
variable {t:Tree}
theorem vn (G:Gt t) (x:Int):(nd t.Nodes x).Actions.length<N0:=by
 cases hl:look t.Nodes x with
 | none=>rw [kn hl];show (0:Nat)<N0;unfold N0;omega
 | some n =>
  have:=(G.tb n (dj hl).1).2.1.1
  rw [eZ hl];unfold N0;omega
open Classical in
noncomputable def dep (t:Tree) (x:Int):Nat:=if h:∃ d,Reach t.Nodes t.Root d x then Classical.choose h else 0
theorem tD (G:Gt t) {d:Nat} {x:Int} (h:Reach t.Nodes t.Root d x):dep t x=d:=by
 unfold dep
 rw [dif_pos ⟨d,h⟩]
 exact df G.shp.to0 (Classical.choose_spec (⟨d,h⟩:∃ d,Reach t.Nodes t.Root d x)) h
def focA:Str:=ByteArray.mk #[102,111,99,117,115,97,98,108,101]
def wnt (n:Node):Bool:=((prB n||(n.Kind==4))||(n.Kind==13))||flA focA n
noncomputable def focX (t:Tree) (st:List Styled) (x:Int):Bool:=(wnt (nd t.Nodes x)&&decide (x∈seen t st))&&!disP t (dep t x) x
noncomputable def wit (t:Tree) (st:List Styled) (x:Int):Bool:=decide (scp t st∈pth t.Nodes (dep t x) x)
noncomputable def cnd (t:Tree) (st:List Styled):List Int:=(ord t).filter fun x=>focX t st x&&wit t st x
theorem rF (G:Gt t) {st:List Styled} {S:focus_sight} (h:SI t st S) {d:Nat} {x:Int} (hd:Reach t.Nodes t.Root d x):cH S x=some (focX t st x):=by
 unfold cH focX
 rw [h.nodes,fD,bindN,f8,bindN,h.visible x,tD G hd]
 simp only
 by_cases hv:x∈seen t st
 ·rw [decide_eq_true hv]
  show ((mgetO S.disabled x false).bind _:Option Bool)=_
  rw [f8,bindN,h.disabled d x hd]
  cases hb:disP t d x with
  | true =>
   show some false=_
   rw [Bool.not_true,Bool.and_false]
  | false =>
   show ((eE (nd t.Nodes x)).bind _:Option Bool)=_
   rw [rl (vn G x),bindN]
   unfold wnt
   rw [Bool.and_true,Bool.not_false,Bool.and_true]
   cases hc:(prB (nd t.Nodes x)||((nd t.Nodes x).Kind==4))||((nd t.Nodes x).Kind==13) with
   | true=>rfl
   | false =>
    show ((gr (nd t.Nodes x).Attrs focA).bind _:Option Bool)=_
    rw [vH focA (ie G x),bindN]
 ·rw [decide_eq_false hv,Bool.and_false,Bool.false_and]
  rfl
theorem pY (G:Gt t) (st:List Styled):∃ d,Reach t.Nodes t.Root d (scp t st):=el G (uP G st)
theorem wD (G:Gt t) (st:List Styled) {d:Nat} {x:Int} (hd:Reach t.Nodes t.Root d x):eu (fac t st) x=some (wit t st x):=by
 obtain ⟨e,he⟩:=pY G st
 have hp:=kW G.shp.to0 he
 have hdp:=br G.shp.to0 hd
 have hg:=G.len
 unfold eu wit
 rw [rscope G st,bindN,show ((scp t st) != 0)=true by simp;omega,tD G hd]
 show ((cM (fac t st) x).bind _:Option Bool)=_
 rw [fpath G st hd,bindN]
 show ((jd (pth t.Nodes d x) (scp t st)).bind _:Option Bool)=_
 rw [zX (by rw [kl];unfold N0;omega),bindN,Bool.true_and]
theorem zI (G:Gt t) (st:List Styled) {d:Nat} {x:Int} (hd:Reach t.Nodes t.Root d x) (A B:Option (List Int)) :
  ((dG (nd t.Nodes x)).bind fun x10=>(gO (!((x10||((nd t.Nodes x).Kind==4))||((nd t.Nodes x).Kind==13))) (dJ (nd t.Nodes x).Attrs (ByteArray.mk #[102,111,99,117,115,97,98,108,101]))).bind fun x11=>(gO (((x10||((nd t.Nodes x).Kind==4))||((nd t.Nodes x).Kind==13))||x11) (jd (fac t st).Seen x)).bind fun x12=>(gO ((((x10||((nd t.Nodes x).Kind==4))||((nd t.Nodes x).Kind==13))||x11)&&x12) (bE (fac t st) x)).bind fun x13=>(gO (((((x10||((nd t.Nodes x).Kind==4))||((nd t.Nodes x).Kind==13))||x11)&&x12)&&(!x13)) (eu (fac t st) x)).bind fun x14=>sel ((((((x10||((nd t.Nodes x).Kind==4))||((nd t.Nodes x).Kind==13))||x11)&&x12)&&(!x13))&&x14) A B)=sel (focX t st x&&wit t st x) A B:=by
 rw [rk (vn G x),bindN]
 have hW:∀ (w:Bool),w=wnt (nd t.Nodes x)→((gO w (jd (fac t st).Seen x)).bind fun x12=>(gO (w&&x12) (bE (fac t st) x)).bind fun x13=>(gO ((w&&x12)&&(!x13)) (eu (fac t st) x)).bind fun x14=>sel (((w&&x12)&&(!x13))&&x14) A B)=sel (focX t st x&&wit t st x) A B:=fun w hw=>by
  unfold focX
  rw [← hw,tD G hd]
  cases w with
  | false=>rfl
  | true =>
   show ((jd (seen t st) x).bind _:Option (List Int))=_
   rw [zX (sk G st),bindN]
   by_cases hv:x∈seen t st
   ·rw [decide_eq_true hv]
    show ((bE (fac t st) x).bind _:Option (List Int))=_
    rw [fdis G st hd,bindN]
    cases hb:disP t d x with
    | true=>rfl
    | false =>
     show ((eu (fac t st) x).bind _:Option (List Int))=_
     rw [wD G st hd,bindN]
   ·rw [decide_eq_false hv];rfl
 unfold wnt at hW
 cases hc:(prB (nd t.Nodes x)||((nd t.Nodes x).Kind==4))||((nd t.Nodes x).Kind==13) with
 | true=>exact hW true (by rw [hc];rfl)
 | false =>
  show ((dJ (nd t.Nodes x).Attrs focA).bind _:Option (List Int))=_
  rw [vI focA (ie G x),bindN]
  exact hW (false||flA focA (nd t.Nodes x)) (by rw [hc])
theorem mA (i:Nat) (x:Int) (p:Int→Bool) {l:List Int} (hx:l[i]? = some x):(l.take (i+1)).filter p=(l.take i).filter p++if p x=true then [x] else []:=by
 have htk:l.take (i+1)=l.take i++[x]:=by rw [List.take_add_one,hx];rfl
 rw [htk,List.filter_append]
 by_cases h:p x=true
 ·rw [if_pos h];simp [h]
 ·rw [if_neg h];simp [h]
theorem wZ (G:Gt t) (st:List Styled):gb (fac t st)=some (cnd t st):=by
 have ho:=fM G
 unfold gb
 rw [jnN]
 refine loopI (L:=ord t) (fun (a:List Int) i=>(a,(i:Int))) (fun i a=>a=((ord t).take i).filter fun x=>focX t st x&&wit t st x) (fun o=>o=some (cnd t st)) (by unfold ord N0;omega) (fun again a i x hx hi ha=>.inr ?_) (fun again a ha=>?_) [] (by simp)
 ·obtain ⟨d,hd⟩:=el G (List.mem_of_getElem? hx)
  have hal:a.length≤1000:=by
   rw [ha]
   have:=List.length_filter_le (fun x=>focX t st x&&wit t st x) ((ord t).take i)
   have h3:((ord t).take i).length≤(ord t).length:=by rw [List.length_take];omega
   have h4:(ord t).length≤400:=ho.2
   omega
  have hi':i<(fac t st).Order.length:=hi
  have hstep:eS (fac t st) (fun s1=>some s1) again (a,(i:Int))=sel (focX t st x&&wit t st x) (again (a++[x],((i+1:Nat):Int))) (again (a,((i+1:Nat):Int))):=by
   unfold eS
   simp only
   rw [bK hi',selT',jnN]
   show ((idxO (ord t) (i:Int)).bind _:Option (List Int))=_
   rw [aD,hx,bindN]
   show ((cj t x).bind _:Option (List Int))=_
   rw [od G hd,bindN]
   simp only
   rw [G.nid hd,aH hi (by unfold ord N0;omega),ck (by simp;omega),bindN]
   exact zI G st hd _ _
  rw [hstep]
  cases hc:focX t st x&&wit t st x with
  | true =>
   rw [selT']
   refine ⟨_,?_,rfl⟩
   rw [mA i x _ hx,if_pos hc,ha]
  | false =>
   rw [selF']
   refine ⟨_,?_,rfl⟩
   rw [mA i x _ hx,if_neg (by rw [hc];simp),List.append_nil,ha]
 ·unfold eS
  rw [List.take_length] at ha
  have:(fac t st).Order.length≤(ord t).length:=Nat.le_refl _
  simp only
  rw [bI this,selF',ha]
  rfl
theorem wz (n:Nat) (S:focus_sight) (x:Int):cO (n+1) S x=dd (cO n) S x:=rfl
theorem tJ (G:Gt t) {st:List Styled} {S:focus_sight} (h:SI t st S):∀ (f n d:Nat) (x:Int),Reach t.Nodes t.Root d x→t.Nodes.length≤f+d→f≤n→cO n S x=some (pre t.Nodes f x)
 | 0,_,d,x,hr,h1,_=>by have:=br G.shp.to0 hr;omega
 | _+1,0,_,_,_,_,h2=>absurd h2 (by omega)
 | f+1,n+1,d,x,hr,h1,h2=>by
  have hkl:(nd t.Nodes x).Kids.length<N0:=by
   have:=il G.shp.to0 x
   have:=G.len
   unfold N0;omega
  have hpl:=gP G.shp.to0 (f:=f+1) hr
  have hg:=G.len
  have e1:pre t.Nodes (f+1) x=x :: (nd t.Nodes x).Kids.flatMap (pre t.Nodes f):=rfl
  rw [e1,List.length_cons] at hpl
  rw [wz,e1]
  unfold dd
  rw [jnN,h.nodes,fD,bindN]
  refine loopI (L:=(nd t.Nodes x).Kids) (fun (a:List Int) i=>(a,(i:Int))) (fun i a=>a=x :: ((nd t.Nodes x).Kids.take i).flatMap (pre t.Nodes f)) (fun o=>o=some (x :: (nd t.Nodes x).Kids.flatMap (pre t.Nodes f))) hkl (fun again a i k hk hi ha=>.inr ?_) (fun again a ha=>?_) [x] (by simp)
  ·unfold dL
   have hkm:k∈(nd t.Nodes x).Kids:=List.mem_of_getElem? hk
   have htk:(nd t.Nodes x).Kids.take (i+1)=(nd t.Nodes x).Kids.take i++[k]:=by rw [List.take_add_one,hk];rfl
   have hsum:=fa (pre t.Nodes f) (nd t.Nodes x).Kids (i+1)
   rw [htk,List.flatMap_append,List.length_append] at hsum
   have hkk:[k].flatMap (pre t.Nodes f)=pre t.Nodes f k:=by simp
   rw [hkk] at hsum
   simp only
   rw [bK hi,selT',aD,hk,bindN,tJ G h f n (d+1) k (.s hr hkm) (by omega) (by omega),bindN,ck (by rw [ha,List.length_cons];omega),bindN,aH hi hkl]
   refine ⟨_,?_,rfl⟩
   rw [ha,htk,List.flatMap_append,hkk]
   rfl
  ·unfold dL
   simp only
   rw [bI (Nat.le_refl _),selF',ha,List.take_length]
theorem zK (G:Gt t) {st:List Styled} (hst:st.length<N0):db t st=some (cnd t st):=by
 obtain ⟨S,s1,s2⟩:=vr G hst
 have ho:=fM G
 obtain ⟨e,he⟩:=pY G st
 have hg:=G.len
 have hed:=br G.shp.to0 he
 unfold db
 have hne:((S.order.length:Int)==0)=false:=by
  rw [beq_eq_false_iff_ne,s2.order];omega
 rw [s1,bindN,hne,selF',jnN,pscope G s2,bindN,tJ G s2 (t.Nodes.length - e) N0 e (scp t st) he (by omega) (by unfold N0;omega),bindN]
 have hu:=under G.shp.to0 (p:=wit t st) he (fun y d hy=>by unfold wit;rw [tD G hy];simp) (uP G st)
 have hc:cnd t st=(pre t.Nodes (t.Nodes.length - e) (scp t st)).filter (focX t st):=by
  rw [← hu,List.filter_filter]
  rfl
 rw [hc]
 have hpl:=gP G.shp.to0 (f:=t.Nodes.length - e) he
 have hall:∀ y∈pre t.Nodes (t.Nodes.length - e) (scp t st),∃ d,Reach t.Nodes t.Root d y:=fun y hy=>by
  obtain ⟨i,i1,_⟩:=ix G.shp.to0 _ he hy
  exact ⟨_,i1⟩
 generalize pre t.Nodes (t.Nodes.length - e) (scp t st)=P at hpl hall
 refine loopI (L:=P) (fun (a:List Int) i=>(a,(i:Int))) (fun i a=>a=(P.take i).filter (focX t st)) (fun o=>o=some (P.filter (focX t st))) (by unfold N0;omega) (fun again a i x hx hi ha=>.inr ?_) (fun again a ha=>?_) [] (by simp)
 ·obtain ⟨d,hd⟩:=hall x (List.mem_of_getElem? hx)
  have hal:a.length≤1000:=by
   rw [ha]
   have:=List.length_filter_le (focX t st) (P.take i)
   have h3:(P.take i).length≤P.length:=by rw [List.length_take];omega
   omega
  unfold d8
  simp only
  rw [bK hi,selT',jnN,aD,hx,bindN,rF G s2 hd,bindN,aH hi (by unfold N0;omega)]
  cases hc:focX t st x with
  | true =>
   rw [selT',ck (by simp;omega),bindN]
   refine ⟨_,?_,rfl⟩
   rw [mA i x _ hx,if_pos hc,ha]
  | false =>
   rw [selF']
   refine ⟨_,?_,rfl⟩
   rw [mA i x _ hx,if_neg (by rw [hc];simp),List.append_nil,ha]
 ·unfold d8
  simp only
  rw [bI (Nat.le_refl _),selF',ha,List.take_length]
end
end Go.Proofs.YtfoigppmcelgfaaGreatDoor
end
section
namespace Go.E2
open Go
def pc {α:Type} (f:α→Option Bool) (p_s:List α) (k2:Unit→Option (Int×(List α))) (again4:Int→Option (Int×(List α))) (s3:Int):Option (Int×(List α)):=sel (decide (s3<(p_s.length:Int))) ((ixO p_s.length s3).bind fun x6=>(p_s[x6]?).bind fun x7=>(f x7).bind fun x8=>sel x8 (some (s3,p_s)) (again4 (IntKind.i64.wrap (s3+1)))) (k2 ())
def idxG {α:Type} (f:α→Option Bool) (p_s:List α):Option (Int×(List α)):=jn (fun (_s1:Unit)=>some ((-1),p_s)) fun k2=>loopK (pc f p_s k2) N0 0
def rS {α:Type} (f:α→Option Bool) (k4:(Int×(List α))→Option (List α)) (again8:(Int×Int×(List α))→Option (List α)) (s7:Int×Int×(List α)):Option (List α):=sel (decide (s7.2.1<(s7.2.2.length:Int))) (jn (fun (s10:Int×(List α))=>again8 (s10.1,IntKind.i64.wrap (s7.2.1+1),s10.2)) fun k11=>(ixO s7.2.2.length s7.2.1).bind fun x12=>(s7.2.2[x12]?).bind fun x13=>(f x13).bind fun x14=>sel (!x14) ((ixO s7.2.2.length s7.1).bind fun x16=>k11 (IntKind.i64.wrap (s7.1+1),List.set s7.2.2 x16 x13)) (k11 (s7.1,s7.2.2))) (k4 (s7.1,s7.2.2))
def delG {α:Type} (z:α) (f:α→Option Bool) (p_s:List α):Option (List α):=(idxG f p_s).bind fun x1=>sel (x1.1==(-1)) (some x1.2) (jn (fun (s3:Int×(List α))=>(ixO (s3.2.length+1) s3.1).bind fun x5=>(ixO ((List.take x5 s3.2++List.replicate (s3.2.length - x5) z).length+1) s3.1).bind fun x6=>some (List.take x6 (List.take x5 s3.2++List.replicate (s3.2.length - x5) z))) fun k4=>loopK (rS f k4) N0 (x1.1,IntKind.i64.wrap (x1.1+1),x1.2))
theorem yN {α:Type} {f:α→Option Bool} {l:List α} (p:α→Bool) (hf:∀ x∈l,f x=some (p x)) (hn:l.length≤1073741824) :
  (idxG f l=some (-1,l)∧∀ x∈l,p x=false)∨∃ i,i<l.length∧idxG f l=some ((i:Int),l)∧(∀ j,j<i→∀ x,l[j]? = some x→p x=false)∧∃ x,l[i]? = some x∧p x=true:=by
 have hN:l.length<N0:=by unfold N0;omega
 have key:=loopI (L:=l) (B:=pc f l (fun _=>some ((-1),l))) (fun (_:Unit) i=>(i:Int)) (fun i _=>∀ j,j<i→∀ x,l[j]? = some x→p x=false)
  (fun r=>(r=some (-1,l)∧∀ x∈l,p x=false)∨∃ i,i<l.length∧r=some ((i:Int),l)∧(∀ j,j<i→∀ x,l[j]? = some x→p x=false)∧∃ x,l[i]? = some x∧p x=true) hN
  (fun again _ i x hx hi hp=>by
   unfold pc
   rw [bK hi,selT',kv hi,bindN,hx,bindN,hf x (List.mem_of_getElem? hx),bindN]
   cases hpx:p x with
   | true=>exact .inl (.inr ⟨i,hi,rfl,hp,x,hx,hpx⟩)
   | false =>
    refine .inr ⟨(),fun j hj y hy=>?_,?_⟩
    ·rcases Nat.lt_or_ge j i with h | h
     ·exact hp j h y hy
     ·obtain rfl:j=i:=by omega
      rw [hx] at hy;cases hy;exact hpx
    ·rw [selF',aH hi hN])
  (fun again _ hp=>by
   unfold pc
   rw [bI (Nat.le_refl _),selF']
   refine .inl ⟨rfl,fun x hx=>?_⟩
   obtain ⟨j,hj,e⟩:=List.getElem_of_mem hx
   exact hp j hj x (by rw [List.getElem?_eq_getElem hj,e])) () (fun j hj=>absurd hj (Nat.not_lt_zero _))
 exact key
theorem nc {α:Type} {q:α→Bool}:∀ {l:List α},(∀ x∈l,q x=true)→l.filter q=l:=fun h=>List.filter_eq_self.2 h
theorem zn {α:Type} {f:α→Option Bool} {l:List α} (z:α) (p:α→Bool) (hf:∀ x∈l,f x=some (p x)) (hn:l.length≤1073741824):delG z f l=some (l.filter fun x=>!p x):=by
 unfold delG
 have hN:l.length<N0:=by unfold N0;omega
 rcases yN p hf hn with ⟨e,ha⟩ | ⟨i0,hi0,e,hb,x0,hx0,hp0⟩
 ·rw [e,bindN,show (((-1:Int),l).1==(-1))=true from rfl,selT',nc (fun x hx=>by rw [ha x hx];rfl)]
 ·rw [e,bindN,show ((((i0:Int),l).1)==(-1))=false from beq_eq_false_iff_ne.2 (by show (i0:Int) ≠ -1;omega),selF',jnN]
  rw [show ((i0:Int),l).1=(i0:Int) from rfl,aH hi0 hN]
  refine loopNF (n:=l.length) (fun (s:Nat×List α) j=>((s.1:Int),(j:Int),s.2)) (fun j s=>s.2.length=l.length∧s.1<j∧s.2.take s.1=(l.take j).filter (fun x=>!p x)∧s.2.drop j=l.drop j) (fun r=>r=some (l.filter fun x=>!p x))
   (fun again s j hj hp=>?_) (fun again s hp=>?_) N0 (i0+1) (i0,l) (by omega) (by unfold N0;omega) ⟨rfl,Nat.lt_succ_self _,?_,rfl⟩
  ·obtain ⟨h1,h2,h3,h4⟩:=hp
   have hx:s.2[j]? = some l[j]:=by
    have:=congrArg (fun l=>l[0]?) h4
    simp only [List.getElem?_drop,Nat.add_zero] at this
    rw [this,List.getElem?_eq_getElem hj]
   have hm:f l[j]=some (p l[j]):=hf _ (List.getElem_mem hj)
   unfold rS
   rw [bK (show j<s.2.length by omega),selT',jnN,kv (show j<s.2.length by omega),bindN,hx,bindN,hm,bindN]
   have ht:(l.take (j+1)).filter (fun x=>!p x)=(l.take j).filter (fun x=>!p x)++[l[j]].filter (fun x=>!p x):=by
    rw [bR (List.getElem?_eq_getElem hj),List.filter_append]
   have hd:l.drop (j+1)=s.2.drop (j+1):=by
    have:=congrArg (List.drop 1) h4
    rw [List.drop_drop,List.drop_drop] at this
    exact this.symm
   cases hpx:p l[j] with
   | true =>
    refine .inr ⟨(s.1,s.2),⟨h1,by show s.1<j+1;omega,?_,hd.symm⟩,?_⟩
    ·rw [ht,h3];simp [hpx]
    ·rw [show (!true)=false from rfl,selF',aH hj hN]
   | false =>
    refine .inr ⟨(s.1+1,s.2.set s.1 l[j]),⟨by simpa using h1,by show s.1+1<j+1;omega,?_,?_⟩,?_⟩
    ·rw [ht,← h3]
     show (s.2.set s.1 l[j]).take (s.1+1)=_
     rw [bR (x:=l[j]) (by rw [List.getElem?_set_self (by omega)])]
     rw [List.take_set_of_le (Nat.le_refl _)]
     simp [hpx]
    ·show (s.2.set s.1 l[j]).drop (j+1)=_
     rw [List.drop_set_of_lt (by omega),hd]
    ·rw [show (!false)=true from rfl,selT',kv (show s.1<s.2.length by omega),bindN,aH hj hN,aH (show s.1<l.length by omega) hN]
  ·obtain ⟨h1,h2,h3,h4⟩:=hp
   unfold rS
   rw [bI (show s.2.length≤l.length by omega),selF']
   have hl:(List.take s.1 s.2++List.replicate (s.2.length - s.1) z).length=s.2.length:=by simp;omega
   show ((ixO (s.2.length+1) (s.1:Int)).bind _)=_
   rw [kv (show s.1<s.2.length+1 by omega),bindN,hl,kv (show s.1<s.2.length+1 by omega),bindN]
   rw [List.take_append_of_le_length (by simp;omega),List.take_take,Nat.min_self,h3,List.take_length]
  ·show l.take i0=_
   rw [bR hx0,List.filter_append,nc (l:=l.take i0) (fun x hx=>?_)]
   ·simp [hp0]
   ·obtain ⟨j,hj,e⟩:=List.getElem_of_mem hx
    have hj':j<i0:=by simp at hj;omega
    rw [hb j hj' x (by rw [← e,List.getElem_take];exact List.getElem?_eq_getElem _)];rfl
end Go.E2
end
section
namespace Go.E2
open Go
def Tt {α:Type} (Q:α→Prop) (o:Option α):Prop:=∃ x,o=some x∧Q x
theorem Tt.pure {α:Type} {Q:α→Prop} {x:α} (h:Q x):Tt Q (some x):=⟨x,rfl,h⟩
theorem Tt.bind {α β:Type} {P:α→Prop} {Q:β→Prop} {o:Option α} {k:α→Option β} (h:Tt P o) (hk:∀ x,P x→Tt Q (k x)):Tt Q (o.bind k):=by
 obtain ⟨x,rfl,hx⟩:=h
 exact hk x hx
theorem Tt.mono {α:Type} {P Q:α→Prop} {o:Option α} (h:Tt P o) (hq:∀ x,P x→Q x):Tt Q o:=by
 obtain ⟨x,e,hx⟩:=h
 exact ⟨x,e,hq x hx⟩
end Go.E2
end
section
namespace Go.Proofs.YtfoigppmcelgfaaGreatDoor
open Go Go.E2
theorem tO (l:List Int) (id:Int):eD l id=(appO [] l).bind fun x1=>(delG 0 (fun x=>eC x id) x1).bind fun x2=>some x2:=rfl
theorem lv {l:List Int} {id:Int} (hn:l.length≤1073741824):eD l id=some (l.filter fun x=>!(x==id)):=by
 rw [tO,ck (by simpa using hn),List.nil_append,bindN,zn (f:=fun x=>eC x id) 0 (fun x=>x==id) (fun x _=>rfl) hn,bindN]
theorem vt {l:List Int} (hn:l.length≤1073741824):slcO l (mxI 0 (IntKind.i64.wrap ((l.length:Int) - 16))) (l.length:Int)=some (l.drop (l.length - 16)):=by
 rw [bY (by omega) (by omega)]
 have e:mxI 0 ((l.length:Int) - 16)=((l.length - 16:Nat):Int):=by unfold mxI;omega
 rw [e]
 unfold slcO
 rw [if_pos ⟨by omega,by omega,Int.le_refl _⟩]
 simp
theorem qX {l:List Int} {id:Int} (hn:l.length≤1073741823):fp l id=some (((l.filter fun x=>!(x==id))++[id]).drop ((l.filter fun x=>!(x==id)).length+1 - 16)):=by
 unfold fp
 have h1:(l.filter fun x=>!(x==id)).length≤l.length:=List.length_filter_le _ _
 rw [lv (by omega),bindN,ck (by simp;omega),bindN]
 have h2:((l.filter fun x=>!(x==id))++[id]).length=(l.filter fun x=>!(x==id)).length+1:=by simp
 rw [vt (by rw [h2];omega),bindN,h2]
theorem zQ {f:FocusState} {id:Int} {vis:Bool} (hn:f.Past.length≤1073741823) :
  oa f id vis=some (if id=f.Focused then ⟨id,vis,f.Past⟩ else if f.Focused=0 then ⟨id,vis,((f.Past.filter fun x=>!(x==id)).filter fun x=>!(x==0)).drop (((f.Past.filter fun x=>!(x==id)).filter fun x=>!(x==0)).length - 16)⟩
   else ⟨id,vis,(((f.Past.filter fun x=>!(x==id)).filter fun x=>!(x==f.Focused))++[f.Focused]).drop (((f.Past.filter fun x=>!(x==id)).filter fun x=>!(x==f.Focused)).length+1 - 16)⟩):=by
 unfold oa
 rw [show bn f.Past=some f.Past from by unfold bn;rw [ck (by simp;omega)];rfl,bindN]
 by_cases h:id=f.Focused
 ·rw [if_pos h,show (id==f.Focused)=true from by simpa using h,selT']
 ·rw [if_neg h,show (id==f.Focused)=false from by simpa using h,selF',lv (by omega),bindN,jnN]
  have h1:(f.Past.filter fun x=>!(x==id)).length≤f.Past.length:=List.length_filter_le _ _
  by_cases h0:f.Focused=0
  ·rw [if_pos h0,show (f.Focused != 0)=false from by simpa using h0,selF',lv (by omega),bindN]
   have h2:=List.length_filter_le (fun x:Int=>!(x==0)) (f.Past.filter fun x=>!(x==id))
   show ((slcO _ _ _).bind _)=_
   rw [vt (by omega),bindN]
  ·rw [if_neg h0,show (f.Focused != 0)=true from by simpa using h0,selT',qX (by omega),bindN]
   have h2:=List.length_filter_le (fun x:Int=>!(x==f.Focused)) (f.Past.filter fun x=>!(x==id))
   have h3:((((f.Past.filter fun x=>!(x==id)).filter fun x=>!(x==f.Focused))++[f.Focused]).drop (((f.Past.filter fun x=>!(x==id)).filter fun x=>!(x==f.Focused)).length+1 - 16)).length≤16:=by simp;omega
   show ((slcO _ _ _).bind _)=_
   rw [vt (by omega),bindN]
   have e:((((f.Past.filter fun x=>!(x==id)).filter fun x=>!(x==f.Focused))++[f.Focused]).drop (((f.Past.filter fun x=>!(x==id)).filter fun x=>!(x==f.Focused)).length+1 - 16)).length - 16=0:=by omega
   rw [e,List.drop_zero]
def posN (l:List Int) (v:Int):Int:=match l.findIdx? (fun x=>x==v) with
 | some i=>i
 | none=>-1
theorem ng {l:List Int} {v:Int} (hn:l.length<N0):bg l v=some (posN l v):=by
 unfold bg
 rw [jnN]
 refine loopI (L:=l) (fun (_:Unit) i=>(i:Int)) (fun i _=>∀ j,j<i→∀ x,l[j]? = some x→x≠v) (fun r=>r=some (posN l v)) hn (fun again _ i x hx hi hp=>?_) (fun again _ hp=>?_) () (fun j hj=>absurd hj (Nat.not_lt_zero _))
 ·unfold bp
  rw [bK hi,selT',aD,hx,bindN]
  by_cases e:v=x
  ·left
   rw [show (v==x)=true from by simpa using e,selT']
   have:l.findIdx? (fun x=>x==v)=some i:=by
    rw [List.findIdx?_eq_some_iff_getElem]
    refine ⟨hi,?_,fun j hj=>?_⟩
    ·rw [List.getElem?_eq_getElem hi] at hx;cases hx;simpa using e.symm
    ·have:=hp j hj _ (List.getElem?_eq_getElem (by omega));simpa using this
   unfold posN;rw [this]
  ·right
   refine ⟨(),fun j hj y hy=>?_,?_⟩
   ·rcases Nat.lt_or_ge j i with h | h
    ·exact hp j h y hy
    ·obtain rfl:j=i:=by omega
     rw [hx] at hy;cases hy;exact fun h=>e h.symm
   ·rw [show (v==x)=false from by simpa using e,selF',aH hi hn]
 ·unfold bp
  rw [bI (Nat.le_refl _),selF']
  have:l.findIdx? (fun x=>x==v)=none:=by
   rw [List.findIdx?_eq_none_iff]
   intro x hx
   obtain ⟨j,hj,e⟩:=List.getElem_of_mem hx
   have:=hp j hj x (by rw [List.getElem?_eq_getElem hj,e])
   simpa using this
  unfold posN;rw [this]
end Go.Proofs.YtfoigppmcelgfaaGreatDoor
end
section
set_option maxRecDepth 100000
namespace Go.Proofs.YtfoigppmcelgfaaGreatDoor
open Go Go.E2
theorem wv {v:AValue} (h:chE v=0) (hk:v.Kind=1):v.N≤1099511627776:=by
 refine Decidable.byContradiction fun hN=>?_
 have hw:fb v.N=some false:=by unfold fb;rw [decide_eq_false hN,Bool.and_false]
 have key:∀ self,∃ a e m,cV self v 0 0=some (a,e,m)∧e≠0:=fun self=>by
  unfold cV
  rw [show ((v.Kind==4)&&(decide ((0:Int)≥16)))=false by rw [hk];rfl,selF',nf v,bindN]
  cases hb:badF v with
  | true=>exact ⟨_,9,_,rfl,by decide⟩
  | false =>
   rw [Bool.not_false,Bool.not_true,selF',jnN,show (v.Kind==1)=true by rw [hk];rfl]
   show ∃ a e m,((fb v.N).bind _:Option (AType×Int×Int))=_∧_
   rw [hw]
   exact ⟨_,1,_,rfl,by decide⟩
 have h1:=xQ v
 rw [h] at h1
 unfold fF at h1
 obtain ⟨x,x1,x2⟩:=bind_some h1
 unfold iL at x1
 obtain ⟨y,y1,y2⟩:=bind_some x1
 have y1':cV (cv 9223372036854775807) v 0 0=some y:=(wu 9223372036854775807 v 0 0).symm.trans y1
 obtain ⟨a,e,m,k1,k2⟩:=key (cv 9223372036854775807)
 rw [k1] at y1'
 cases y1'
 simp only at y2
 rw [show (e != 0)=true by simp [k2],selT'] at y2
 have:=Option.some.inj y2
 rw [← this] at x2
 exact absurd (Option.some.inj x2) k2
def numA (nm:Str) (o:Int) (n:Node):Int:=if (attrR (attrP nm n.Attrs)).1.Kind=1 then (attrR (attrP nm n.Attrs)).1.N else o
theorem zS {n:Node} (nm:Str) (o:Int) (h:AttrsOk n.Attrs):iF n.Attrs nm o=some (numA nm o n):=by
 unfold iF numA
 rw [r6 nm h,bindN]
 generalize attrR (attrP nm n.Attrs)=x
 by_cases hk:x.1.Kind=1
 ·simp [hk]
 ·rw [show (x.1.Kind==1)=false by simpa using hk,selF',if_neg hk]
theorem zT {n:Node} (nm:Str) (o:Int) (h:AttrsOk n.Attrs):gh n.Attrs nm o=some (numA nm o n):=by
 unfold gh numA
 rw [sA nm h.1,bindN]
 generalize attrR (attrP nm n.Attrs)=x
 by_cases hk:x.1.Kind=1
 ·simp [hk]
 ·rw [show (x.1.Kind != 1)=true by simpa using hk,selT',if_neg hk]
theorem qL {nm:Str}:∀ {l:List Attr} {v:AValue},attrP nm l=some v→∃ a∈l,a.Value=v
 | [],v,h=>by cases h
 | a :: r,v,h=>by
  unfold attrP at h
  split at h
  ·exact ⟨a,by simp,Option.some.inj h⟩
  ·obtain ⟨b,b1,b2⟩:=qL h
   exact ⟨b,by simp [b1],b2⟩
section
variable {t:Tree}
theorem qq (G:Gt t) (nm:Str) {d:Nat} {x:Int} (h:Reach t.Nodes t.Root d x):numA nm 0 (nd t.Nodes x)≤1099511627776:=by
 have hv:=(li G.shp G.err h).2.atf
 unfold numA
 cases hp:attrP nm (nd t.Nodes x).Attrs with
 | none =>
  split
  ·rename_i hk
   exact absurd hk (by decide)
  ·omega
 | some v =>
  split
  ·rename_i hk
   obtain ⟨a,a1,a2⟩:=qL hp
   have:=pz hv a a1
   rw [a2] at this
   exact wv this hk
  ·omega
def tabA:Str:=ByteArray.mk #[116,97,98]
def rkX (t:Tree) (x:Int):Int:=if numA tabA 0 (nd t.Nodes x)≤0 then 1099511627777 else numA tabA 0 (nd t.Nodes x)
theorem yd (G:Gt t) {d:Nat} {x:Int} (h:Reach t.Nodes t.Root d x):hG t x=some (rkX t x):=by
 unfold hG rkX
 rw [od G h,bindN]
 show ((gh (nd t.Nodes x).Attrs tabA 0).bind _:Option Int)=_
 rw [zT tabA 0 (ie G x),bindN]
 by_cases hc:numA tabA 0 (nd t.Nodes x)≤0
 ·rw [decide_eq_true hc,selT',if_pos hc]
 ·rw [decide_eq_false hc,selF',if_neg hc]
theorem compareX (x y:Int):cW x y=some (sg x y):=by
 have e:∀ z:Int,dM z=some false:=fun z=>by unfold dM;simp
 unfold cW
 rw [e,e,bindN,bindN,selF',selF',uO,uO]
 unfold sg
 split
 ·rfl
 ·split <;> rfl
theorem zC (G:Gt t) {d:Nat} {x:Int} (h:Reach t.Nodes t.Root d x):gn x t=some (mxI (numA tabA 0 (nd t.Nodes x)) 0):=by
 unfold gn
 rw [G.find h,bindN]
 show ((iF (nd t.Nodes x).Attrs tabA 0).bind _:Option Int)=_
 rw [zS tabA 0 (ie G x),bindN]
theorem wW (G:Gt t) {d e:Nat} {x y:Int} (hx:Reach t.Nodes t.Root d x) (hy:Reach t.Nodes t.Root e y):eF x y t=some (sg (rkX t x) (rkX t y)):=by
 unfold eF
 rw [zC G hx,bindN,zC G hy,bindN,compareX,compareX,bindN,bindN]
 have b1:=qq G tabA hx
 have b2:=qq G tabA hy
 unfold rkX
 generalize numA tabA 0 (nd t.Nodes x)=a at b1 ⊢
 generalize numA tabA 0 (nd t.Nodes y)=b at b2 ⊢
 have m1:mxI a 0=if a<0 then 0 else a:=by unfold mxI;(repeat' split) <;> omega
 have m2:mxI b 0=if b<0 then 0 else b:=by unfold mxI;(repeat' split) <;> omega
 rw [m1,m2,zF]
 unfold sg
 by_cases p:a≤0
 ·have e1:(if a<0 then 0 else a)=0:=by split <;> omega
  rw [e1,if_pos p]
  by_cases q:b≤0
  ·have e2:(if b<0 then 0 else b)=0:=by split <;> omega
   rw [e2,if_pos q];simp
  ·have e2:(if b<0 then 0 else b)=b:=if_neg (by omega)
   rw [e2,if_neg q,if_pos (by simp),if_neg (by omega),if_pos (by omega),if_neg (by omega),if_pos (by omega)]
 ·have e1:(if a<0 then 0 else a)=a:=if_neg (by omega)
  rw [e1,if_neg p]
  by_cases q:b≤0
  ·have e2:(if b<0 then 0 else b)=0:=by split <;> omega
   rw [e2,if_pos q,if_pos (by simp),if_pos (by omega),if_pos (by omega)]
  ·have e2:(if b<0 then 0 else b)=b:=if_neg (by omega)
   rw [e2,if_neg q,if_neg (by simp;omega)]
noncomputable def tor (t:Tree) (st:List Styled):List Int:=isortF (rkX t) ((cnd t st).take 1) ((cnd t st).drop 1)
theorem rU (G:Gt t) {st:List Styled} {x:Int} (h:x∈cnd t st):∃ d,Reach t.Nodes t.Root d x:=el G (List.mem_filter.1 h).1
theorem rV (t:Tree) (st:List Styled):(cnd t st).length≤(ord t).length:=List.length_filter_le _ _
theorem vz (f:Int→Int→Option Int) (l:List Int):insG f l 20 20=some l:=by
 unfold insG
 rw [jnN,cr]
 unfold kx
 rw [show decide ((IntKind.i64.wrap (20+1),l).1<(20:Int))=false by show decide (IntKind.i64.wrap (20+1)<(20:Int))=false;rw [bY (by omega) (by omega)];decide,selF']
theorem vf (G:Gt t) {st:List Styled} (hst:st.length<N0) (h20:t.Nodes.length≤20):d7 t st=some (tor t st):=by
 unfold d7 tor
 rw [zK G hst,bindN]
 have hins:∀ (d:List Int) (a b:Int),aQ d a b t=insG (fun x y=>eF x y t) d a b:=fun _ _ _=>rfl
 have hlen:(cnd t st).length≤20:=by
  have:=rV t st
  have:=gP G.shp.to0 (f:=t.Nodes.length) (Reach.z)
  unfold ord at *;omega
 have hs:=yK (f:=fun x y=>eF x y t) (r:=rkX t) (l:=cnd t st) (by omega) (fun x hx y hy=>by
  obtain ⟨d,hd⟩:=rU G hx
  obtain ⟨e,he⟩:=rU G hy
  exact wW G hd he)
 have hpl:(isortF (rkX t) ((cnd t st).take 1) ((cnd t st).drop 1)).length=(cnd t st).length:=by
  have:=(kw (r:=rkX t) ((cnd t st).drop 1) ((cnd t st).take 1)).length_eq
  rwa [List.take_append_drop] at this
 generalize cnd t st=d at hlen hs hpl
 unfold aZ ce
 rw [jnN]
 have c2:decide ((20:Int)<(d.length:Int))=false:=decide_eq_false (by omega)
 have e2:∀ k again,bm (d.length:Int) k again 20=k ():=fun k again=>by
  unfold bm
  rw [c2];rfl
 rcases Nat.lt_or_ge d.length 20 with h | h
 ·have e3:∀ k again (x:List Int),aT (d.length:Int) t k again (0,20,x)=k (0,x):=fun k again x=>by
   unfold aT
   show sel (decide ((20:Int)≤(d.length:Int))) _ _=_
   rw [decide_eq_false (by omega)];rfl
  rw [cr,e3]
  show (((aQ d 0 (d.length:Int) t).bind fun x3=>jn (fun (_:Unit)=>some x3) fun k5=>loopK (bm (d.length:Int) k5) N0 20).bind _).bind _=_
  rw [hins,hs,bindN,jnN,cr,e2]
  rfl
 ·have h20:d.length=20:=by omega
  have e3:∀ k again (x:List Int),aT (d.length:Int) t k again (0,20,x)=(aQ x 0 20 t).bind fun x22=>again (20,40,x22):=fun k again x=>by
   unfold aT
   show sel (decide ((20:Int)≤(d.length:Int))) _ _=_
   rw [decide_eq_true (by omega)];rfl
  have e4:∀ k again (x:List Int),aT (d.length:Int) t k again (20,40,x)=k (20,x):=fun k again x=>by
   unfold aT
   show sel (decide ((40:Int)≤(d.length:Int))) _ _=_
   rw [decide_eq_false (by omega)];rfl
  have hs':insG (fun x y=>eF x y t) d 0 20=some (isortF (rkX t) (d.take 1) (d.drop 1)):=by
   rw [← hs,h20];rfl
  rw [cr,e3,hins,hs',bindN]
  show ((aT (d.length:Int) t _ (loopK _ (N0 - 2)) (20,40,_)).bind _).bind _=_
  rw [e4]
  show (((aQ (isortF (rkX t) (d.take 1) (d.drop 1)) 20 (d.length:Int) t).bind fun x3=>jn (fun (_:Unit)=>some x3) fun k5=>loopK (bm (d.length:Int) k5) N0 20).bind _).bind _=_
  rw [hins,h20,show (((20:Nat):Int))=20 from rfl,vz,bindN,jnN]
  have e2':=e2
  rw [h20] at e2'
  rw [cr,show ((20:Int))=(((20:Nat):Int)) from rfl]
  exact congrArg (fun o:Option (List Int)=>(o.bind fun x1=>some x1).bind fun x2=>some x2) (e2' _ _)
theorem sJ (G:Gt t) (st:List Styled) {c:List Int} (hc:∀ x∈c,∃ d,Reach t.Nodes t.Root d x) {out:List Int} (ho:∀ x∈out,∃ d,Reach t.Nodes t.Root d x) (hol:out.length≤1000) {i:Nat} {x:Int} (hx:c[i]? = some x) (k:Int→Option (List Int)) :
  ∀ (n:Nat) (l acc:List Int),l.length<n→out=l.reverse++acc→∃ p:Nat,p≤out.length∧loopK (cm (fac t st) c (out,(i:Int)) k) n (l.length:Int)=k (p:Int)∧insR (rkX t) l x acc=out.take p++x :: out.drop p
 | 0,l,acc,h,_=>absurd h (Nat.not_lt_zero _)
 | n+1,l,acc,h,he=>by
  show ∃ p:Nat,p≤out.length∧cm (fac t st) c (out,(i:Int)) k (loopK _ n) _=_∧_
  have ih:=fun l' acc'=>sJ G st hc ho hol hx k n l' acc'
  generalize loopK (cm (fac t st) c (out,(i:Int)) k) n=again at ih ⊢
  obtain ⟨dx,hdx⟩:=hc x (List.mem_of_getElem? hx)
  have hlen:out.length=l.length+acc.length:=by rw [he];simp
  have hsp:out.take l.length=l.reverse∧out.drop l.length=acc:=by
   rw [he]
   exact ⟨by rw [List.take_append_of_le_length (by simp),List.take_of_length_le (by simp)],by rw [List.drop_append_of_le_length (by simp),List.drop_of_length_le (by simp)];rfl⟩
  cases l with
  | nil =>
   refine ⟨0,Nat.zero_le _,?_,?_⟩
   ·unfold cm
    simp only [List.length_nil]
    rw [show decide (((0:Nat):Int)>0)=false by decide,gOF',bindN,gOF',bindN,gOF',bindN,gOF',bindN,Bool.false_and,selF']
   ·have:out=acc:=by rw [he];rfl
    rw [this];rfl
  | cons y l =>
   have hy:out[l.length]? = some y:=by
    rw [he]
    simp
   obtain ⟨dy,hdy⟩:=ho y (List.mem_of_getElem? hy)
   have hstep:cm (fac t st) c (out,(i:Int)) k again ((y :: l).length:Int)=sel (decide (rkX t y>rkX t x)) (again (l.length:Int)) (k ((y :: l).length:Int)):=by
    unfold cm
    have w1:IntKind.i64.wrap (((y :: l).length:Int) - 1)=(l.length:Int):=by
     rw [List.length_cons] at *
     rw [bY (by omega) (by omega)];omega
    have hp:decide (((y :: l).length:Int)>0)=true:=decide_eq_true (by rw [List.length_cons];omega)
    simp only
    rw [hp,w1,gOT',gOT',aD,hy,bindN]
    show ((hG t y).bind _:Option (List Int))=_
    rw [yd G hdy,bindN,aD,hx,bindN]
    show ((hG t x).bind _:Option (List Int))=_
    rw [yd G hdx,bindN,Bool.true_and]
   rw [hstep]
   by_cases hcmp:rkX t x<rkX t y
   ·rw [decide_eq_true (show rkX t y>rkX t x from hcmp),selT']
    obtain ⟨p,p1,p2,p3⟩:=ih l (y :: acc) (by rw [List.length_cons] at h;omega) (by rw [he];simp)
    refine ⟨p,p1,p2,?_⟩
    rw [← p3]
    conv=>lhs;unfold insR
    rw [if_pos hcmp]
   ·rw [decide_eq_false (show ¬ rkX t y>rkX t x from hcmp),selF']
    refine ⟨(y :: l).length,by omega,rfl,?_⟩
    rw [hsp.1,hsp.2]
    conv=>lhs;unfold insR
    rw [if_neg hcmp]
theorem rz (r:Int→Int) (s:List Int) (x:Int) (l:List Int):isortF r s (x :: l)=isortF r (insR r s.reverse x []) l:=rfl
theorem ve (G:Gt t) {st:List Styled} (hst:st.length<N0):dW t st=some (tor t st):=by
 unfold dW
 rw [sy G hst,bindN]
 show ((ej (fac t st)).bind _:Option (List Int))=_
 have hord:ej (fac t st)=some (tor t st):=by
  unfold ej
  rw [wZ G st,bindN,jnN]
  have hcl:(cnd t st).length≤400:=Nat.le_trans (rV t st) (fM G).2
  have hc:∀ x∈cnd t st,∃ d,Reach t.Nodes t.Root d x:=fun x hx=>rU G hx
  have hfin:tor t st=isortF (rkX t) [] (cnd t st):=by
   unfold tor
   cases cnd t st with
   | nil=>rfl
   | cons x l=>rfl
  rw [hfin]
  generalize cnd t st=c at hcl hc
  refine loopI (L:=c) (fun (a:List Int) i=>(a,(i:Int))) (fun i a=>isortF (rkX t) a (c.drop i)=isortF (rkX t) [] c∧a.length=i∧∀ x∈a,∃ d,Reach t.Nodes t.Root d x) (fun o=>o=some (isortF (rkX t) [] c)) (by unfold N0;omega) (fun again a i x hx hi ha=>.inr ?_) (fun again a ha=>?_) [] ⟨rfl,rfl,fun x hx=>by cases hx⟩
  ·obtain ⟨g1,g2,g3⟩:=ha
   unfold fC
   simp only
   rw [bK hi,selT',jnN,jnN]
   obtain ⟨p,p1,p2,p3⟩:=sJ G st hc g3 (by omega) hx (fun (s9:Int)=>(slcO a 0 s9).bind fun x11=>(idxO c (i:Int)).bind fun x12=>(slcO a s9 (a.length:Int)).bind fun x13=>(appO ([x12]) x13).bind fun x14=>(appO x11 x14).bind fun x15=>again (x15,IntKind.i64.wrap ((i:Int)+1))) N0 a.reverse [] (by rw [List.length_reverse];unfold N0;omega) (by simp)
   rw [List.length_reverse] at p2
   have hd:slcO a (p:Int) (a.length:Int)=some (a.drop p):=by
    have:slcO a (p:Int) (a.length:Int)=some ((a.take (a.length:Int).toNat).drop (p:Int).toNat):=if_pos ⟨by omega,by omega,by omega⟩
    rw [this];simp
   refine ⟨insR (rkX t) a.reverse x [],⟨?_,?_,?_⟩,?_⟩
   ·rw [← rz,← g1,bB hx]
   ·rw [pb,List.length_reverse,g2];rfl
   ·intro y hy
    have:=(lh (rkX t) a.reverse x []).mem_iff.1 hy
    simp at this
    rcases this with e | e
    ·subst e;exact hc y (List.mem_of_getElem? hx)
    ·exact g3 y e
   ·refine Eq.trans p2 ?_
    rw [yq p1,bindN,aD,hx,bindN,hd,bindN,ck (by simp;omega),bindN,ck (by simp;omega),bindN,aH hi (by unfold N0;omega),p3]
    rfl
  ·obtain ⟨g1,_,_⟩:=ha
   rw [List.drop_length] at g1
   unfold fC
   simp only
   rw [bI (Nat.le_refl _),selF',← g1]
   rfl
 rw [hord,bindN]
theorem yL {l:List Int} {v:Int} (hn:l.length<N0):jq l v=some (posN l v):=by
 rw [← ng hn]
 unfold jq bg
 rw [jnN,jnN]
 have e:∀ k,hH l v k=bp l v k:=fun k=>by
  funext again s
  unfold hH bp
  have:∀ x:Int,(x==v)=(v==x):=fun x=>by rw [Bool.eq_iff_iff];simp;exact eq_comm
  simp only [this]
 rw [e]
theorem yA {l:List Int} {v:Int}:posN l v = -1∨∃ i:Nat,posN l v=(i:Int)∧i<l.length:=by
 unfold posN
 cases h:l.findIdx? (fun x=>x==v) with
 | none=>exact .inl rfl
 | some i =>
  rw [List.findIdx?_eq_some_iff_getElem] at h
  exact .inr ⟨i,rfl,h.1⟩
theorem uB (G:Gt t) (st:List Styled):(tor t st).length≤400:=by
 have h1:=(kw (r:=rkX t) ((cnd t st).drop 1) ((cnd t st).take 1)).length_eq
 rw [List.take_append_drop] at h1
 have h2:=rV t st
 have h3:=(fM G).2
 unfold tor
 unfold ord at h2
 omega
theorem vm (G:Gt t) {st:List Styled} (hst:st.length<N0) (h20:t.Nodes.length≤20) (f:FocusState) (b:Bool):∃ r,i9 t st f b=some r∧f4 t st f b=some r:=by
 have hl:=uB G st
 unfold i9 f4
 rw [vf G hst h20,ve G hst,bindN,bindN,ng (by unfold N0;omega),bindN]
 generalize tor t st=o at hl
 cases h0:(o.length:Int)==0 with
 | true=>exact ⟨0,rfl,rfl⟩
 | false =>
  have hn:(o.length:Int)≠0:=by simpa using h0
  rw [selF',selF',yL (by unfold N0;omega),bindN]
  have main:∃ r,(sel ((decide (posN o f.Focused<0))&&b) ((idxO o (IntKind.i64.wrap ((o.length:Int) - 1))).bind fun x5=>some x5) (sel (decide (posN o f.Focused<0)) ((idxO o 0).bind fun x7=>some x7) (sel b ((nzO (o.length:Int) ((IntKind.i64.wrap ((IntKind.i64.wrap (posN o f.Focused+(o.length:Int))) - 1)).tmod (o.length:Int))).bind fun x9=>(idxO o x9).bind fun x10=>some x10) ((nzO (o.length:Int) ((IntKind.i64.wrap (posN o f.Focused+1)).tmod (o.length:Int))).bind fun x11=>(idxO o x11).bind fun x12=>some x12))))=some r:=by
   have hat:∀ z:Int,0≤z→z<o.length→∃ r,((idxO o z).bind fun x5=>some x5)=some r:=fun z z0 z1=>by
    obtain ⟨x,hx,_⟩:=yM z0 z1
    exact ⟨x,by rw [hx,bindN]⟩
   have htm:∀ z:Int,0≤z→∃ r,((nzO (o.length:Int) (z.tmod (o.length:Int))).bind fun x9=>(idxO o x9).bind fun x10=>some x10)=some r:=fun z z0=>by
    have hz:nzO (o.length:Int) (z.tmod (o.length:Int))=some (z.tmod (o.length:Int)):=if_neg hn
    rw [hz,bindN]
    exact hat _ (Int.tmod_nonneg _ z0) (Int.tmod_lt_of_pos z (by omega))
   rcases yA (l:=o) (v:=f.Focused) with e | ⟨i,e,hi⟩
   ·rw [e,show decide ((-1:Int)<0)=true by decide,Bool.true_and]
    cases b with
    | true=>rw [selT',bY (by omega) (by omega)];exact hat _ (by omega) (by omega)
    | false=>rw [selF',selT'];exact hat 0 (by omega) (by omega)
   ·rw [e,decide_eq_false (show ¬ (i:Int)<0 by omega),Bool.false_and,selF',selF']
    cases b with
    | true =>
     rw [selT',bY (x:=(i:Int)+(o.length:Int)) (by omega) (by omega),bY (by omega) (by omega)]
     exact htm _ (by omega)
    | false =>
     rw [selF',bY (by omega) (by omega)]
     exact htm _ (by omega)
  obtain ⟨r,hr⟩:=main
  exact ⟨r,hr,hr⟩
end
end Go.Proofs.YtfoigppmcelgfaaGreatDoor
end
section
set_option maxRecDepth 100000
namespace Go.Proofs.YtfoigppmcelgfaaGreatDoor
open Go Go.E2
theorem xR:jz=some true:=by kernel_rfl
theorem pG {l:List Int} {v:Int} (hl:l.length≤1000):fj l v=some (l.filter fun x=>!(x==v)):=by
 unfold fj
 rw [jnN]
 refine loopI (L:=l) (fun (a:List Int) i=>(a,(i:Int))) (fun i a=>a=(l.take i).filter fun x=>!(x==v)) (fun o=>o=some (l.filter fun x=>!(x==v))) (by unfold N0;omega) (fun again a i x hx hi ha=>.inr ?_) (fun again a ha=>?_) [] (by simp)
 ·have hal:a.length≤1000:=by
   rw [ha]
   have:=List.length_filter_le (fun x=>!(x==v)) (l.take i)
   have h3:(l.take i).length≤l.length:=by rw [List.length_take];omega
   omega
  unfold fB
  simp only
  rw [bK hi,selT',jnN,aD,hx,bindN,bindN,aH hi (by unfold N0;omega),show (x != v)=!(x==v) from rfl]
  have htk:l.take (i+1)=l.take i++[x]:=by rw [List.take_add_one,hx];rfl
  cases hc : !(x==v) with
  | true =>
   rw [selT',ck (by simp;omega),bindN]
   refine ⟨_,?_,rfl⟩
   rw [htk,List.filter_append,ha]
   congr 1
   rw [List.filter_cons,hc];rfl
  | false =>
   rw [selF']
   refine ⟨_,?_,rfl⟩
   rw [htk,List.filter_append,ha,List.filter_cons,hc]
   simp
 ·unfold fB
  simp only
  rw [bI (Nat.le_refl _),selF',ha,List.take_length]
theorem ye {l:List Int} (hl:l.length≤1000) (k:List Int→Option FocusState):sel (decide ((l.length:Int)>16)) ((slcO l (IntKind.i64.wrap ((l.length:Int) - 16)) (l.length:Int)).bind fun x8=>k x8) (k l)=k (l.drop (l.length - 16)):=by
 by_cases h:l.length>16
 ·rw [decide_eq_true (show (l.length:Int)>16 by omega),selT',bY (by omega) (by omega),show (l.length:Int) - 16=((l.length - 16:Nat):Int) by omega]
  have:slcO l ((l.length - 16:Nat):Int) (l.length:Int)=some ((l.take (l.length:Int).toNat).drop ((l.length - 16:Nat):Int).toNat):=if_pos ⟨by omega,by omega,by omega⟩
  rw [this,bindN];simp
 ·rw [decide_eq_false (show ¬ (l.length:Int)>16 by omega),selF',show l.length - 16=0 by omega,List.drop_zero]
theorem wN {f:FocusState} (hn:f.Past.length≤60) (id:Int) (vis:Bool):∃ s,oa f id vis=some s∧mU f id vis=some s∧s.Past.length≤1000:=by
 rw [zQ (by omega)]
 unfold mU
 rw [jnN]
 by_cases h:id=f.Focused
 ·rw [if_pos h,show (id != f.Focused)=false by simpa using h,selF']
  refine ⟨_,rfl,?_,by simp only;omega⟩
  rw [h]
 ·rw [if_neg h,show (id != f.Focused)=true by simpa using h,selT']
  unfold kY
  have h1:=List.length_filter_le (fun x:Int=>!(x==id)) f.Past
  rw [pG (by omega),bindN]
  generalize hP1:(f.Past.filter fun x=>!(x==id))=P1 at h1
  have h2:=List.length_filter_le (fun x:Int=>!(x==f.Focused)) P1
  rw [pG (by omega),bindN,jnN]
  by_cases h0:f.Focused=0
  ·rw [if_pos h0,show (f.Focused != 0)=false by simpa using h0,Bool.false_and,selF']
   dsimp only
   rw [jnN]
   rw [h0] at h2 ⊢
   refine ⟨_,rfl,?_,?_⟩
   ·rw [ye (by omega) (fun s5=>some (FocusState.mk id f.Visible s5)),bindN]
   ·simp only [List.length_drop];omega
  ·rw [if_neg h0,show (f.Focused != 0)=true by simpa using h0,Bool.true_and,selT',ck (by simp;omega),bindN]
   dsimp only
   rw [jnN]
   refine ⟨_,rfl,?_,?_⟩
   ·have hlen:((P1.filter fun x=>!(x==f.Focused))++[f.Focused]).length=(P1.filter fun x=>!(x==f.Focused)).length+1:=by simp
    have:=ye (l:=(P1.filter fun x=>!(x==f.Focused))++[f.Focused]) (by rw [hlen];omega) (fun s5=>some (FocusState.mk id f.Visible s5))
    rw [hlen] at this
    rw [show (((P1.filter fun x=>!(x==f.Focused))++[f.Focused]).length:Int)=(((P1.filter fun x=>!(x==f.Focused)).length+1:Nat):Int) by rw [hlen],this,bindN]
   ·simp only [List.length_drop,List.length_append,List.length_singleton];omega
theorem uk {s:FocusState} (hs:s.Past.length≤1000):jr s s=some true:=by
 unfold jr
 have:(((s.Focused != s.Focused)||(s.Visible != s.Visible))||((s.Past.length:Int) != (s.Past.length:Int)))=false:=by simp
 rw [this,selF',jnN]
 refine loopI (L:=s.Past) (fun (_:Unit) i=>(i:Int)) (fun _ _=>True) (fun o=>o=some true) (by unfold N0;omega) (fun again _ i x hx hi _=>.inr ⟨(),trivial,?_⟩) (fun again _ _=>?_) () trivial
 ·unfold hI
  rw [bK hi,selT',aD,hx,bindN,bindN,show (x != x)=false by simp,selF',aH hi (by unfold N0;omega)]
 ·unfold hI
  rw [bI (Nat.le_refl _),selF']
theorem vw {s:List Int} (hs:s.length≤1000):eA s s=some true:=by
 unfold eA
 have:((s.length:Int) != (s.length:Int))=false:=by simp
 rw [this,selF',jnN]
 refine loopI (L:=s) (fun (_:Unit) i=>(i:Int)) (fun _ _=>True) (fun o=>o=some true) (by unfold N0;omega) (fun again _ i x hx hi _=>.inr ⟨(),trivial,?_⟩) (fun again _ _=>?_) () trivial
 ·unfold e8
  rw [bK hi,selT',aD,hx,bindN,bindN,show (x != x)=false by simp,selF',aH hi (by unfold N0;omega)]
 ·unfold e8
  rw [bI (Nat.le_refl _),selF']
theorem t5 {t:Tree} (hl:t.Nodes.length≤20) (k:Unit→Option Bool) (hk:(∀ n∈t.Nodes,n.Kids.length≤20)→k ()=some true):∀ (m i:Nat),t.Nodes.length - i<m→i≤t.Nodes.length→(∀ n∈t.Nodes.take i,n.Kids.length≤20)→loopK (cU t k) m (i:Int)=some true:=by
 intro m
 induction m with
 | zero=>intro i h;omega
 | succ m ih =>
  intro i hm hi hp
  show cU t k (loopK _ m) (i:Int)=some true
  generalize loopK (cU t k) m=again at ih ⊢
  unfold cU
  by_cases hj:i<t.Nodes.length
  ·rw [bK hj,sel_true,aD,List.getElem?_eq_getElem hj]
   simp only [bindN]
   by_cases h1:(t.Nodes[i].Kids.length:Int)>20
   ·simp only [decide_eq_true h1,Bool.not_true,gOF',bindN,Bool.true_or,selT']
   ·simp only [decide_eq_false h1,Bool.not_false,gOT',bindN,Bool.false_or]
    have hrest:again ((i+1:Nat):Int)=some true:=by
     refine ih (i+1) (by omega) (by omega) (fun n hn=>?_)
     rw [List.take_add_one,List.getElem?_eq_getElem hj] at hn
     rcases List.mem_append.1 hn with hn | hn
     ·exact hp n hn
     ·have:n=t.Nodes[i]:=by simpa using hn
      subst this;omega
    rw [aH hj (by unfold N0;omega),hrest]
    by_cases h2:(t.Nodes[i].Attrs.length:Int)>20
    ·simp only [decide_eq_true h2,Bool.not_true,gOF',bindN,Bool.true_or,selT']
    ·simp only [decide_eq_false h2,Bool.not_false,gOT',bindN,Bool.false_or]
     by_cases h3:(t.Nodes[i].Actions.length:Int)>20
     ·simp only [decide_eq_true h3,selT']
     ·simp only [decide_eq_false h3,selF']
  ·rw [bI (by omega),sel_false]
   exact hk (fun n hn=>hp n (by rw [List.take_of_length_le (by omega)];exact hn))
structure Bad (t:Tree) (st:List Styled):Prop where
 look:∃ S,jA t st=some S∧S.order=[]
 rlook:hO t st=some (widgetryref29_Facts.mk t st [] [])
theorem zO {t:Tree} (st:List Styled) {m:List (Int×Node)} (h:eM t=some (m,false)) {e:Int} (he:e≠0) (hr:dw t=some e):Bad t st:=by
 have ho:iS t=some []:=by
  unfold iS
  rw [h,bindN];rfl
 refine ⟨?_,?_⟩
 ·unfold jA
  rw [ho,bindN]
  exact ⟨_,rfl,rfl⟩
 ·have hro:gK t=some []:=by
   unfold gK
   rw [hr,bindN,show (e != 0)=true by simp [he]];rfl
  have hrs:gH t st=some []:=by
   unfold gH
   rw [hr,bindN,show (e != 0)=true by simp [he]];rfl
  unfold hO
  rw [hro,bindN,hrs,bindN,jnN,cr]
  rfl
theorem qK {t:Tree} {st:List Styled} (h:Bad t st):io t st=some 0∧fK t st=some 0:=by
 obtain ⟨S,s1,s2⟩:=h.look
 constructor
 ·unfold io cN
  rw [s1,bindN,jnN,jnN,s2,cr]
  rfl
 ·unfold fK
  rw [h.rlook,bindN]
  rfl
theorem lq {t:Tree} {st:List Styled} (h:Bad t st):d7 t st=some []∧dW t st=some []:=by
 obtain ⟨S,s1,s2⟩:=h.look
 constructor
 ·unfold d7 db
  rw [s1,bindN,s2]
  show ((aZ [] t).bind _:Option (List Int))=_
  have:aZ [] t=some []:=by kernel_rfl
  exact congrArg (fun o:Option (List Int)=>o.bind fun x2=>some x2) this
 ·unfold dW ej gb
  rw [h.rlook,bindN,jnN,cr]
  show (((some ([]:List Int)).bind _:Option (List Int)).bind _:Option (List Int))=_
  rw [bindN,jnN,cr]
  rfl
theorem tK {t:Tree} {st:List Styled} (h:Bad t st) (f:FocusState) (b:Bool):i9 t st f b=some 0∧f4 t st f b=some 0:=by
 unfold i9 f4
 rw [(lq h).1,(lq h).2,bindN,bindN]
 refine ⟨?_,rfl⟩
 rw [ng (by show (0:Nat)<N0;unfold N0;omega),bindN]
 rfl
theorem raw31_true (f : FocusState) (id : Int) (vis : Bool) (t : Tree) (st : List Styled) (hN : ∀ n ∈ t.Nodes, n.Key.size < N0) : ij           f id vis t st = some true := by
  unfold ij          
  cases hc : ((decide ((f.Past.length : Int) > 60)) || (decide ((t.Nodes.length : Int) > 20))) || (decide ((st.length : Int) > 20)) with
  | true => rw [selT']
  | false =>
    rw [selF', jnN]
    simp only [Bool.or_eq_false_iff, decide_eq_false_iff_not] at hc
    obtain ⟨⟨c1, c2⟩, c3⟩ := hc
    have hst : st.length < N0 := by unfold N0; omega
    refine t5         (by omega) _ (fun hk => ?_) N0 0 (by unfold N0; omega) (Nat.zero_le _) (fun n hn => by simp at hn)
    have hT : TK t := fun n hn => ⟨by have := hk n hn; omega, hN n hn⟩
    obtain ⟨s, s1, s2, s3⟩ := wN       (f := f) (by omega) id vis
    rw [s1, bindN, s2, bindN, uk         s3, bindN, Bool.not_true, selF']
    have fin : ∀ (z : Int) (o : List Int) (r : Int), o.length ≤ 1000 → io       t st = some z → fK        t st = some z → d7       t st = some o → dW        t st = some o → i9      t st f vis = some r → f4       t st f vis = some r →
        ((io       t st).bind fun x8 => (fK        t st).bind fun x9 => (gO (x8 == x9) (d7       t st)).bind fun x10 => (gO (x8 == x9) (dW        t st)).bind fun x11 => (gO (x8 == x9) (eA           x10 x11)).bind fun x12 => (gO ((x8 == x9) && x12) (i9      t st f vis)).bind fun x13 => (gO ((x8 == x9) && x12) (f4       t st f vis)).bind fun x14 => (gO (((x8 == x9) && x12) && (x13 == x14)) jz       ).bind fun x15 => some ((((x8 == x9) && x12) && (x13 == x14)) && x15)) = some true := fun z o r hol h1 h2 h3 h4 h5 h6 => by
      have hz : (z == z) = true := by simp
      have hr : (r == r) = true := by simp
      rw [h1, bindN, h2, bindN, h3, h4, hz, gOT', bindN, bindN, gOT', vw        hol, bindN, h5, h6, Bool.true_and, gOT', bindN, bindN, hr, Bool.true_and, gOT', xR      ]
      rfl
    rcases ya     hT with ⟨S, he, _, _⟩ | ⟨⟨m, hv⟩, e, he, hr⟩
    · have G : Gt t := ⟨S, he⟩
      obtain ⟨sv, v1, v2⟩ := vr      G hst
      obtain ⟨r, r1, r2⟩ := vm        G hst (by omega) f vis
      refine fin (scp t st) (tor t st) r (by have := uB      G st; omega) ?_ ?_ (vf      G hst (by omega)) (ve      G hst) r1 r2
      · unfold io      
        rw [v1, bindN, pscope G v2, bindN]
      · unfold fK       
        rw [sy       G hst, bindN]
        show ((fk         (fac t st)).bind _ : Option Int) = _
        rw [rscope G st, bindN]
    · have hb := zO     st hv he hr
      exact fin 0 [] 0 (by simp) (qK        hb).1 (qK        hb).2 (lq        hb).1 (lq        hb).2 (tK       hb f vis).1 (tK       hb f vis).2
end Go.Proofs.YtfoigppmcelgfaaGreatDoor
end

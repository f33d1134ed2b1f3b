/-
  Part 2 of the texts under the law FocusRaw: the calculus, the plain functions, their walks, plain facts.
-/
import Derived.Test.YtfoigppmcelgfaaGreatDoorFocusRawB1
import Derived.KernelRfl
import Derived.ProofKit
import Derived.OpenShut
import Derived.ShutString
import Derived.ChangeOld
import Derived.Below
import Derived.Carry
import Derived.Test.YtfoigppmcelgfaaGreatDoorProg
section
namespace Go.E2
variable {P:Program} {C:Ctx} {F:FS} {ops:Array Oper} {dst:Nat} {op:Op} {ty:TypeId} {pos:String} {after:Array Edge}
def isStr (P:Program) (t:TypeId):Bool:=match P.underlying t with
 | some .string=>true
 | _=>false
theorem qv {t:TypeId} (h:isStr P t=true) (w:World):(underlying t).run P w=.ok .string w:=by
 unfold isStr at h
 split at h
 ·rename_i hu;simp [underlying,program,Sem.run,hu]
 ·cases h
theorem si {t:TypeId} {s:Str} {k:IntKind} {i n:Int} (h:sidxO s i=some n) (ht:isStr P t=true) (w:World):(Instr.index t (.string s) (.int k i)).run P w=.ok (.int .u8 n) w:=by
 unfold sidxO at h
 split at h
 ·rename_i h0
  cases hb:s[i.toNat]? with
  | none=>rw [hb] at h;cases h
  | some b =>
   rw [hb] at h
   simp only [Option.map_some,Option.some.injEq] at h
   subst h
   unfold Instr.index
   have hk:(asIntOf (.int k i)).run P w=.ok (k,i) w:=rfl
   rw [ag hk]
   simp only
   rw [ag (qv ht w)]
   simp only [h0,if_true,hb]
   rfl
 ·cases h
theorem fg {t:TypeId} {x i:Operand} {s:Str} {k:IntKind} {n m:Int} (h:sidxO s n=some m) (hx:rdV F x=some (.string s)) (hi:rdV F i=some (.int k n)) (ht:isStr P t=true) (hs:sideOk F true [x,i]) (hn:Nat.blt dst C.n=true) :
  TriL P C ops ⟨some dst,.index t x i,ty,pos,after,none⟩ ⟨slotsOf [x,i],[],[dst],[]⟩ [(dst,.s (.c (.d (.v (.int .u8 m)))))] [] F:=by
 refine ⟨⟨rfl,rfl⟩,fun F' hS=>?_⟩
 have h1:=aG hS.1
 refine bC (x:=.c (.d (.v (.int .u8 m)))) rfl rfl hn (fun ρ M a' w hr=>⟨_,?_,Rep.v _⟩)
 have hR:=aR hr rfl (aC h1 hs)
 unfold execOp
 simp only
 rw [a7 hR (by simp) ((ba (h1 x (by simp))).trans hx),a7 hR (by simp) ((ba (h1 i (by simp))).trans hi)]
 exact aA (si h ht w)
theorem cB {t:TypeId} {x i:Operand} {s:Str} {k:IntKind} {n m:Int} {gk:Nat} {want g:Bool} (h:g=true→sidxO s n=some m) (hb:guardB F ops gk want=some g) (hx:rdV F x=some (.string s)) (hi:rdV F i=some (.int k n)) (ht:isStr P t=true) (hs:sideOk F g [x,i]) (hn:Nat.blt dst C.n=true) :
  TriL P C ops ⟨some dst,.index t x i,ty,pos,after,some (gk,want)⟩ ⟨gSlot ops gk++slotsOf [x,i],[],[dst],[]⟩ [(dst,.gd g (.c (.d (.v (.int .u8 m)))))] [] F:=by
 refine ⟨⟨rfl,rfl⟩,fun F' hS=>?_⟩
 have h1:=aG (F:=F) (F':=F') (xs:=[x,i]) (fun t ht=>hS.1 t (by simp [ht]))
 refine cX (x:=.c (.d (.v (.int .u8 m)))) rfl ((bS (fun t ht=>hS.1 t (by simp [ht]))).trans hb) rfl hn (fun hg ρ M a' w hr=>⟨_,?_,Rep.v _⟩)
 have hR:=aR hr hg (aC h1 hs)
 unfold execOp
 simp only
 rw [a7 hR (by simp) ((ba (h1 x (by simp))).trans hx),a7 hR (by simp) ((ba (h1 i (by simp))).trans hi)]
 exact aA (si (h hg) ht w)
theorem sf {t:TypeId} {s u:Str} {lo hi:Int} (h:sslcO s lo hi=some u) (ht:isStr P t=true) {ol oh:Option Value} (hl:Bnd ol 0 lo) (hh:Bnd oh s.size hi) (w:World):(Instr.sliceAt t (.string s) ol oh none).run P w=.ok (.string u) w:=by
 unfold sslcO at h
 split at h
 ·rename_i hc
  cases h
  obtain ⟨h0,h1,h2⟩:=hc
  have hb:(Instr.sliceBounds false s.size s.size ol oh none).run P w=.ok (lo.toNat,hi.toNat,s.size) w:=by
   unfold Instr.sliceBounds
   simp only [pure_bind]
   rcases hh with ⟨rfl,rfl⟩ | ⟨k,rfl⟩
   ·rcases hl with ⟨rfl,rfl⟩ | ⟨k',rfl⟩
    ·simp only [Int.toNat_natCast,Int.toNat_zero];rfl
    ·simp only
     rw [ag (bJ h0 (by omega) w)]
     simp only [Int.toNat_natCast];rfl
   ·simp only
    rw [ag (bJ (by omega) (by omega) w)]
    rcases hl with ⟨rfl,rfl⟩ | ⟨k',rfl⟩
    ·rfl
    ·simp only
     rw [ag (bJ h0 (by omega) w)]
     rfl
  have hu:=qv ht w
  unfold Instr.sliceAt
  rw [ag hu]
  simp only
  unfold Instr.slice
  rw [ag hu]
  simp only [Option.isSome_none,Bool.false_eq_true,if_false]
  rw [ag hb]
  rfl
 ·cases h
theorem kf {t:TypeId} {x:Operand} {s u:Str} {lo hi:Int} {l h:Option Operand} {vl vh:Option Value} (hr:sslcO s lo hi=some u) (hx:rdV F x=some (.string s)) (hl:rdO F l=some vl) (hh:rdO F h=some vh) (bl:Bnd vl 0 lo) (bh:Bnd vh s.size hi) (ht:isStr P t=true) (hs:sideOk F true ([x]++l.toList++h.toList)) (hd:Nat.blt dst C.n=true) :
  TriL P C ops ⟨some dst,.slice t x l h none,ty,pos,after,none⟩ ⟨slotsOf ([x]++l.toList++h.toList),[],[dst],[]⟩ [(dst,.s (.c (.d (.v (.string u)))))] [] F:=by
 refine ⟨⟨rfl,rfl⟩,fun F' hS=>?_⟩
 have h1:=aG hS.1
 refine bC (x:=.c (.d (.v (.string u)))) rfl rfl hd (fun ρ M a w hr'=>⟨_,?_,Rep.v _⟩)
 have hR:=aR hr' rfl (aC h1 hs)
 unfold execOp
 simp only
 rw [a7 hR (by simp) ((ba (h1 x (by simp))).trans hx),jL hR (fun y hy=>by simp [hy]) ((jK (fun y hy=>h1 y (by simp [hy]))).trans hl),jL hR (fun y hy=>by simp [hy]) ((jK (fun y hy=>h1 y (by simp [hy]))).trans hh)]
 exact aA (sf hr ht bl bh w)
theorem mr {t:TypeId} {x:Operand} {s u:Str} {lo hi:Int} {l h:Option Operand} {vl vh:Option Value} {gk:Nat} {want g:Bool} (hr:g=true→sslcO s lo hi=some u) (hb:guardB F ops gk want=some g) (hx:rdV F x=some (.string s)) (hl:rdO F l=some vl) (hh:rdO F h=some vh) (bl:Bnd vl 0 lo) (bh:Bnd vh s.size hi) (ht:isStr P t=true) (hs:sideOk F g ([x]++l.toList++h.toList)) (hd:Nat.blt dst C.n=true) :
  TriL P C ops ⟨some dst,.slice t x l h none,ty,pos,after,some (gk,want)⟩ ⟨gSlot ops gk++slotsOf ([x]++l.toList++h.toList),[],[dst],[]⟩ [(dst,.gd g (.c (.d (.v (.string u)))))] [] F:=by
 refine ⟨⟨rfl,rfl⟩,fun F' hS=>?_⟩
 have h1:=aG (F:=F) (F':=F') (xs:=[x]++l.toList++h.toList) (fun t ht=>hS.1 t (by simp only [List.mem_append];exact .inr ht))
 refine cX (x:=.c (.d (.v (.string u)))) rfl ((bS (fun t ht=>hS.1 t (by simp only [List.mem_append];exact .inl ht))).trans hb) rfl hd (fun hg ρ M a w hr'=>⟨_,?_,Rep.v _⟩)
 have hR:=aR hr' hg (aC h1 hs)
 unfold execOp
 simp only
 rw [a7 hR (by simp) ((ba (h1 x (by simp))).trans hx),jL hR (fun y hy=>by simp [hy]) ((jK (fun y hy=>h1 y (by simp [hy]))).trans hl),jL hR (fun y hy=>by simp [hy]) ((jK (fun y hy=>h1 y (by simp [hy]))).trans hh)]
 exact aA (sf (hr hg) ht bl bh w)
theorem lU (s:Str):∀ (n i:Nat) (acc:Array Value),Conv.runesFrom s n i acc=acc++((runesF s n i).map fun r=>Value.int .i32 r).toArray
 | 0,i,acc=>by simp [Conv.runesFrom,runesF]
 | n+1,i,acc=>by
  unfold Conv.runesFrom runesF
  split
  ·show Conv.runesFrom s n (i+(Utf8.decode s i).2) (acc.push (Value.int IntKind.i32 (Int.ofNat (Utf8.decode s i).1)))=_
   rw [lU s n]
   apply Array.ext'
   simp
  ·simp
theorem RelW.allocM' {bl:Nat→Option Ob} {ρ:Env} {M:Mem} {w:World} {vs:List Value} {t:TypeId} {d:Nat} (h:RelW C bl ρ M w) (n:Nat) (hn:n≤vs.length):RelW C bl ρ (M.put w.heap.size 0 (vs.take n)) (World.alloc { w with drawn:=d } (.cells vs.toArray t)) :=
 (h.drew d).allocM n hn
def runeSl (P:Program) (s d:TypeId):Bool:=match P.underlying s with
 | some .string=>match P.underlying d with
  | some (.slice e)=>match P.underlying e with
   | some (.int .i32)=>true
   | _=>false
  | _=>false
 | _=>false
theorem wH {s d:TypeId} {x:Operand} {u:Str} (hx:rdV F x=some (.string u)) (ht:runeSl P s d=true) (hs:sideOk F true [x]) (hd:Nat.blt dst C.n=true) :
  TriL P C ops ⟨some dst,.convert s d x,ty,pos,after,none⟩ ⟨slotsOf [x],[],[dst],[]⟩ [(dst,.s (.c (.d (.sl (List.map (eInt .i32) (runes u))))))] [] F:=by
 refine ⟨⟨rfl,rfl⟩,fun F' hS=>?_⟩
 have h1:=aG hS.1
 refine Tri.val [] rfl rfl hd (fun _ h=>by cases h) (fun k hk=>by rw [bF];exact hk) (fun _ h=>by cases h) (fun ρ M a w hr=>?_)
 have hR:=aR hr rfl (aC h1 hs)
 have ex:=a7 hR (by simp) ((ba (h1 x (by simp))).trans hx)
 unfold runeSl at ht
 split at ht
 ·rename_i hu1
  split at ht
  ·rename_i e hu2
   split at ht
   ·rename_i hu3
    let vs:List Value:=(runes u).map fun r=>Value.int .i32 r
    let q:Question:=.appendCap vs.length 0 e
    let cap:=q.cut (w.tape w.drawn q)
    have hcap:vs.length≤cap:=by simp [cap,q,Question.cut]
    let all:List Value:=vs++List.replicate (cap - vs.length) (.int .i32 0)
    have hrun:(convert s d (.string u)).run P w=.ok (.slice (some ⟨w.heap.size,0,none⟩) vs.length cap) (World.alloc { w with drawn:=w.drawn+1 } (.cells all.toArray e)):=by
     unfold convert
     have r1:(underlying s).run P w=.ok .string w:=by simp [underlying,program,Sem.run,hu1]
     have r2:(underlying d).run P w=.ok (.slice e) w:=by simp [underlying,program,Sem.run,hu2]
     have r3:(underlying e).run P w=.ok (.int .i32) w:=by simp [underlying,program,Sem.run,hu3]
     rw [ag r1,ag r2]
     simp only
     rw [ag r3]
     simp only [Conv.stringToRunes]
     have e1:Conv.runesFrom u u.size 0 #[]=vs.toArray:=by rw [lU];simp [vs,runes]
     rw [e1]
     simp only [List.size_toArray]
     have e2:vs.toArray++Array.replicate (cap - vs.length) (Value.int .i32 0)=all.toArray:=by apply Array.ext';simp [all]
     have hch:∀ (K:Nat→Sem Value),(choose q >>= K).run P w=(K cap).run P { w with drawn:=w.drawn+1 }:=fun K=>by simp [choose,Sem.run,Question.forced,bind,Sem.bind,q,cap]
     rw [hch,e2]
     rfl
    have hno:=hr.heap.mem.none (Nat.le_refl w.heap.size)
    have hle:M.le (M.put w.heap.size 0 (all.take vs.length)):=dP (fun o _=>hno.1 o)
    have htk:all.take vs.length=vs:=by simp [all]
    refine ⟨.slice (some ⟨w.heap.size,0,none⟩) vs.length cap,World.alloc { w with drawn:=w.drawn+1 } (.cells all.toArray e),M.put w.heap.size 0 (all.take vs.length),fun _=>undef,?_,hle,fun ρ' h0 _=>⟨?_,by rw [bF];exact h0.heap.allocM' vs.length (by simp [all])⟩⟩
    ·unfold execOp
     simp only
     rw [ex]
     exact aA hrun
    ·show Rep _ _ _
     have hl:vs.length=(List.map (eInt .i32) (runes u)).length:=by simp [vs]
     rw [hl]
     refine dO (sz:=1) (vs:=vs) (by rw [← hl];exact hcap) (aO (enc:=eInt .i32) (fun _=>rfl) _) ?_ (fun k v hk=>?_)
     ·have key:∀ l:List Int,RepsD (M.put w.heap.size 0 (all.take (List.map (eInt .i32) (runes u)).length)) (List.map (eInt .i32) l).flatten (l.map fun r=>Value.int .i32 r):=by
       intro l
       induction l with
       | nil=>trivial
       | cons y r ih=>exact ⟨Rep.v _,ih⟩
      exact key (runes u)
     ·have:=fv (M:=M) (b:=w.heap.size) (off:=0) (vs:=all.take (List.map (eInt .i32) (runes u)).length) (k:=k) (u:=v) (by rw [← hl,htk];exact hk)
      exact this
   ·cases ht
  ·cases ht
 ·cases ht
def slStr (P:Program) (k:IntKind) (s d:TypeId):Bool:=match P.underlying d with
 | some .string=>match P.underlying s with
  | some (.slice e)=>match P.underlying e with
   | some (.int k')=>decide (k'=k)
   | _=>false
  | _=>false
 | _=>false
theorem ud {k:IntKind} {M:Mem} {w:World} {L:List Int} {v:Value} (hv:Rep M (.sl (L.map (eInt k))) v) (hm:InW M w):(∃ c,v=.slice none 0 c∧L=[])∨∃ a c,v=.slice (some a) L.length c∧(loadCells a L.length).run P w=.ok ((L.map fun n=>Value.int k n).toArray) w:=by
 have key:∀ l:List Int,∀ vs,RepsD M (l.map (eInt k)).flatten vs→vs=l.map fun n=>Value.int k n:=by
  intro l
  induction l with
  | nil=>intro vs h;cases vs with
   | nil=>rfl
   | cons _ _=>exact h.elim
  | cons x r ih =>
   intro vs h
   cases vs with
   | nil=>exact h.elim
   | cons u us=>rw [bz h.1,ih us h.2];rfl
 by_cases hL:L=[]
 ·subst hL
  obtain ⟨a,c,rfl⟩:=hv.sl_cases
  cases a with
  | none=>exact .inl ⟨c,rfl,rfl⟩
  | some a=>exact .inr ⟨a,c,rfl,rfl⟩
 ·obtain ⟨b,off,cap,sz,vs,rfl,hc,hrow,hrep,hm'⟩:=hv.flat (by simpa using hL)
  refine .inr ⟨_,cap,by rw [List.length_map],?_⟩
  have e:=key L vs hrep
  subst e
  have:=dK (P:=P) (w:=w) (b:=b) (off:=off) (L.map fun n=>Value.int k n) (fun j v hj=>hm.cell _ _ _ (hm' j v hj))
  rwa [List.length_map] at this
theorem vB {k:IntKind} {f:Value→ByteArray→Sem (ForInStep ByteArray)} {g:ByteArray→Int→ByteArray} (hf:∀ n r,f (.int k n) r=pure (ForInStep.yield (g r n))) (w:World):∀ (l:List Int) (s:ByteArray),(forIn (m:=Sem) ((l.map fun n=>Value.int k n).toArray) s f).run P w=.ok (l.foldl g s) w:=by
 intro l
 induction l with
 | nil=>intro s;rfl
 | cons n r ih =>
  intro s
  rw [← Array.forIn_toList]
  simp only [List.map_cons,List.forIn_cons]
  rw [hf]
  simp only [pure_bind,List.foldl_cons]
  have:=ih (g s n)
  rw [← Array.forIn_toList] at this
  exact this
theorem rp {M:Mem} {w:World} {L:List Int} {v:Value} (hv:Rep M (.sl (L.map (eInt .i32))) v) (hm:InW M w):(Conv.runesToString v).run P w=.ok (.string (ofRunes L)) w:=by
 rcases ud (P:=P) hv hm with ⟨c,rfl,rfl⟩ | ⟨a,c,rfl,h⟩
 ·rfl
 ·unfold Conv.runesToString
  simp only
  rw [ag h]
  rw [ag (vB (P:=P) (k:=.i32) (g:=fun s n=>s++Utf8.encode n) (fun _ _=>rfl) w L _)]
  rfl
theorem uK {k:IntKind} {s d:TypeId} (h:slStr P k s d=true):∃ e,(∀ w:World,(underlying s).run P w=.ok (.slice e) w)∧(∀ w:World,(underlying d).run P w=.ok .string w)∧(∀ w:World,(underlying e).run P w=.ok (.int k) w):=by
 unfold slStr at h
 split at h
 ·rename_i h1
  split at h
  ·rename_i e h2
   split at h
   ·rename_i k' h3
    have:=of_decide_eq_true h
    subst this
    exact ⟨e,fun w=>by simp [underlying,program,Sem.run,h2],fun w=>by simp [underlying,program,Sem.run,h1],fun w=>by simp [underlying,program,Sem.run,h3]⟩
   ·cases h
  ·cases h
 ·cases h
theorem wj {s d:TypeId} (h:slStr P .i32 s d=true) {M:Mem} {w:World} {L:List Int} {v:Value} (hv:Rep M (.sl (L.map (eInt .i32))) v) (hm:InW M w):(convert s d v).run P w=.ok (.string (ofRunes L)) w:=by
 obtain ⟨e,r1,r2,r3⟩:=uK h
 have hb:=rp (P:=P) hv hm
 obtain ⟨a,c,rfl⟩:=hv.sl_cases
 unfold convert
 rw [ag (r1 w),ag (r2 w)]
 simp only
 rw [ag (r3 w)]
 exact hb
theorem tU {s d:TypeId} {x:Operand} {L:List Int} (hx:rdS F x=some (L.map (eInt .i32))) (ht:slStr P .i32 s d=true) (hs:sideOk F true [x]) (hd:Nat.blt dst C.n=true) :
  TriL P C ops ⟨some dst,.convert s d x,ty,pos,after,none⟩ ⟨slotsOf [x],[],[dst],[]⟩ [(dst,.s (.c (.d (.v (.string (ofRunes L))))))] [] F:=by
 refine ⟨⟨rfl,rfl⟩,fun F' hS=>?_⟩
 have h1:=aG hS.1
 refine bC (x:=.c (.d (.v (.string (ofRunes L))))) rfl rfl hd (fun ρ M a w hr=>⟨_,?_,Rep.v _⟩)
 have hR:=aR hr rfl (aC h1 hs)
 exact aA (wj ht (gF hR (by simp) ((fA (h1 x (by simp))).trans hx)) hr.heap.mem)
def eArr {α:Type} (n:Nat) (e1:α→D) (a:Nat→α):List D:=(List.range n).map fun i=>e1 (a i)
def arrC {α:Type} (n:Nat) (e1:α→D) (a:Nat→α):List Cell:=(List.range n).map fun i=>.d (e1 (a i))
def upd {α:Type} (a:Nat→α) (k:Nat) (x:α):Nat→α:=fun i=>if i=k then x else a i
theorem xT {α:Type} (n:Nat) (e1:α→D) (a:Nat→α):(arrC n e1 a).length=n:=by simp [arrC]
theorem zs {α:Type} {n:Nat} {e1:α→D} {a:Nat→α} {pre post:List Cell} {p k:Nat} (hp:pre.length=p) (hk:k<n):(pre++(arrC n e1 a++post))[p+k]? = some (.d (e1 (a k))):=by
 subst hp
 rw [List.getElem?_append_right (by omega),show pre.length+k - pre.length=k by omega,List.getElem?_append_left (by rw [xT];exact hk)]
 simp [arrC,hk]
theorem rW {α:Type} {enc:α→List D} {L X R:List α} {M:Mem} {w:World} {x:Value} {ts tx e sz:Nat} {ρ:Env} {bl:Nat→Option Ob} {j j':Nat} (ht:slInfo P ts=some (e,sz)) (hx':isSl P tx=true) (hby:bytesOk P e=true) (hsz:allR sz enc) (hone:∀ x,rowOne (enc x)=true)
  (happ:appO L X=some R) (hx:Rep M (.sl (X.map enc)) x) (hrw:RelW C bl ρ M w) (hj:bl j=some (.vec sz (L.map enc))) :
  ∃ u w',(Builtin.append_ #[ts,tx] ty #[ρ j,x]).run P w=.ok u w'∧∀ ρ' bl',RelW C bl ρ' M w→ρ' j'=u→(∀ k o,bl' k=some o→o=.dead∨(k=j'∧o=.vec sz (R.map enc))∨(bl k=some o∧k≠j))→ρ' j=ρ j→RelW C bl' ρ' M w':=by
 obtain ⟨hlen,rfl⟩:=lr happ
 obtain ⟨hu,inf,hinf,hisz⟩:=gC ht
 obtain ⟨sa,scap,e1,hcap,hvx⟩:=dF (hrw.inv j _ hj)
 obtain ⟨xa,xcap,rfl⟩:=hx.sl_cases
 simp only [List.length_map] at hx ⊢
 obtain ⟨news,hn1,hn2⟩:=cn (P:=P) (w:=w) hx (aO hsz X) hrw.mem
 simp only [List.length_map] at hn1
 have hnl:news.length=X.length*sz:=by rw [hn2.len,a6 (aO hsz X),List.length_map]
 obtain ⟨e',htt⟩:∃ e',(underlying tx).run P w=.ok (.slice e') w:=by
  unfold isSl at hx'
  split at hx'
  ·rename_i e' hu'
   exact ⟨e',by simp [underlying,program,Sem.run,hu']⟩
  ·cases hx'
 have hLX:(L++X).length=L.length+X.length:=by simp
 have hflat:((L++X).map enc).flatten=(L.map enc).flatten++(X.map enc).flatten:=by rw [List.map_append,List.flatten_append]
 have hmul:(L.length+X.length)*sz=L.length*sz+X.length*sz:=Nat.add_mul ..
 rw [e1]
 by_cases hfit:L.length+X.length≤scap
 ·by_cases hcap0:0<scap
  ·obtain ⟨b,off,arr,ty',vs,rfl,hb,hroom,hnone,hvs,hvc⟩:=hvx hcap0
   have hvl:vs.length=L.length*sz:=by rw [hvs.len,a6 (aO hsz L),List.length_map]
   have hroom':off+(L.length+X.length)*sz≤arr.size:=Nat.le_trans (Nat.add_le_add_left (Nat.mul_le_mul_right sz hfit) off) hroom
   obtain ⟨w',q1,q2,q3,q4,q5,q6,q7⟩:=ca (P:=P) (b:=b) (off:=off+L.length*sz) (ty:=ty') news 0 w arr hb (ga (iV hone X) hn2) (by omega)
   rw [Nat.add_zero] at q2
   refine ⟨.slice (some ⟨b,off,none⟩) (L.length+X.length) scap,w',?_,fun ρ' bl' hr' hρ' hbl hρj=>?_⟩
   ·unfold Builtin.append_
    simp only [List.getElem?_toArray,List.getElem?_cons_zero,List.getElem?_cons_succ]
    rw [ag (bt ht w)]
    simp only
    rw [ag (bM ht w)]
    simp only [pure_bind]
    rw [ag htt]
    simp only [Bool.false_eq_true,if_false,Builtin.lenOf,pure_bind,Bool.not_false,if_true]
    rw [if_pos hfit,ag hn1]
    simp only [d9]
    rw [ag q1]
    rfl
   ·have hρj':ρ' j=.slice (some ⟨b,off,none⟩) L.length scap:=by first | exact hρj | exact hρj.trans e1
    have hown:(Ob.vec sz (L.map enc)).blkOf (ρ' j)=some b:=by rw [hρj'];simp [Ob.blkOf,hcap0]
    refine hr'.change j' (fun x=>x=b) ?_ ⟨q5,q6,q7,Nat.le_of_eq q4.symm⟩ (fun x _ hx=>q3 x hx) (Mem.le_refl _) (fun _ _ _=>⟨fun _=>rfl,rfl⟩) ?_ (fun k o hk=>?_) (fun x hx=>by rw [hx];exact hr'.noJunk hj hown)
    ·rintro x rfl _
     exact hr'.priv j _ _ hj hown
    ·rintro x (rfl | hx)
     ·exact ⟨fun o v hv=>(by rw [hnone o] at hv;cases hv),fun o ho=>(by rw [hr'.mem.noObj hb] at ho;cases ho)⟩
     ·have:=hr'.mem.none hx
      exact ⟨fun o v hv=>(by rw [this.1 o] at hv;cases hv),fun o ho=>(by rw [this.2] at ho;cases ho)⟩
    ·rcases hbl k o hk with rfl | ⟨rfl,rfl⟩ | ⟨h1,h2⟩
     ·exact .inl rfl
     ·refine .inr (.inr ⟨rfl,?_,fun x hx=>.inl ?_⟩)
      ·rw [hρ',← hLX]
       refine nM (vs:=vs++news) hsz (by rw [hLX];exact hfit) q2 (by simp [fX];exact hroom) hnone (by rw [hflat];exact hvs.append hn2) (fun q u hq=>?_)
       rw [List.getElem?_toArray,fx _ _ _ _ (by have:arr.toList.length=arr.size:=Array.length_toList;omega)]
       rcases Nat.lt_or_ge q vs.length with h1 | h1
       ·rw [List.getElem?_append_left h1] at hq
        rw [if_neg (by omega)]
        simpa using hvc q u hq
       ·rw [List.getElem?_append_right h1] at hq
        have h3:=(List.getElem?_eq_some_iff.1 hq).1
        rw [if_pos (by omega),show off+q - (off+L.length*sz)=q - vs.length by omega];exact hq
      ·rw [hρ'] at hx
       simp only [Ob.blkOf,hcap0,if_true,Option.some.injEq] at hx
       exact hx.symm
     ·refine .inr (.inl ⟨h1,fun x hx hS=>?_⟩)
      subst hS
      exact h2 (hr'.dist k j _ _ _ h1 hj hx hown)
  ·have hL:L=[]:=List.eq_nil_of_length_eq_zero (by omega)
   have hX:X=[]:=List.eq_nil_of_length_eq_zero (by omega)
   subst hL hX
   have hc0:scap=0:=by omega
   subst hc0
   have hn0:news=[]:=by apply List.eq_nil_of_length_eq_zero;rw [hnl];simp
   subst hn0
   refine ⟨.slice sa 0 0,w,?_,fun ρ' bl' hr' hρ' hbl hρj=>?_⟩
   ·unfold Builtin.append_
    simp only [List.getElem?_toArray,List.getElem?_cons_zero,List.getElem?_cons_succ]
    rw [ag (bt ht w)]
    simp only
    rw [ag (bM ht w)]
    simp only [pure_bind]
    rw [ag htt]
    simp only [Bool.false_eq_true,if_false,Builtin.lenOf,pure_bind,Bool.not_false,if_true]
    rw [if_pos hfit,ag hn1]
    cases sa <;> rfl
   ·refine hr'.change j' (fun _=>False) (fun _ h=>h.elim) ⟨rfl,rfl,rfl,Nat.le_refl _⟩ (fun _ _ _=>rfl) (Mem.le_refl _) (fun _ _ _=>⟨fun _=>rfl,rfl⟩) (fun b _=>⟨fun o v hv=>hr'.mem.cell b o v hv,fun o ho=>hr'.mem.obj b o ho⟩) (fun k o hk=>?_)
    rcases hbl k o hk with rfl | ⟨rfl,rfl⟩ | ⟨h1,h2⟩
    ·exact .inl rfl
    ·refine .inr (.inr ⟨rfl,?_,fun x hx=>?_⟩)
     ·rw [hρ']
      exact ⟨sa,0,rfl,Nat.le_refl _,fun i row hi=>by simp at hi,fun h=>absurd h (by omega)⟩
     ·rw [hρ'] at hx
      cases sa with
      | none=>cases hx
      | some a=>simp [Ob.blkOf] at hx
    ·exact .inr (.inl ⟨h1,fun _ _ h=>h⟩)
 ·-- a new row
  have hby':∃ zv,inf.zero=some zv∧zv.cells.size=inf.size∧inf.bytes≤65536:=by
   unfold bytesOk at hby
   rw [hinf] at hby
   simp only at hby
   split at hby
   ·rename_i zv hz
    split at hby
    ·rename_i hq;exact ⟨zv,hz,Nat.eq_of_beq_eq_true hq,Nat.le_of_ble_eq_true hby⟩
    ·cases hby
   ·cases hby
  obtain ⟨zv,hzv,hzsz,hbytes⟩:=hby'
  have hti:∀ w:World,(typeInfo e).run P w=.ok inf w:=fun w=>by simp [typeInfo,program,Sem.run,hinf]
  have hzr:∀ w:World,(zeroValue e).run P w=.ok zv w:=fun w=>by simp [zeroValue,typeInfo,program,Sem.run,hinf,hzv]
  have hnc:=lF (n:=L.length+X.length) (c:=scap) (by omega)
  have hnb:Builtin.nextslicecap (L.length+X.length) scap*inf.bytes≤2 ^ 48:=by
   have h1:Builtin.nextslicecap (L.length+X.length) scap≤2147483840:=by omega
   exact Nat.le_trans (Nat.mul_le_mul h1 hbytes) (by decide)
  obtain ⟨newCap,hnc2,w1,hw1,hch⟩:∃ newCap,L.length+X.length≤newCap∧∃ w1:World,w1={ w with drawn:=w.drawn+1 }∧∀ (K:Nat→Sem Value),(choose (.appendCap (L.length+X.length) scap e) >>= K).run P w=(K newCap).run P w1 :=
   ⟨(Question.appendCap (L.length+X.length) scap e).cut (w.tape w.drawn (.appendCap (L.length+X.length) scap e)),by simp [Question.cut],_,rfl,fun K=>by simp [choose,Sem.run,Question.forced,bind,Sem.bind]⟩
  have hin1:InW M w1:=by subst hw1;exact ⟨hrw.mem.cell,hrw.mem.obj,hrw.mem.junk⟩
  have hold:∃ olds,(Builtin.firstCells sz L.length (.slice sa L.length scap)).run P w1=.ok olds.toArray w1∧RepsD M (L.map enc).flatten olds:=by
   by_cases hcap0:0<scap
   ·obtain ⟨b,off,arr,ty',vs,rfl,hb,hroom,hnone,hvs,hvc⟩:=hvx hcap0
    have hvl:vs.length=L.length*sz:=by rw [hvs.len,a6 (aO hsz L),List.length_map]
    refine ⟨vs,?_,hvs⟩
    show (loadCells ⟨b,off,none⟩ (L.length*sz)).run P w1=_
    rw [← hvl]
    refine dK vs (fun i v hi=>?_)
    have:=hvc i v hi
    simp only [World.cell?,hw1,hb]
    simpa using this
   ·have hL:L=[]:=List.eq_nil_of_length_eq_zero (by omega)
    subst hL
    refine ⟨[],?_,trivial⟩
    cases sa with
    | none=>rfl
    | some a =>
     show (loadCells a (0*sz)).run P w1=_
     rw [Nat.zero_mul];rfl
  obtain ⟨olds,ho3,ho4⟩:=hold
  obtain ⟨news1,hn3,hn4⟩:=cn (P:=P) (w:=w1) hx (aO hsz X) hin1
  simp only [List.length_map] at hn3
  have hol:olds.length=L.length*sz:=by rw [ho4.len,a6 (aO hsz L),List.length_map]
  have hnl1:news1.length=X.length*sz:=by rw [hn4.len,a6 (aO hsz X),List.length_map]
  have hroomr:∀ n,∀ w:World,(askRoom n).run P w=.ok () w:=fun n w=>by
   unfold askRoom;split <;> rfl
  let rest:=Builtin.zeroCells zv.cells (newCap - (L.length+X.length))
  have hw1h:w1.heap=w.heap:=by rw [hw1]
  refine ⟨.slice (some ⟨w.heap.size,0,none⟩) (L.length+X.length) newCap,w1.alloc (.cells (olds++news1++rest.toList).toArray e),?_,fun ρ' bl' hr' hρ' hbl hρj=>?_⟩
  ·unfold Builtin.append_
   simp only [List.getElem?_toArray,List.getElem?_cons_zero,List.getElem?_cons_succ]
   rw [ag (bt ht w)]
   simp only
   rw [ag (bM ht w)]
   simp only [pure_bind]
   rw [ag htt]
   simp only [Bool.false_eq_true,if_false,Builtin.lenOf,pure_bind,Bool.not_false,if_true]
   rw [if_neg hfit,ag (hti w)]
   rw [if_neg (by
    intro h
    have h1:=h.1
    have h2:IntKind.i64.max=9223372036854775807:=by decide
    rw [h2] at h1
    omega)]
   rw [ag (hti w)]
   rw [if_neg (by omega),hch]
   rw [ag (hti w1),ag (hroomr _ w1),ag ho3,ag hn3,ag (hzr w1)]
   have e1:olds.toArray++news1.toArray++rest=(olds++news1++rest.toList).toArray:=by apply Array.ext';simp
   show (do let y ← newRow e (olds.toArray++news1.toArray++rest);pure (Value.slice (some y) (L.length+X.length) newCap):Sem Value).run P w1=_
   rw [e1,← hw1h]
   rfl
  ·have hr1:RelW C bl ρ' M w1:=by subst hw1;exact hr'.drew _
   refine hr1.change j' (fun _=>False) (fun _ h=>h.elim) ⟨rfl,rfl,rfl,by rw [dN];simp⟩ (fun b hb _=>iO hb) (Mem.le_refl _) (fun _ _ _=>⟨fun _=>rfl,rfl⟩) (fun b hb=>?_) (fun k o hk=>?_)
   ·rcases hb with hb | hb
    ·exact hb.elim
    ·have:=hr1.mem.none hb
     exact ⟨fun o v hv=>(by rw [this.1 o] at hv;cases hv),fun o ho=>(by rw [this.2] at ho;cases ho)⟩
   ·rcases hbl k o hk with rfl | ⟨rfl,rfl⟩ | ⟨h1,h2⟩
    ·exact .inl rfl
    ·refine .inr (.inr ⟨rfl,?_,fun x hx=>.inr ?_⟩)
     ·rw [hρ',← hLX,← hw1h]
      refine nM (vs:=olds++news1) hsz (by rw [hLX];exact hnc2) (fe _ _) ?_ (fun o=>(hin1.none (Nat.le_refl _)).1 o) (by rw [hflat];exact ho4.append hn4) (fun q u hq=>?_)
      ·have hrs:rest.size=(newCap - (L.length+X.length))*sz:=by simp [rest,Builtin.zeroCells,hzsz,hisz]
       have h5:newCap*sz=(L.length+X.length)*sz+(newCap - (L.length+X.length))*sz:=by rw [← Nat.add_mul];congr 1;omega
       simp only [List.size_toArray,List.length_append,Array.length_toList]
       omega
      ·have hql:=(List.getElem?_eq_some_iff.1 hq).1
       rw [Nat.zero_add,List.getElem?_toArray,List.getElem?_append_left hql];exact hq
     ·rw [hρ'] at hx
      simp only [Ob.blkOf] at hx
      split at hx
      ·cases hx;rw [hw1h];exact Nat.le_refl _
      ·cases hx
    ·exact .inr (.inl ⟨h1,fun _ _ h=>h⟩)
theorem qT {α:Type} {enc:α→List D} {L X R:List α} {ts tx e sz:Nat} {s x:Operand} {j j':Nat} (happ:appO L X=some R) (hs:opnd F s=some (.s (.c (.own j)))) (hj:F.bl j=some (.vec sz (L.map enc))) (hx:rdS F x=some (X.map enc)) (ht:slInfo P ts=some (e,sz)) (htx:isSl P tx=true) (hby:bytesOk P e=true) (hsz:allR sz enc) (hone:∀ x,rowOne (enc x)=true)
  (hsd:sideOk F true [s,x]) (hd:Nat.blt dst C.n=true) (hj':F.bl j'=none) :
  TriL P C ops ⟨some dst,.call ⟨.builtin .append,#[s,x],#[ts,tx]⟩,ty,pos,after,none⟩ ⟨slotsOf [s,x],[j,j'],[dst],[j',j]⟩ [(dst,.s (.c (.own j')))] [(j',.vec sz (R.map enc)),(j,.dead)] F:=by
 refine ⟨⟨rfl,rfl⟩,fun F' hS=>?_⟩
 have h1:=aG hS.1
 have hs':=(h1 s (by simp)).trans hs
 have hj1:F'.bl j=some (.vec sz (L.map enc)):=(hS.2 j (by simp)).trans hj
 have hj2:F'.bl j'=none:=(hS.2 j' (by simp)).trans hj'
 refine Tri.val [j'] rfl rfl hd (fun k hk=>by simp at hk;subst hk;exact hj2) (fun k hk=>cJ hk) (fun k hk=>by simp at hk;subst hk;simp [over,look]) (fun ρ M a w hr=>?_)
 have hR:=aR hr rfl (aC h1 hsd)
 have es:a.eval s=ρ j:=aU hr hs'
 have hrx:=gF hR (by simp) ((fA (h1 x (by simp))).trans hx)
 obtain ⟨u,w',g1,g4⟩:=rW (P:=P) (ty:=ty) (j:=j) (j':=j') ht htx hby hsz hone happ hrx hr.heap hj1
 refine ⟨u,w',M,fun _=>u,?_,Mem.le_refl _,fun ρ' h0 hnv=>⟨(hnv j' (by simp)).symm,?_⟩⟩
 ·unfold execOp
  simp only [resolve,List.map_toArray,List.map_cons,List.map_nil,pure_bind,invoke,es]
  exact aA g1
 ·have es':a.eval s=ρ' j:=aU h0 hs'
  refine g4 ρ' _ h0.heap (hnv j' (by simp)) (fun k o hk=>?_) (es'.symm.trans es)
  have hk':over [(j',Ob.vec sz (R.map enc)),(j,Ob.dead)] F'.bl k=some o:=hk
  unfold over at hk'
  rw [au,au] at hk'
  by_cases e1:j'=k
  ·subst e1;rw [if_pos rfl] at hk';cases hk';exact .inr (.inl ⟨rfl,rfl⟩)
  ·rw [if_neg e1] at hk'
   by_cases e2:j=k
   ·subst e2;rw [if_pos rfl] at hk';cases hk';exact .inl rfl
   ·rw [if_neg e2] at hk'
    exact .inr (.inr ⟨hk',fun e=>e2 e.symm⟩)
theorem wJ [HasTab P C] {f:FuncId} {args:Array Operand} {argTypes:Array TypeId} {ys as0:List A1} {x:A1} {gk:Nat} {want g:Bool} (hc:g=true→Con P f as0 [] (.s x) []) (hb:guardB F ops gk want=some g) (hy:rds F args.toList=some ys) (hfit:seen F ys as0) (hs:sideOk F g args.toList) (hf:Entry P f) (hsa:mo [] as0=true) (hfl:ui x=true) (hn:Nat.blt dst C.n=true) :
  TriL P C ops ⟨some dst,.call ⟨.value (.func f),args,argTypes⟩,ty,pos,after,some (gk,want)⟩ ⟨gSlot ops gk++slotsOf args.toList,ownsOf ys,[dst],[]⟩ [(dst,.gd g x)] [] F:=by
 refine ⟨⟨rfl,rfl⟩,fun F' hS=>?_⟩
 have h1:=aG (F:=F) (F':=F') (xs:=args.toList) (fun t ht=>hS.1 t (by simp [ht]))
 have hb':=(bS (want:=want) (fun t ht=>hS.1 t (by simp [ht]))).trans hb
 obtain ⟨fn,hf1,hf2,hf3⟩:=hf
 cases g with
 | false =>
  intro Q' K' hK ρ M a w hr
  rw [da hr.at rfl hb',if_neg (by simp)]
  refine hK ρ M _ _ fun ρ' ha=>?_
  have h0:=hr ρ' (fun j hj=>ha j (by rw [FS.upd,bF];exact hj))
  exact h0.put (v:=.gd false x) (Nat.blt_eq.mp hn) rfl (Mem.le_refl _) (by rw [bF];exact h0.heap)
 | true =>
  have ht:=(uz (P:=P) (C:=C) (F:=F') (ops:=ops) (dst:=dst) (ty:=ty) (pos:=pos) (after:=after) (argTypes:=argTypes) (res:=.s x) (hc rfl) ((fy h1).trans hy) (mM hS.2 hfit) (aC h1 hs) ⟨fn,hf1,hf2,hf3⟩ hsa hfl hn).tri
  intro Q' K' hK ρ M a w hr
  have ht':=ht Q' K' (fun ρ M a w hr=>hK ρ M a w (fun ρ' ha=>by
   have h0:=hr ρ' ha
   refine ⟨h0.defers,h0.size,fun s v hv=>?_,h0.heap⟩
   have hv':over [(dst,AV.gd true x)] F'.sl s=some v:=hv
   rw [bP] at hv'
   split at hv'
   ·rename_i e
    subst e
    cases hv'
    exact h0.slots dst (.s x) (by show over [(dst,AV.s x)] F'.sl dst=_;rw [bP,if_pos rfl])
   ·rename_i e
    exact h0.slots s v (by show over [(dst,AV.s x)] F'.sl s=_;rw [bP,if_neg e];exact hv'))) ρ M a w hr
  rw [da hr.at rfl hb',if_pos rfl]
  rw [if_pos (cK rfl)] at ht'
  exact ht'
theorem lu {sl:List (Nat×AV)} {bl:List (Nat×Ob)} {nx:Nat} (j i jn sz:Nat) (cs cs':List Cell) (u:TypeId) (nx':Nat) (hj:look bl j=some (.blk cs u)) (hi:cs[i]? = some (.d (.v (.slice none 0 0)))) (hcs:cs.set i (.tl jn [])=cs') (hn:look bl jn=none):Conv C ⟨sl,bl,nx⟩ ⟨sl,(j,.blk cs' u) :: (jn,.tail sz) :: bl,nx'⟩:=by
 subst hcs
 intro ρ M a w hr
 have hne:j≠jn:=fun e=>by subst e;rw [hj] at hn;cases hn
 refine ⟨fun k=>if k=jn then .slice none 0 0 else ρ k,M,fun ρ' ha=>?_⟩
 have hag:Agree (look bl) ρ ρ':=fun k hk=>by
  have hnk:k≠jn:=fun e=>hk (e ▸ hn)
  have:=ha k (by
   show look ((j,_) :: (jn,_) :: bl) k≠none
   rw [au];split
   ·simp
   ·rw [au,if_neg (Ne.symm hnk)];exact hk)
  rw [this];exact if_neg hnk
 have hnj:ρ' jn=.slice none 0 0:=by
  have:=ha jn (by show look ((j,_) :: (jn,_) :: bl) jn≠none;rw [au,if_neg hne,au,if_pos rfl];simp)
  rw [this];exact if_pos rfl
 have h0:=hr ρ' hag
 refine ⟨h0.defers,h0.size,h0.slots,?_⟩
 -- first the room,then the cell
 have h1:RelW C (look ((jn,Ob.tail sz) :: bl)) ρ' M w:=by
  refine h0.heap.change jn (fun _=>False) (fun _ h=>h.elim) ⟨rfl,rfl,rfl,Nat.le_refl _⟩ (fun _ _ _=>rfl) (Mem.le_refl _) (fun _ _ _=>⟨fun _=>rfl,rfl⟩) (fun b _=>⟨fun o v hv=>h0.heap.mem.cell b o v hv,fun o ho=>h0.heap.mem.obj b o ho⟩) (fun k ob hk=>?_)
  rw [au] at hk
  split at hk
  ·rename_i e
   subst e
   cases hk
   refine .inr (.inr ⟨rfl,?_,fun b hb=>?_⟩)
   ·rw [hnj];exact ⟨none,0,0,rfl,Nat.le_refl _,fun h=>absurd h (Nat.lt_irrefl _)⟩
   ·rw [hnj] at hb;cases hb
  ·exact .inr (.inl ⟨hk,fun _ _ h=>h⟩)
 have hj1:look ((jn,Ob.tail sz) :: bl) j=some (.blk cs u):=by rw [au,if_neg (Ne.symm hne)];exact hj
 refine h1.change j (fun b=>b=blockOf (ρ' j)) ?_ ⟨rfl,rfl,rfl,Nat.le_refl _⟩ (fun _ _ _=>rfl) (Mem.le_refl _) (fun _ _ _=>⟨fun _=>rfl,rfl⟩) (fun b _=>⟨fun o v hv=>h1.mem.cell b o v hv,fun o ho=>h1.mem.obj b o ho⟩) (fun k ob hk=>?_) (fun b hb=>h1.noJunk hj1 (by rw [hb];rfl))
 ·rintro b rfl _
  exact h1.priv j _ _ hj1 rfl
 ·have hk':look ((j,Ob.blk (cs.set i (.tl jn [])) u) :: (jn,Ob.tail sz) :: bl) k=some ob:=hk
  rw [au] at hk'
  split at hk'
  ·rename_i e
   subst e
   cases hk'
   refine .inr (.inr ⟨rfl,?_,fun b hb=>.inl (by cases hb;rfl)⟩)
   obtain ⟨⟨arr,g1,g2⟩,g3⟩:=h1.inv j _ hj1
   refine ⟨⟨arr,g1,?_⟩,g3⟩
   obtain ⟨v,h2,h3⟩:=g2.get i _ hi
   have hv:=bz h3
   have:=Reps.set (ρ:=ρ') (M:=M) (c:=.tl jn []) (v:=v) ⟨by rw [hv,hnj],by rw [hv];exact Rep.nil⟩ i g2
   have e:arr.toList.set i v=arr.toList:=by
    apply List.ext_getElem?
    intro q
    by_cases hq:i=q
    ·subst hq
     rw [List.getElem?_set_self (List.getElem?_eq_some_iff.1 h2).1,h2]
    ·rw [List.getElem?_set_ne hq]
   rw [e] at this
   exact this
  ·rename_i e
   refine .inr (.inl ⟨hk',fun b hb hS=>?_⟩)
   subst hS
   exact e ((h1.dist k j _ _ _ hk' hj1 hb rfl).symm)
theorem Conv.norm {sl:List (Nat×AV)} {bl:List (Nat×Ob)} {nx:Nat} (j:Nat) (cs cs':List Cell) (u:TypeId) (nx':Nat) (hj:look bl j=some (.blk cs u)) (hcs:cs.map Cell.norm=cs'):Conv C ⟨sl,bl,nx⟩ ⟨sl,(j,.blk cs' u) :: bl,nx'⟩:=by
 subst hcs
 intro ρ M a w hr
 refine ⟨ρ,M,fun ρ' ha=>?_⟩
 have h0:=hr ρ' (fun k hk=>ha k (by
  show look ((j,_) :: bl) k≠none
  rw [au];split
  ·simp
  ·exact hk))
 refine ⟨h0.defers,h0.size,h0.slots,?_⟩
 refine h0.heap.change j (fun b=>b=blockOf (ρ' j)) ?_ ⟨rfl,rfl,rfl,Nat.le_refl _⟩ (fun _ _ _=>rfl) (Mem.le_refl _) (fun _ _ _=>⟨fun _=>rfl,rfl⟩) (fun b _=>⟨fun o v hv=>h0.heap.mem.cell b o v hv,fun o ho=>h0.heap.mem.obj b o ho⟩) (fun k ob hk=>?_) (fun b hb=>h0.heap.noJunk hj (by rw [hb];rfl))
 ·rintro b rfl _
  exact h0.heap.priv j _ _ hj rfl
 ·have hk':look ((j,Ob.blk (cs.map Cell.norm) u) :: bl) k=some ob:=hk
  rw [au] at hk'
  split at hk'
  ·rename_i e
   subst e
   cases hk'
   refine .inr (.inr ⟨rfl,?_,fun b hb=>.inl (by cases hb;rfl)⟩)
   obtain ⟨⟨arr,g1,g2⟩,g3⟩:=h0.heap.inv j _ hj
   exact ⟨⟨arr,g1,g2.norm⟩,g3⟩
  ·rename_i e
   refine .inr (.inl ⟨hk',fun b hb hS=>?_⟩)
   subst hS
   exact e ((h0.heap.dist k j _ _ _ hk' hj hb rfl).symm)
theorem nw {t t':TypeId} {x:Operand} {l:List (List D)} {e:TypeId} {rest:List Oper} {Q:AState→Prop} {sl:List (Nat×AV)} {bl:List (Nat×Ob)} {nx:Nat} (hx:rdS ⟨look sl,look bl⟩ x=some l) (ht:P.underlying t=some (.slice e)) (hs:sideOk ⟨look sl,look bl⟩ true [x]) (hd:Nat.blt dst C.n=true)
  (h:∀ b:Bool,(b=true→l=[])→OkOps P C ops rest Q ⟨(dst,.s (.c (.d (.v (.bool b))))) :: sl,bl,nx⟩):OkOps P C ops (⟨some dst,.binOp .eql t x (.const (.slice none 0 0)) t',ty,pos,after,none⟩ :: rest) Q ⟨sl,bl,nx⟩:=by
 intro Q' hQ ρ M a w hr
 have hR:=aR hr.at rfl hs
 have hrep:=gF hR (by simp) hx
 obtain ⟨b,hb,hrun⟩:∃ b:Bool,(b=true→l=[])∧(execOp a.eval ⟨some dst,.binOp .eql t x (.const (.slice none 0 0)) t',ty,pos,after,none⟩).run P w=.ok (.value (.bool b)) w:=by
  obtain ⟨ad,cap,e1⟩:=hrep.sl_cases
  have ex2:a.eval (.const (.slice none 0 0))=.slice none 0 0:=rfl
  refine ⟨ad.isNone,fun hn=>?_,?_⟩
  ·cases ad with
   | some _=>cases hn
   | none =>
    generalize a.eval x=v at hrep e1
    cases hrep with
    | nil=>rfl
    | sl=>cases e1
  ·unfold execOp
   simp only [e1,ex2]
   have hu:∀ w:World,(underlying t).run P w=.ok (.slice e) w:=fun w=>by simp [underlying,program,Sem.run,ht]
   have h2:(Op.equalIn 10000 t (.slice ad l.length cap) (.slice none 0 0)).run P w=.ok ad.isNone w:=by
    unfold Op.equalIn
    rw [ag (hu w)]
    cases ad <;> rfl
   have h3:(eqGuard .eql t x (.const (.slice none 0 0)) (.slice ad l.length cap) (.slice none 0 0)).run P w=.ok () w:=by
    simp [eqGuard]
   refine aA ?_
   rw [ag h3]
   show (binOp .eql t (.slice ad l.length cap) (.slice none 0 0)).run P w=_
   have h4:binOp .eql t (.slice ad l.length cap) (.slice none 0 0)=(do pure (.bool (← Op.equal t (.slice ad l.length cap) (.slice none 0 0)))):=rfl
   rw [h4]
   unfold Op.equal Op.maxDepth
   rw [ag h2]
   rfl
 unfold wpListIn
 rw [if_pos (cK rfl)]
 refine gl hrun ?_
 refine h b hb Q' hQ ρ M _ _ (fun ρ' ha=>?_)
 have h0:=hr ρ' ha
 have:=h0.put (M':=M) (w':=w) (bl':=look bl) (v:=.s (.c (.d (.v (.bool b))))) (u:=.bool b) (d:=dst) (Nat.blt_eq.mp hd) (Rep.v _) (Mem.le_refl _) h0.heap
 refine ⟨this.defers,this.size,fun s v hv=>this.slots s v ?_,this.heap⟩
 have hv':look ((dst,AV.s (.c (.d (.v (.bool b))))) :: sl) s=some v:=hv
 show over [(dst,AV.s (.c (.d (.v (.bool b)))))] (look sl) s=some v
 rw [bP,← hv',au]
theorem ym {t f o ft j off:Nat} {x:Operand} (ho:fieldOff P t f=some (o,ft)) (hx:opnd F x=some (.s (.c (.vl j off)))) {sz:Nat} {α:Type} {enc:α→List D} {L:List α} (hj:F.bl j=some (.vec sz (L.map enc))) (hL:0<L.length) (hd:Nat.blt dst C.n=true) :
  TriL P C ops ⟨some dst,.fieldAddr t x f,ty,pos,after,none⟩ ⟨slotsOf [x],[j],[dst],[]⟩ [(dst,.s (.c (.vl j (off+o))))] [] F:=by
 refine ⟨⟨rfl,rfl⟩,fun F' hS=>?_⟩
 have h1:=aG hS.1
 refine bC (x:=.c (.vl j (off+o))) rfl rfl hd (fun ρ M a w hr=>?_)
 have e:a.eval x=vptr ρ j off:=aU hr ((h1 x (by simp)).trans hx)
 obtain ⟨ad,cap,e1,hc,hx2⟩:=dF (hr.heap.inv j _ ((hS.2 j (by simp)).trans hj))
 obtain ⟨b,o0,arr,ty',vs,rfl,_⟩:=hx2 (by omega)
 have e2:vptr ρ j off=.pointer (some ⟨b,o0+off,none⟩):=by unfold vptr;rw [e1]
 refine ⟨.pointer (some ⟨b,o0+off+o,none⟩),?_,?_⟩
 ·unfold execOp
  simp only
  rw [e,e2]
  exact aA (jD ho _ _ w)
 ·show _=vptr ρ j (off+o)
  unfold vptr
  rw [e1,Nat.add_assoc]
def setDs:List D→Nat→List D→List D
 | cs,_,[]=>cs
 | cs,off,x :: r=>setDs (cs.set off x) (off+1) r
theorem pV:∀ (us vs:List D) (off k:Nat),off+us.length≤vs.length→(setDs vs off us)[k]? = if off≤k∧k<off+us.length then us[k - off]? else vs[k]?
 | [],vs,off,k,_=>by
  simp only [setDs,List.length_nil,Nat.add_zero]
  rw [if_neg (by omega)]
 | u :: r,vs,off,k,h=>by
  simp only [List.length_cons] at h
  simp only [setDs]
  rw [pV r (vs.set off u) (off+1) k (by simp;omega)]
  by_cases h1:off+1≤k∧k<off+1+r.length
  ·rw [if_pos h1,if_pos (by simp;omega),show k - off=(k - (off+1))+1 by omega];simp
  ·rw [if_neg h1]
   by_cases h2:off=k
   ·subst h2
    rw [if_pos (by simp),List.getElem?_set_self (by omega)];simp
   ·rw [if_neg (by simp;omega),List.getElem?_set_ne h2]
theorem tT {α:Type} {enc:α→List D} {L:List α} {t sz j k fo n:Nat} {b0:Bool} {x y:Operand} {v:A1} {e0 z:α} {ds:List D} (he:L[k]? = some e0) (hx:opnd F x=some (.s (.c (.vl j (k*sz+fo))))) (hj:F.bl j=some (.vec sz (L.map enc))) (hy:opnd F y=some (.s v)) (hp:lZ v=true) (hD:rowD v.cells=some ds) (hone:rowOne ds=true) (hz:enc z=setDs (enc e0) fo ds) (hn:ds.length=n) (hfo:fo+n≤sz) (hsz:allR sz enc) (ht:tinfo P t=some (n,b0)) :
  TriL P C ops ⟨none,.store t x y,ty,pos,after,none⟩ ⟨slotsOf [x,y],[j],[],[j]⟩ [] [(j,.vec sz ((L.set k z).map enc))] F:=by
 have hk:k<L.length:=(List.getElem?_eq_some_iff.1 he).1
 refine ⟨⟨rfl,rfl⟩,fun F' hS=>?_⟩
 have h1:=aG hS.1
 have hj':F'.bl j=some (.vec sz (L.map enc)):=(hS.2 j (by simp)).trans hj
 have hx':=(h1 x (by simp)).trans hx
 have hy':=(h1 y (by simp)).trans hy
 refine kE rfl rfl (fun k hk=>cJ hk) (fun ρ M a w hr=>?_)
 have ex:a.eval x=vptr ρ j (k*sz+fo):=aU hr hx'
 have ey:v.rep ρ M (a.eval y):=aU hr hy'
 obtain ⟨ad,cap,e1,hc,hx2⟩:=dF (hr.heap.inv j _ hj')
 obtain ⟨b,off,arr,ty',vs,rfl,g1,g2,g3,g4,g5⟩:=hx2 (by omega)
 have ex2:a.eval x=.pointer (some ⟨b,off+(k*sz+fo),none⟩):=by rw [ex];unfold vptr;rw [e1]
 have hcr:=iW hD (A1.cells_rep hp ey)
 have hlen:(a.eval y).cells.toList.length=n:=by rw [hcr.len];exact hn
 have hvl:vs.length=L.length*sz:=by rw [g4.len,a6 (aO hsz L),List.length_map]
 have hkk:(k+1)*sz≤cap*sz:=Nat.mul_le_mul_right sz (by omega)
 have hsm:(k+1)*sz=k*sz+sz:=Nat.succ_mul k sz
 have hkL:(k+1)*sz≤L.length*sz:=Nat.mul_le_mul_right sz (by omega)
 obtain ⟨w',q1,q2,q3,q4,q5,q6,q7⟩:=ca (P:=P) (b:=b) (off:=off+(k*sz+fo)) (ty:=ty') (a.eval y).cells.toList 0 w arr g1 (ga hone hcr) (by omega)
 rw [Nat.add_zero] at q2
 refine ⟨w',M,?_,Mem.le_refl _,fun ρ' h0=>?_⟩
 ·unfold execOp
  simp only [ex2]
  have hsv:(storeVar t ⟨b,off+(k*sz+fo),none⟩ (a.eval y)).run P w=.ok () w':=by
   unfold storeVar
   rw [ag (fh ht w)]
   have hs2:(a.eval y).cells.size=n:=by simpa using hlen
   rw [if_neg (by simp [hs2])]
   exact q1
  show (do storeVar t ⟨b,off+(k*sz+fo),none⟩ (a.eval y);pure Next.skip:Sem Next).run P w=_
  rw [ag hsv]
  rfl
 ·have ex':a.eval x=vptr ρ' j (k*sz+fo):=aU h0 hx'
  obtain ⟨ad',cap',e1',hc',hx2'⟩:=dF (h0.heap.inv j _ hj')
  obtain ⟨b',off',arr',ty2,vs',rfl,g1',g2',g3',g4',g5'⟩:=hx2' (by omega)
  have ex2':a.eval x=.pointer (some ⟨b',off'+(k*sz+fo),none⟩):=by rw [ex'];unfold vptr;rw [e1']
  have eb:b'=b∧off'=off:=by
   have:=ex2'.symm.trans ex2
   simp only [Value.pointer.injEq,Option.some.injEq,Addr.mk.injEq] at this
   omega
  obtain ⟨rfl,rfl⟩:=eb
  have ea:arr'=arr∧ty2=ty':=by have:=g1'.symm.trans g1;simpa using this
  obtain ⟨rfl,rfl⟩:=ea
  have hcr':=iW hD (A1.cells_rep hp (aU h0 hy':v.rep ρ' M (a.eval y)))
  have hpos:0<cap':=by omega
  have hown:(Ob.vec sz (L.map enc)).blkOf (ρ' j)=some b':=by rw [e1'];simp [Ob.blkOf,hpos]
  refine h0.heap.change j (fun x=>x=b') ?_ ⟨q5,q6,q7,Nat.le_of_eq q4.symm⟩ (fun x _ hx=>q3 x hx) (Mem.le_refl _) (fun _ _ _=>⟨fun _=>rfl,rfl⟩) ?_ ?_ (fun x hx=>by rw [hx];exact h0.heap.noJunk hj' hown)
  ·rintro x rfl _
   exact h0.heap.priv j _ _ hj' hown
  ·rintro x (rfl | hx)
   ·exact ⟨fun o v hv=>(by rw [g3' o] at hv;cases hv),fun o ho=>(by rw [h0.heap.mem.noObj g1'] at ho;cases ho)⟩
   ·have:=h0.heap.mem.none hx
    exact ⟨fun o v hv=>(by rw [this.1 o] at hv;cases hv),fun o ho=>(by rw [this.2] at ho;cases ho)⟩
  ·intro k' ob hk'
   rw [bP] at hk'
   split at hk'
   ·rename_i e
    subst e
    cases hk'
    refine .inr (.inr ⟨rfl,?_,fun x hx=>.inl (by rw [show (Ob.vec sz ((L.set k z).map enc)).blkOf (ρ' j)=(Ob.vec sz (L.map enc)).blkOf (ρ' j) by rw [e1'];rfl,hown] at hx;cases hx;rfl)⟩)
    rw [e1']
    have hsl:(L.set k z).length=L.length:=by simp
    have hvl':vs'.length=L.length*sz:=by rw [g4'.len,a6 (aO hsz L),List.length_map]
    rw [show (Value.slice (some ⟨b',off',none⟩) L.length cap')=.slice (some ⟨b',off',none⟩) (L.set k z).length cap' by rw [hsl]]
    refine nM (vs:=setV vs' (k*sz+fo) (a.eval y).cells.toList) hsz (by rw [hsl];exact hc') q2 (by simp [fX];exact g2') g3' ?_ (fun q u hq=>?_)
    ·rw [List.map_set]
     refine RepsD.ofGet ?_ (fun i d u hd hu=>?_)
     ·rw [fX,hvl',a6 (sz:=sz),List.length_set,List.length_map]
      intro row hrow
      rcases List.mem_or_eq_of_mem_set hrow with h | h
      ·exact aO hsz L row h
      ·rw [h];exact hsz z
     ·rw [kz k (aO hsz L) (hsz z) (by simpa using hk)] at hd
      rw [fx _ _ _ _ (by omega),hlen] at hu
      have hold:∀ d',(L.map enc).flatten[i]? = some d'→vs'[i]? = some u→Rep M d' u:=fun d' h2 h3=>by
       obtain ⟨u2,u3,u4⟩:=g4'.get _ d' h2
       rw [h3] at u3;cases u3;exact u4
      split at hd
      ·rename_i hc2
       rw [hz,pV _ _ _ _ (by rw [hn,hsz];exact hfo),hn] at hd
       split at hd
       ·rename_i hc3
        rw [if_pos (by omega)] at hu
        obtain ⟨u2,u3,u4⟩:=hcr'.get _ d hd
        rw [show i - k*sz - fo=i - (k*sz+fo) by omega] at u3
        rw [hu] at u3;cases u3;exact u4
       ·rename_i hc3
        rw [if_neg (by omega)] at hu
        refine hold d ?_ hu
        have:=fq (aO hsz L) k (i - k*sz) (enc e0) (by simp [he]) (by omega)
        rw [show k*sz+(i - k*sz)=i by omega] at this
        rw [this];exact hd
      ·rename_i hc2
       rw [if_neg (by omega)] at hu
       exact hold d hd hu
    ·rw [fx _ _ _ _ (by omega),hlen] at hq
     rw [List.getElem?_toArray,fx _ _ _ _ (by rw [hlen,Array.length_toList];omega),hlen]
     split at hq
     ·rename_i hc2
      rw [if_pos (by omega),show off'+q - (off'+(k*sz+fo))=q - (k*sz+fo) by omega];exact hq
     ·rename_i hc2
      rw [if_neg (by omega)]
      simpa using g5' q u hq
   ·rename_i e
    refine .inr (.inl ⟨hk',fun x hx hS'=>?_⟩)
    subst hS'
    exact e ((h0.heap.dist k' j _ _ _ hk' hj' hx hown).symm)
end Go.E2
end
section
namespace Go.E2
open Go.RowKit (Below)
open Go.ChangeShapes Go.WideShapes Go.ChangeAt Go.RowKit
def M1 (W:World):Mem:=memW ⟨fun _ _=>none,fun _=>none,fun _=>none⟩ W
theorem z4 (W:World):InW (M1 W) W:=vp ⟨fun _ _ _ h=>(by cases h),fun _ _ h=>(by cases h),fun _ _ h=>(by cases h)⟩
theorem rX {W:World} {b o:Nat} {v:Value} (h:W.cell? ⟨b,o,none⟩=some v):(M1 W).cell b o=some v:=by
 simp only [World.cell?] at h
 simp only [M1,memW]
 split at h
 ·rename_i c t f hc;rw [hc];simpa using h
 ·cases h
def RowRep (M:Mem):List D→List Value→Prop
 | [],[]=>True
 | d :: ds,v :: vs=>Rep M d v∧RowRep M ds vs
 | _,_=>False
theorem RowRep.len {M:Mem}:∀ {ds:List D} {vs:List Value},RowRep M ds vs→ds.length=vs.length
 | [],[],_=>rfl
 | _ :: _,_ :: _,h=>by rw [List.length_cons,List.length_cons,RowRep.len h.2]
 | [],_ :: _,h=>h.elim
 | _ :: _,[],h=>h.elim
theorem RowRep.at {M:Mem}:∀ {ds:List D} {vs:List Value},RowRep M ds vs→∀ (j:Nat) d,ds[j]? = some d→∃ v,vs[j]? = some v∧Rep M d v
 | [],[],_,_,_,h=>by cases h
 | _ :: _,_ :: _,h,j,d,hd=>by
  cases j with
  | zero=>cases hd;exact ⟨_,rfl,h.1⟩
  | succ j=>exact RowRep.at h.2 j d hd
 | [],_ :: _,h,_,_,_=>h.elim
 | _ :: _,[],h,_,_,_=>h.elim
theorem RowRep.app {M:Mem}:∀ {a:List D} {x:List Value} {b:List D} {y:List Value},RowRep M a x→RowRep M b y→RowRep M (a++b) (x++y)
 | [],[],_,_,_,h=>h
 | _ :: _,_ :: _,_,_,h,h'=>⟨h.1,RowRep.app h.2 h'⟩
 | [],_ :: _,_,_,h,_=>h.elim
 | _ :: _,[],_,_,h,_=>h.elim
theorem RowRep.reps {M:Mem} {ρ:Env}:∀ {ds:List D} {vs:List Value},RowRep M ds vs→Reps ρ M (ds.map Cell.d) vs
 | [],[],_=>trivial
 | _ :: _,_ :: _,h=>⟨h.1,RowRep.reps h.2⟩
 | [],_ :: _,h=>h.elim
 | _ :: _,[],h=>h.elim
def Rd (k:Nat) (P:Program) (t:TypeId) {α:Type} (e:α→List D) (Q:α→Prop):Prop :=
 ∀ (H:Type) (enc:TypeId×Value→H) (W:World) (fuel:Nat) (cs:List Value) (x:DataW H×List MemPlace),fuel≤k→DataW.trod enc P W 0 (fun _=>true) true fuel t cs=some x→∃ a,Q a∧RowRep (M1 W) (e a) cs
section
variable {P:Program} {t:TypeId} {α β:Type}
theorem Rd.map {k:Nat} {e:α→List D} {e':β→List D} {Q:α→Prop} {Q':β→Prop} (h:Rd k P t e Q) (g:α→β) (hg:∀ a,e' (g a)=e a) (hQ:∀ a,Q a→Q' (g a)):Rd k P t e' Q':=fun H enc W fuel cs x hk hx=>by
 obtain ⟨a,h1,h2⟩:=h H enc W fuel cs x hk hx
 exact ⟨g a,hQ a h1,by rw [hg];exact h2⟩
theorem rd_int {m:Nat} {k:IntKind} (hu:P.underlying t=some (.int k)):Rd m P t (eInt k) (fun n=>(Lit.int k n).wf=true):=fun _ _ _ _ _ _ _ hx=>by
 obtain ⟨n,rfl,_,hw⟩:=DataW.trod_int hu hx
 exact ⟨n,hw,.v _,trivial⟩
theorem rd_bool {m:Nat} (hu:P.underlying t=some .bool):Rd m P t eBool (fun _=>True):=fun _ _ _ _ _ _ _ hx=>by
 obtain ⟨n,rfl,_⟩:=DataW.trod_bool hu hx
 exact ⟨n,trivial,.v _,trivial⟩
theorem rd_str {m:Nat} (hu:P.underlying t=some .string):Rd m P t eStr (fun s=>s.size≤maxLen):=fun _ _ _ _ _ _ _ hx=>by
 obtain ⟨n,rfl,_,h⟩:=DataW.trod_string hu hx
 exact ⟨n,h,.v _,trivial⟩
theorem xV {a:Addr} {n j:Nat} {W:World} {v:Value} (h:W.cell? ((a.add n).add j)=some v):W.cell? ⟨a.block,a.off+n+j,none⟩=some v∧(n=0→j=0→a.spot=none):=by
 unfold Addr.add at h
 by_cases hn:n=0
 ·subst hn
  by_cases hj:j=0
  ·subst hj
   simp only [if_true] at h
   have hs:a.spot=none:=by
    unfold World.cell? at h
    split at h
    ·split at h
     ·cases h
     ·rename_i _ hs;cases hsp:a.spot with
      | none=>rfl
      | some x=>rw [hsp] at hs;simp at hs
    ·cases h
   obtain ⟨b,o,s⟩:=a
   cases hs
   exact ⟨h,fun _ _=>rfl⟩
  ·simp only [if_true,if_neg hj] at h
   exact ⟨h,fun _ h=>absurd h hj⟩
 ·by_cases hj:j=0
  ·subst hj
   simp only [if_true,if_neg hn] at h
   exact ⟨h,fun h=>absurd h hn⟩
  ·simp only [if_neg hn,if_neg hj] at h
   exact ⟨h,fun h=>absurd h hn⟩
theorem rd_slice {k:Nat} {e:TypeId} {en:α→List D} {Q:α→Prop} {sz:Nat} (hu:P.underlying t=some (.slice e)) (he:Rd k P e en Q) (hc:P.cellsOf e=sz) (h0:0<sz) (hsz:∀ a,(en a).length=sz) :
  Rd k P t (eSl en) (fun L=>L.length≤maxLen∧∀ a∈L,Q a):=fun H enc W fuel cs x hk hx=>by
 rcases DataW.trod_slice hu hx with ⟨rfl,_⟩ | ⟨a,len,cap,elems,rest,n,hfuel,rfl,_,_,hle,hcap,hel,hat,_,_⟩
 ·exact ⟨[],⟨Nat.zero_le _,fun _ h=>by cases h⟩,.nil,trivial⟩
 ·have key:∀ m,m≤len→∃ L:List α,L.length=m∧(∀ x∈L,Q x)∧∀ (i:Nat) y,L[i]? = some y→∃ cs,W.cells? 0 (a.add (i*sz)) sz=some cs∧RowRep (M1 W) (en y) cs:=by
   intro m
   induction m with
   | zero=>exact fun _=>⟨[],rfl,fun _ h=>(by cases h),fun _ _ h=>by cases h⟩
   | succ m ih =>
    intro hm
    obtain ⟨L,hl,hq,hL⟩:=ih (by omega)
    have h1:=hat m (by omega)
    rw [hc,List.getElem?_eq_getElem (by omega:m<elems.length)] at h1
    obtain ⟨cs,hcs,h2⟩:=Option.bind_eq_some_iff.1 h1
    obtain ⟨y,hy,hr⟩:=he _ _ _ _ _ _ (by omega) h2
    refine ⟨L++[y],by simp [hl],fun x hx=>?_,fun i z hz=>?_⟩
    ·rcases List.mem_append.1 hx with h | h
     ·exact hq x h
     ·simp at h;subst h;exact hy
    ·by_cases hi:i<L.length
     ·rw [List.getElem?_append_left hi] at hz;exact hL i z hz
     ·rw [List.getElem?_append_right (by omega)] at hz
      have:i=m:=by
       have:=(List.getElem?_eq_some_iff.1 hz).1
       simp at this;omega
      subst this
      rw [hl,Nat.sub_self] at hz
      cases hz
      exact ⟨cs,hcs,hr⟩
  obtain ⟨L,hl,hq,hL⟩:=key len (Nat.le_refl _)
  refine ⟨L,⟨by omega,hq⟩,?_,trivial⟩
  cases hL0:L with
  | nil=>rw [hL0] at hl;simp at hl;subst hl;exact .nil
  | cons y ys =>
   rw [← hL0]
   have cellAt:∀ (i:Nat) y (j:Nat),L[i]? = some y→j<sz→∃ v cs,W.cells? 0 (a.add (i*sz)) sz=some cs∧cs[j]? = some v∧RowRep (M1 W) (en y) cs∧W.cell? ⟨a.block,a.off+i*sz+j,none⟩=some v∧(i=0→j=0→a.spot=none):=by
    intro i y j hy hj
    obtain ⟨cs,h1,h2⟩:=hL i y hy
    have hlen:cs.length=sz:=by rw [← h2.len,hsz]
    have h3:=h1
    unfold World.cells? at h3
    rw [if_pos (Nat.zero_le _)] at h3
    have h4:=mapM_some_get h3 j j (by simp [hj])
    rw [List.getElem?_eq_getElem (by omega:j<cs.length)] at h4
    obtain ⟨h5,h6⟩:=xV h4
    exact ⟨_,cs,h1,List.getElem?_eq_getElem (by omega),h2,h5,fun hi hj=>h6 (by rw [hi,Nat.zero_mul]) hj⟩
   have hsp:a.spot=none:=by
    obtain ⟨_,_,_,_,_,_,h⟩:=cellAt 0 y 0 (by rw [hL0];rfl) h0
    exact h rfl rfl
   obtain ⟨b,off,sp⟩:=a
   cases hsp
   have hll:(List.map en L).length=len:=by rw [List.length_map,hl]
   rw [← hll]
   refine .sl (sz:=sz) (f:=fun i j=>((M1 W).cell b (off+i*sz+j)).getD (.bool false)) (by omega) (fun i row hr=>?_) (fun i row j d hi hj=>?_) (fun i row j d hi hj=>?_)
   ·rw [List.getElem?_map] at hr
    obtain ⟨y,_,rfl⟩:=Option.map_eq_some_iff.1 hr
    exact hsz y
   ·rw [List.getElem?_map] at hi
    obtain ⟨y,hy,rfl⟩:=Option.map_eq_some_iff.1 hi
    have hjz:j<sz:=by rw [← hsz y];exact (List.getElem?_eq_some_iff.1 hj).1
    obtain ⟨v,cs,_,_,_,h5,_⟩:=cellAt i y j hy hjz
    rw [rX h5];rfl
   ·rw [List.getElem?_map] at hi
    obtain ⟨y,hy,rfl⟩:=Option.map_eq_some_iff.1 hi
    have hjz:j<sz:=by rw [← hsz y];exact (List.getElem?_eq_some_iff.1 hj).1
    obtain ⟨v,cs,_,h4,h3,h5,_⟩:=cellAt i y j hy hjz
    obtain ⟨u,h6,h7⟩:=h3.at j d hj
    rw [rX h5]
    rw [h4] at h6;cases h6
    exact h7
def RdF (k:Nat) (P:Program) (off:Nat) (fs:List Field) (tot:Nat) {α:Type} (e:α→List D) (Q:α→Prop):Prop :=
 ∀ (H:Type) (enc:TypeId×Value→H) (W:World) (n:Nat) (cs:List Value),n≤k→cs.length=tot →
  (∀ (j:Nat) (f:Field),fs[j]? = some f→∃ x,DataW.trod enc P W 0 (fun _=>true) true n f.type ((cs.drop f.offset).take (P.cellsOf f.type))=some x)→∃ a,Q a∧RowRep (M1 W) (e a) (cs.drop off)
theorem rdF_nil {k tot:Nat}:RdF k P tot [] tot (fun _:Unit=>[]) (fun _=>True):=fun _ _ _ _ _ _ hl _=>⟨(),trivial,by rw [List.drop_eq_nil_of_le (by omega)];trivial⟩
theorem rdF_cons {k off tot sz:Nat} {f:Field} {fs:List Field} {e1:α→List D} {e2:β→List D} {Q1:α→Prop} {Q2:β→Prop} (ho:f.offset=off) (hc:P.cellsOf f.type=sz) (h1:Rd k P f.type e1 Q1) (h2:RdF k P (off+sz) fs tot e2 Q2) :
  RdF k P off (f :: fs) tot (fun p:α×β=>e1 p.1++e2 p.2) (fun p=>Q1 p.1∧Q2 p.2):=fun H enc W n cs hn hl hf=>by
 obtain ⟨x,hx⟩:=hf 0 f rfl
 obtain ⟨a,qa,ra⟩:=h1 _ _ _ _ _ _ hn hx
 obtain ⟨b,qb,rb⟩:=h2 H enc W n cs hn hl (fun j g hj=>hf (j+1) g hj)
 refine ⟨(a,b),⟨qa,qb⟩,?_⟩
 have:cs.drop off=(cs.drop off).take sz++cs.drop (off+sz):=by
  rw [← List.drop_drop];exact (List.take_append_drop sz (cs.drop off)).symm
 rw [this]
 rw [ho,hc] at ra
 exact ra.app rb
theorem rd_struct1 {k:Nat} {fs:Array Field} {tot:Nat} {e:α→List D} {Q:α→Prop} (hu:P.underlying t=some (.struct fs)) (hc:P.cellsOf t=tot) (h:RdF k P 0 fs.toList tot e Q):Rd (k+1) P t e Q:=fun H enc W fuel cs x hk hx=>by
 obtain ⟨xs,n,hfuel,_,hl,hxl,hat⟩:=DataW.trod_struct hu hx
 obtain ⟨a,qa,ra⟩:=h H enc W n cs (by omega) (by rw [hl,hc]) (fun j f hj=>by
  have hj':fs[j]? = some f:=by simpa using hj
  have h1:=hat j f hj'
  have hjl:j<xs.length:=by rw [hxl];exact (Array.getElem?_eq_some_iff.1 hj').1
  exact ⟨xs[j],by rw [← List.getElem?_eq_getElem hjl];exact h1⟩)
 exact ⟨a,qa,by simpa using ra⟩
theorem rd_zero {e:α→List D} {Q:α→Prop}:Rd 0 P t e Q:=fun H enc W fuel cs x hk hx=>by
 have:fuel=0:=by omega
 subst this
 simp [DataW.trod] at hx
theorem rd_struct {k:Nat} {fs:Array Field} {tot:Nat} {e:α→List D} {Q:α→Prop} (hu:P.underlying t=some (.struct fs)) (hc:P.cellsOf t=tot) (h:RdF k P 0 fs.toList tot e Q):Rd k P t e Q:=fun H enc W fuel cs x hk hx =>
 rd_struct1 hu hc h H enc W fuel cs x (by omega) hx
def oneCell (P:Program) (t:TypeId):Bool:=match P.underlying t with
 | some (.int _) | some .bool | some .string | some (.slice _)=>true
 | _=>false
theorem oW {W:World} {r:Reach} {b0:Nat} {v:Value} (h:oneCell P t=true) (hv:Value.okWide P W r b0 t v):v.cells.toList=[v]:=by
 unfold oneCell at h
 split at h
 ·rename_i hu;obtain ⟨n,rfl⟩:=okWide_int hu hv;rfl
 ·rename_i hu;obtain ⟨n,rfl⟩:=okWide_bool hu hv;rfl
 ·rename_i hu;obtain ⟨n,rfl⟩:=okWide_string hu hv;rfl
 ·rename_i hu;obtain ⟨a,n,c,rfl⟩:=okWide_slice hu hv;rfl
 ·cases h
theorem open_one {H:Type} {enc:TypeId×Value→H} {W:World} {r:Reach} {b0:Nat} {v:Value} {d:DataW H} {p:List MemPlace} {e:α→List D} {Q:α→Prop} (hr:∀ k,Rd k P t e Q) (h1:oneCell P t=true) (hv:Value.okWide P W r b0 t v) (h:DataW.Trod enc P W 0 (fun _=>true) true t v d p) :
  ∃ a,Q a∧∀ x,e a=[x]→∀ ρ,A1.rep ρ (M1 W) (.c (.d x)) v:=by
 obtain ⟨fuel,hf⟩:=h
 obtain ⟨a,qa,ra⟩:=hr fuel _ _ _ _ _ _ (Nat.le_refl _) hf
 rw [oW h1 hv] at ra
 exact ⟨a,qa,fun x hx ρ=>by rw [hx] at ra;exact ra.1⟩
theorem open_agg {H:Type} {enc:TypeId×Value→H} {W:World} {r:Reach} {b0:Nat} {v:Value} {d:DataW H} {p:List MemPlace} {e:α→List D} {Q:α→Prop} {fs:Array Field} (hr:∀ k,Rd k P t e Q) (hu:P.underlying t=some (.struct fs)) (hv:Value.okWide P W r b0 t v) (h:DataW.Trod enc P W 0 (fun _=>true) true t v d p) :
  ∃ a,Q a∧∀ ρ,A1.rep ρ (M1 W) (.agg ((e a).map Cell.d)) v:=by
 obtain ⟨fuel,hf⟩:=h
 obtain ⟨a,qa,ra⟩:=hr fuel _ _ _ _ _ _ (Nat.le_refl _) hf
 obtain ⟨cs,rfl,_⟩:=okWide_struct hu hv
 exact ⟨a,qa,fun ρ=>⟨cs,rfl,RowRep.reps ra⟩⟩
theorem law_walk {f:FuncId} {args:List A1} {vs:List Value} {W:World} (h:Con P f args [] (.s (.c (.d (.v (.bool true))))) []) (hT:Tab P (M1 W)) (hr:∀ ρ,A1.reps ρ (M1 W) args vs) :
  Calls P f vs.toArray W fun e W'=>e=.returned (.bool true)∧Below W.heap.size W W':=by
 refine (h (fun _=>.bool false) (M1 W) W (fun _=>False) vs hT (fun ρ' _=>⟨⟨fun j ob h=>(by cases h),fun i j x y b h=>(by cases h),fun j ob b h=>(by cases h),z4 W,Mem.le_refl _,fun b _ _=>⟨fun _=>rfl,rfl⟩,Kept.refl _ _,fun j hj=>absurd rfl hj,fun b s h=>(by cases h)⟩,hr ρ'⟩)).mono ?_
 rintro e W' ⟨u,ρ1,M',rfl,h2⟩
 obtain ⟨h3,h4⟩:=h2 ρ1 (Agree.refl _ _)
 cases h3
 exact ⟨rfl,h4.kept.below⟩
end
section
variable {H:Type} {enc:TypeId×Value→H} {P:Program} {w:World} {base:Nat} {spare:Nat→Bool} {held:Bool}
theorem kL (hl:laidOutB P=true) {W W':World} (hb:Below W.heap.size W W'):∀ (ts:List TypeId) (vs:List Value) (ds:List (DataW H)) (ps:List MemPlace),(ts.all fun t=>P.readableRec t&&decide (t<P.types.size))=true →
  DataW.TrodAll enc P W 0 (fun _=>true) true ts vs ds ps→DataW.TrodAll enc P W' 0 (fun b=>decide (b<W.heap.size)) true ts vs ds ps
 | [],vs,ds,ps,_,h=>by
  obtain ⟨rfl,rfl,rfl⟩:=trodAll_nil h
  exact trodAll_mk0
 | t :: ts,vs,ds,ps,ht,h=>by
  obtain ⟨v,vs',d,ds',p,q,rfl,rfl,rfl,h1,h2⟩:=trodAll_cons h
  simp only [List.all_cons,Bool.and_eq_true,decide_eq_true_eq] at ht
  have hlt:∀ x∈p,x.block<W.heap.size:=by obtain ⟨m,hm⟩:=h1;exact DataW.trod_lt m _ _ _ hm
  exact trodAll_cons_mk (Below.trod hl ht.1.1 ht.1.2 h1 hb hlt) (kL hl hb ts vs' ds' q ht.2 h2)
theorem law_post {f:Func} {s:ChangeSpec} {W W':World} {args:Array Value} {ds gs:List (DataW H)} {before:List MemPlace} {tb:TypeId} (hl:laidOutB P=true) (hp:(f.params.toList.all fun t=>P.readableRec t&&decide (t<P.types.size))=true)
  (hr:f.resultTypes = #[tb]) (hub:P.underlying tb=some .bool) (hv:s.vars=[]) (hres:(s.fn H ds).results=[.lit (.bool true)]) (hargs:(s.fn H ds).args=ds) (hvars:(s.fn H ds).vars=[])
  (hW:DataW.Whole enc P f.params.toList s.vars false W args.toList ds gs before) (bel:Below W.heap.size W W'):s.post enc P f false true false false W args (.bool true) W':=by
 have hW':=hW
 obtain ⟨p,q,hA,hV,rfl,_,_⟩:=hW
 rw [hv] at hV
 obtain ⟨rfl,rfl⟩:=trodVars_none hV
 refine ⟨ds,[],p++[],[],p,[],hW',?_,?_,?_,bel.frame _,fun h=>by cases h⟩
 ·rw [List.append_nil,hres,hr]
  exact trodAll_mk1 (shut_bool hub _)
 ·rw [List.append_nil,hargs]
  exact kL hl bel _ _ _ _ hp hA
 ·rw [List.append_nil,hvars,hv]
  rfl
end
end Go.E2
end
section
namespace Go.E2
open Go.ChangeShapes
variable {P:Program} {W:World}
theorem ig:∀ {laid:List (String×DataW Unit)} {ps:List MemPlace} {n:String} {d:DataW Unit},DataW.LaidVars P W laid ps→(n,d)∈laid →
  ∃ g t cs fuel p,P.globalNamed n=some g∧(P.globals[g]?).map (·.type)=some t∧W.var? P n=some cs∧DataW.trod (fun _=>()) P W 0 (fun _=>true) false fuel t cs.toList=some (d,p)
 | [],_,_,_,_,hm=>by cases hm
 | (m,e) :: r,ps,n,d,h,hm=>by
  obtain ⟨g,t,cs,fuel,p,q,h1,h2,h3,h4,h5,_⟩:=h
  rcases List.mem_cons.1 hm with e1 | e1
  ·cases e1;exact ⟨g,t,cs,fuel,p,h1,h2,h3,h4⟩
  ·exact ig h5 e1
theorem iT {n:String} {g:Nat} {cs:Array Value} (hg:P.globalNamed n=some g) (hv:W.var? P n=some cs) {k:Nat} {v:Value} (hk:cs.toList[k]? = some v):(M1 W).cell g k=some v:=by
 refine rX ?_
 unfold World.var? at hv
 rw [hg] at hv
 simp only [Option.bind_some] at hv
 unfold World.cell?
 simp only
 split at hv
 ·rename_i c e f hh
  cases hv
  rw [hh]
  simpa using hk
 ·cases hv
theorem chunk {cs:List Value} {i sz:Nat} {l:List Value} (h:(cs.drop (i*sz)).take sz=l) {j:Nat} (hj:j<sz) {v:Value} (hv:l[j]? = some v):cs[i*sz+j]? = some v:=by
 subst h
 rw [List.getElem?_take_of_lt hj,List.getElem?_drop] at hv
 exact hv
theorem uC {H:Type} {enc:TypeId×Value→H} {fuel t e:Nat} {cs:List Value} {d:DataW H} {p:List MemPlace} (h:DataW.trod enc P W 0 (fun _=>true) false fuel t cs=some (d,p)) (hu:P.underlying t=some (.array 256 e)) (he:P.underlying e=some (.int .u8)) (hc:P.cellsOf e=1) (hd:d=.agg (utf8First.map fun n=>.lit (.int .u8 n))) :
  ∀ (k:Nat) x,utf8First[k]? = some x→cs[k]? = some (.int .u8 x):=by
 obtain ⟨xs,m,_,hx,_,hl,hat⟩:=DataW.trod_array hu h
 intro k x hk
 have hkl:k<256:=by
  have:=(List.getElem?_eq_some_iff.1 hk).1
  have e:utf8First.length=256:=by decide +kernel
  omega
 have h1:=hat k hkl
 rw [List.getElem?_eq_getElem (by omega)] at h1
 obtain ⟨n,q1,q2,_⟩:=DataW.trod_int he h1
 have h2:xs.map (·.1)=utf8First.map fun n=>.lit (.int .u8 n):=by
  have:=hx.symm.trans (by rw [hd]:(d,p)=(.agg (utf8First.map fun n=>.lit (.int .u8 n)),p))
  simp only [Prod.mk.injEq,DataW.agg.injEq] at this
  exact this.1
 have h3:(xs.map (·.1))[k]? = some (.lit (.int .u8 x)):=by rw [h2,List.getElem?_map,hk];rfl
 rw [List.getElem?_map,List.getElem?_eq_getElem (show k<xs.length by omega),q2] at h3
 simp only [Option.map_some,Option.some.injEq,DataW.lit.injEq,Lit.int.injEq,true_and] at h3
 subst h3
 rw [hc] at q1
 have:=chunk q1 (j:=0) (by omega) rfl
 simpa using this
theorem tV {H:Type} {enc:TypeId×Value→H} {fuel t e e1:Nat} {cs:List Value} {d:DataW H} {p:List MemPlace} {f0 f1:Field} (h:DataW.trod enc P W 0 (fun _=>true) false fuel t cs=some (d,p)) (hu:P.underlying t=some (.array 16 e)) (he:P.underlying e=some (.struct #[f0,f1])) (hc:P.cellsOf e=2)
  (t0:f0.type=e1) (o0:f0.offset=0) (t1:f1.type=e1) (o1:f1.offset=1) (he1:P.underlying e1=some (.int .u8)) (hc1:P.cellsOf e1=1) (hd:d=.agg (utf8Accept.map fun n=>.agg [.lit (.int .u8 n.1),.lit (.int .u8 n.2)])) :
  ∀ (k:Nat) x,utf8Accept[k]? = some x→cs[k*2]? = some (.int .u8 x.1)∧cs[k*2+1]? = some (.int .u8 x.2):=by
 obtain ⟨xs,m,_,hx,_,hl,hat⟩:=DataW.trod_array hu h
 intro k x hk
 have hkl:k<16:=by
  have:=(List.getElem?_eq_some_iff.1 hk).1
  have e:utf8Accept.length=16:=by decide +kernel
  omega
 have h1:=hat k hkl
 rw [List.getElem?_eq_getElem (by omega)] at h1
 obtain ⟨ys,m2,_,g1,g2,g3,g4⟩:=DataW.trod_struct he h1
 have h2:xs.map (·.1)=utf8Accept.map fun n=>.agg [.lit (.int .u8 n.1),.lit (.int .u8 n.2)]:=by
  have:=hx.symm.trans (by rw [hd]:(d,p)=(.agg (utf8Accept.map fun n=>.agg [.lit (.int .u8 n.1),.lit (.int .u8 n.2)]),p))
  simp only [Prod.mk.injEq,DataW.agg.injEq] at this
  exact this.1
 have h3:(xs.map (·.1))[k]? = some (.agg [.lit (.int .u8 x.1),.lit (.int .u8 x.2)]):=by rw [h2,List.getElem?_map,hk];rfl
 rw [List.getElem?_map,List.getElem?_eq_getElem (show k<xs.length by omega),g1] at h3
 simp only [Option.map_some,Option.some.injEq,DataW.agg.injEq] at h3
 have r0:=g4 0 f0 rfl
 have r1:=g4 1 f1 rfl
 match ys,h3 with
 | [y0,y1],h3 =>
  simp only [List.map_cons,List.map_nil,List.cons.injEq,and_true] at h3
  rw [t0,o0] at r0
  rw [t1,o1] at r1
  obtain ⟨n0,q0,q0',_⟩:=DataW.trod_int he1 (r0.trans rfl)
  obtain ⟨n1,q1,q1',_⟩:=DataW.trod_int he1 (r1.trans rfl)
  rw [q0',q1'] at h3
  simp only [DataW.lit.injEq,Lit.int.injEq,true_and] at h3
  obtain ⟨e0,e1'⟩:=h3
  subst e0 e1'
  rw [hc1] at q0 q1
  rw [hc] at q0 q1
  have c0:=chunk (cs:=(cs.drop (k*2)).take 2) (i:=0) (sz:=1) (by simpa using q0) (j:=0) (by omega) rfl
  have c1:=chunk (cs:=(cs.drop (k*2)).take 2) (i:=1) (sz:=1) q1 (j:=0) (by omega) rfl
  refine ⟨?_,?_⟩
  ·have:=chunk (cs:=cs) (i:=k) (sz:=2) rfl (j:=0) (by omega) (by simpa using c0)
   simpa using this
  ·exact chunk (cs:=cs) (i:=k) (sz:=2) rfl (j:=1) (by omega) (by simpa using c1)
theorem yp {H:Type} {enc:TypeId×Value→H} {fuel t e eb ei:Nat} {cs:List Value} {d:DataW H} {p:List MemPlace} {f0 f1 f2 f3:Field} (h:DataW.trod enc P W 0 (fun _=>true) false fuel t cs=some (d,p)) (hu:P.underlying t=some (.array 22 e)) (he:P.underlying e=some (.struct #[f0,f1,f2,f3])) (hc:P.cellsOf e=4)
  (t0:f0.type=eb) (o0:f0.offset=0) (t1:f1.type=ei) (o1:f1.offset=1) (t2:f2.type=ei) (o2:f2.offset=2) (t3:f3.type=ei) (o3:f3.offset=3) (heb:P.underlying eb=some .bool) (hcb:P.cellsOf eb=1) (hei:P.underlying ei=some (.int .i64)) (hci:P.cellsOf ei=1)
  (hd:d=.agg (styProps.map fun n=>.agg [.lit (.bool n.1),.lit (.int .i64 n.2.1),.lit (.int .i64 n.2.2.1),.lit (.int .i64 n.2.2.2)])) :
  ∀ (k:Nat) x,styProps[k]? = some x→cs[k*4]? = some (.bool x.1)∧cs[k*4+1]? = some (.int .i64 x.2.1)∧cs[k*4+2]? = some (.int .i64 x.2.2.1)∧cs[k*4+3]? = some (.int .i64 x.2.2.2):=by
 obtain ⟨xs,m,_,hx,_,hl,hat⟩:=DataW.trod_array hu h
 intro k x hk
 have hkl:k<22:=by
  have:=(List.getElem?_eq_some_iff.1 hk).1
  have e:styProps.length=22:=by decide +kernel
  omega
 have h1:=hat k hkl
 rw [List.getElem?_eq_getElem (by omega)] at h1
 obtain ⟨ys,m2,_,g1,g2,g3,g4⟩:=DataW.trod_struct he h1
 have h2:xs.map (·.1)=styProps.map fun n=>.agg [.lit (.bool n.1),.lit (.int .i64 n.2.1),.lit (.int .i64 n.2.2.1),.lit (.int .i64 n.2.2.2)]:=by
  have:=hx.symm.trans (by rw [hd]:(d,p)=(.agg (styProps.map fun n=>.agg [.lit (.bool n.1),.lit (.int .i64 n.2.1),.lit (.int .i64 n.2.2.1),.lit (.int .i64 n.2.2.2)]),p))
  simp only [Prod.mk.injEq,DataW.agg.injEq] at this
  exact this.1
 have h3:(xs.map (·.1))[k]? = some (.agg [.lit (.bool x.1),.lit (.int .i64 x.2.1),.lit (.int .i64 x.2.2.1),.lit (.int .i64 x.2.2.2)]):=by rw [h2,List.getElem?_map,hk];rfl
 rw [List.getElem?_map,List.getElem?_eq_getElem (show k<xs.length by omega),g1] at h3
 simp only [Option.map_some,Option.some.injEq,DataW.agg.injEq] at h3
 have r0:=g4 0 f0 rfl
 have r1:=g4 1 f1 rfl
 have r2:=g4 2 f2 rfl
 have r3:=g4 3 f3 rfl
 match ys,h3 with
 | [y0,y1,y2,y3],h3 =>
  simp only [List.map_cons,List.map_nil,List.cons.injEq,and_true] at h3
  rw [t0,o0] at r0
  rw [t1,o1] at r1
  rw [t2,o2] at r2
  rw [t3,o3] at r3
  obtain ⟨n0,q0,q0'⟩:=DataW.trod_bool heb (r0.trans rfl)
  obtain ⟨n1,q1,q1',_⟩:=DataW.trod_int hei (r1.trans rfl)
  obtain ⟨n2,q2,q2',_⟩:=DataW.trod_int hei (r2.trans rfl)
  obtain ⟨n3,q3,q3',_⟩:=DataW.trod_int hei (r3.trans rfl)
  rw [q0',q1',q2',q3'] at h3
  simp only [DataW.lit.injEq,Lit.int.injEq,Lit.bool.injEq,true_and] at h3
  obtain ⟨e0,e1',e2',e3'⟩:=h3
  subst e0 e1' e2' e3'
  rw [hcb] at q0
  rw [hci] at q1 q2 q3
  rw [hc] at q0 q1 q2 q3
  have c0:=chunk (cs:=(cs.drop (k*4)).take 4) (i:=0) (sz:=1) (by simpa using q0) (j:=0) (by omega) rfl
  have c1:=chunk (cs:=(cs.drop (k*4)).take 4) (i:=1) (sz:=1) q1 (j:=0) (by omega) rfl
  have c2:=chunk (cs:=(cs.drop (k*4)).take 4) (i:=2) (sz:=1) q2 (j:=0) (by omega) rfl
  have c3:=chunk (cs:=(cs.drop (k*4)).take 4) (i:=3) (sz:=1) q3 (j:=0) (by omega) rfl
  refine ⟨?_,?_,?_,?_⟩
  ·have:=chunk (cs:=cs) (i:=k) (sz:=4) rfl (j:=0) (by omega) (by simpa using c0)
   simpa using this
  ·exact chunk (cs:=cs) (i:=k) (sz:=4) rfl (j:=1) (by omega) (by simpa using c1)
  ·exact chunk (cs:=cs) (i:=k) (sz:=4) rfl (j:=2) (by omega) (by simpa using c2)
  ·exact chunk (cs:=cs) (i:=k) (sz:=4) rfl (j:=3) (by omega) (by simpa using c3)
theorem tab_of {laid : List (String × DataW Unit)} {t1 e1 t2 e2 e3 : Nat} {f0 f1 : Field} {d1 d2 : DataW Unit} (h : laidMetH P laid W) (hh : (laid.filter fun x => x.2.handleName?.isSome) = []) (m1 : ("unicode/utf8.first", d1) ∈ laid) (m2 : ("unicode/utf8.acceptRanges", d2) ∈ laid)
  (n1 : (P.globalNamed "unicode/utf8.first").bind (fun g => (P.globals[g]?).map (·.type)) = some t1) (n2 : (P.globalNamed "unicode/utf8.acceptRanges").bind (fun g => (P.globals[g]?).map (·.type)) = some t2)
  (hu1 : P.underlying t1 = some (.array 256 e1)) (he1 : P.underlying e1 = some (.int .u8)) (hc1 : P.cellsOf e1 = 1) (hd1 : d1 = .agg (utf8First.map fun n=>.lit (.int .u8 n)))
  (hu2 : P.underlying t2 = some (.array 16 e2)) (he2 : P.underlying e2 = some (.struct #[f0,f1])) (hc2 : P.cellsOf e2 = 2) (ft0 : f0.type = e3) (fo0 : f0.offset = 0) (ft1 : f1.type = e3) (fo1 : f1.offset = 1) (he3 : P.underlying e3 = some (.int .u8)) (hc3 : P.cellsOf e3 = 1)
  (hd2 : d2 = .agg (utf8Accept.map fun n=>.agg [.lit (.int .u8 n.1),.lit (.int .u8 n.2)]))
  (h3 : P.globalNamed "widgetry/style.properties" = none ∨ ∃ (d3 : DataW Unit) (t3 e3 eb ei : Nat) (f0 f1 f2 f3 : Field), ("widgetry/style.properties", d3) ∈ laid ∧ (P.globalNamed "widgetry/style.properties").bind (fun g => (P.globals[g]?).map (·.type)) = some t3 ∧ P.underlying t3 = some (.array 22 e3) ∧ P.underlying e3 = some (.struct #[f0, f1, f2, f3]) ∧ P.cellsOf e3 = 4 ∧
   f0.type = eb ∧ f0.offset = 0 ∧ f1.type = ei ∧ f1.offset = 1 ∧ f2.type = ei ∧ f2.offset = 2 ∧ f3.type = ei ∧ f3.offset = 3 ∧ P.underlying eb = some .bool ∧ P.cellsOf eb = 1 ∧ P.underlying ei = some (.int .i64) ∧ P.cellsOf ei = 1 ∧
   d3 = .agg (styProps.map fun n=>.agg [.lit (.bool n.1),.lit (.int .i64 n.2.1),.lit (.int .i64 n.2.2.1),.lit (.int .i64 n.2.2.2)])) : Tab P (M1 W):=by
 unfold laidMetH at h
 rw [hh] at h
 obtain ⟨ps,hv,_,_⟩:=h
 refine ⟨?_,?_,?_⟩
 ·intro g hg k x hk
  obtain ⟨g',t,cs,fuel,p,a1,a2,a3,a4⟩:=ig hv m1
  rw [hg] at a1;cases a1
  rw [hg] at n1
  simp only [Option.bind_some] at n1
  rw [a2] at n1;cases n1
  exact iT hg a3 (uC a4 hu1 he1 hc1 hd1 k x hk)
 ·intro g hg k x hk
  obtain ⟨g',t,cs,fuel,p,a1,a2,a3,a4⟩:=ig hv m2
  rw [hg] at a1;cases a1
  rw [hg] at n2
  simp only [Option.bind_some] at n2
  rw [a2] at n2;cases n2
  have:=tV a4 hu2 he2 hc2 ft0 fo0 ft1 fo1 he3 hc3 hd2 k x hk
  exact ⟨iT hg a3 this.1,iT hg a3 this.2⟩
 ·intro g hg k x hk
  rcases h3 with h3 | ⟨d3,t3,e3,eb,ei,f0,f1,f2,f3,m3,n3,hu3,hef,hc,t0,o0,t1,o1,t2,o2,t3',o3,heb,hcb,hei,hci,hd3⟩
  ·rw [h3] at hg;cases hg
  obtain ⟨g',t,cs,fuel,p,a1,a2,a3,a4⟩:=ig hv m3
  rw [hg] at a1;cases a1
  rw [hg] at n3
  simp only [Option.bind_some] at n3
  rw [a2] at n3;cases n3
  have:=yp a4 hu3 hef hc t0 o0 t1 o1 t2 o2 t3' o3 heb hcb hei hci hd3 k x hk
  exact ⟨iT hg a3 this.1,iT hg a3 this.2.1,iT hg a3 this.2.2.1,iT hg a3 this.2.2.2⟩
end Go.E2
end
section
namespace Go.E2
variable {P:Program} {C:Ctx} {F:FS} {ops:Array Oper} {dst:Nat} {op:Op} {ty:TypeId} {pos:String} {after:Array Edge}
section plain
variable {K V:Type} [BEq K]
def midx:List (K×V)→K→Option Nat
 | [],_=>none
 | (a,_) :: r,k=>match k==a with
  | true=>some 0
  | false=>(midx r k).map (· + 1)
def cG:List (K×V)→K→Option V
 | [],_=>none
 | (a,v) :: r,k=>match k==a with
  | true=>some v
  | false=>cG r k
def mgetO (L:List (K×V)) (k:K) (z:V):Option (V×Bool):=some (match cG L k with
 | some v=>(v,true)
 | none=>(z,false))
def msetL:List (K×V)→K→V→List (K×V)
 | [],k,v=>[(k,v)]
 | (a,u) :: r,k,v=>match k==a with
  | true=>(k,v) :: r
  | false=>(a,u) :: msetL r k v
theorem gQ:∀ {L:List (K×V)} {k:K} {n:Nat},midx L k=some n→∃ p,L[n]? = some p∧(k==p.1)=true
 | [],k,n,h=>by cases h
 | (a,v) :: r,k,n,h=>by
  unfold midx at h
  cases hk:(k==a) with
  | true=>rw [hk] at h;cases h;exact ⟨(a,v),rfl,hk⟩
  | false =>
   rw [hk] at h
   simp only [Option.map_eq_some_iff] at h
   obtain ⟨m,hm,rfl⟩:=h
   obtain ⟨p,h1,h2⟩:=gQ hm
   exact ⟨p,by simpa using h1,h2⟩
theorem mw:∀ (L:List (K×V)) (k:K),cG L k=(midx L k).bind fun n=>(L[n]?).map (·.2)
 | [],_=>rfl
 | (a,v) :: r,k=>by
  unfold cG midx
  cases hk:(k==a) with
  | true=>rfl
  | false =>
   simp only
   rw [mw r k]
   cases midx r k with
   | none=>rfl
   | some n=>simp
theorem wY (L:List (K×V)) (k:K) (z:V):mgetO L k z=match midx L k with
  | none=>some (z,false)
  | some n=>match L[n]? with
   | some p=>some (p.2,true)
   | none=>none:=by
 unfold mgetO
 rw [mw]
 cases h:midx L k with
 | none=>rfl
 | some n =>
  obtain ⟨p,hp,_⟩:=gQ h
  simp [hp]
theorem lf:∀ (L:List (K×V)) (k:K) (v:V),msetL L k v=match midx L k with
  | none=>L++[(k,v)]
  | some n=>L.set n (k,v)
 | [],_,_=>rfl
 | (a,u) :: r,k,v=>by
  unfold msetL midx
  cases hk:(k==a) with
  | true=>rfl
  | false =>
   simp only
   rw [lf r k v]
   cases midx r k with
   | none=>rfl
   | some n=>rfl
end plain
theorem jm {t:TypeId} {d:TypeDesc} (h:P.underlying t=some d) (w:World):(underlying t).run P w=.ok d w:=by
 simp [underlying,program,Sem.run,h]
structure KeyOk (P:Program) (kt:TypeId) {K:Type} [BEq K] (ek:K→Value):Prop where
 law:∀ a b:K,(a==b)=true→a=b
 d:∃ d,P.underlying kt=some d∧(∀ a b,Instr.sameNow d (ek a) (ek b)=some (a==b))∧∀ e a w,(Instr.checkKey e 10000 kt (ek a)).run P w=.ok () w
 bits:∀ a b,(a==b)=true→Instr.sameBits 10000 (ek a) (ek b)=true
def kInt (k:IntKind) (a:Int):Value:=.int k a
def kStr (a:Str):Value:=.string a
theorem keyInt {kt:TypeId} {k:IntKind} (h:P.underlying kt=some (.int k)):KeyOk P kt (kInt k):=by
 refine ⟨fun a b h=>by simpa using h,⟨_,h,fun a b=>by simp [Instr.sameNow,kInt],fun e a w=>?_⟩,fun a b hab=>by simp [kInt,Instr.sameBits];simpa using hab⟩
 unfold Instr.checkKey
 rw [ag (jm h w)]
 rfl
theorem keyStr {kt : TypeId} (h : P.underlying kt = some .string) : KeyOk P kt kStr := by
  refine ⟨fun a b h => by
      obtain ⟨a⟩ := a
      obtain ⟨b⟩ := b
      have h' : (a == b) = true := h
      rw [eq_of_beq h'], ⟨_, h, fun a b => by simp [Instr.sameNow, kStr], fun e a w => ?_⟩, fun a b hab => by simp [kStr, Instr.sameBits]; simpa using hab⟩
  unfold Instr.checkKey
  rw [ag          (jm        h w)]
  rfl
def rowA (agg:Bool) (row:List D):A1:=match agg with
 | true=>.agg (dcells row)
 | false=>match row with
  | d :: _=>.c (.d d)
  | []=>.agg []
def encM {K V:Type} (ek:K→Value) (ev:V→List D) (L:List (K×V)):List (Value×List D):=L.map fun p=>(ek p.1,ev p.2)
theorem dc {K V:Type} {ek:K→Value} {ev:V→List D} {L:List (K×V)} {i:Nat} {a:K} {v:V} (h:L[i]? = some (a,v)):(encM ek ev L)[i]? = some (ek a,ev v):=by
 unfold encM;rw [List.getElem?_map,h];rfl
theorem j4 {K V:Type} {ek:K→Value} {ev:V→List D} {L:List (K×V)} {i:Nat} {a:Value} {v:List D} (h:(encM ek ev L)[i]? = some (a,v)):∃ p,L[i]? = some p∧a=ek p.1∧v=ev p.2:=by
 unfold encM at h
 rw [List.getElem?_map] at h
 cases hl:L[i]? with
 | none=>rw [hl] at h;cases h
 | some p=>rw [hl] at h;cases h;exact ⟨p,rfl,rfl,rfl⟩
def MpAt (M : Mem) (w : World) (agg : Bool) (l : List (Value × List D)) (v : Value) : Prop :=
  (v = .map none ∧ l = []) ∨ ∃ (r : Nat) (es : Array MapEntry) (clock : Nat) (f : Nat → Nat → Value), v = .map (some r) ∧ w.heap[r]? = some (.map es clock) ∧ es.size = l.length ∧ (∀ (i : Nat) k row, l[i]? = some (k, row) → ∃ born, es[i]? = some ⟨k, mkVal agg row.length (f i), born⟩) ∧
      (∀ (i : Nat) k row (j : Nat) d, l[i]? = some (k, row) → row[j]? = some d → Rep M d (f i j))
def mpOf (F:FS) (x:Operand):Option (Bool×List (Value×List D)) :=
 match rd F x with
 | some (.c (.own j))=>match F.bl j with
  | some (.mp agg l)=>some (agg,l)
  | _=>none
 | some (.c (.d (.mp agg l)))=>some (agg,l)
 | _=>none
def mpBlk (F:FS) (x:Operand):List Nat :=
 match rd F x with
 | some (.c (.own j))=>[j]
 | _=>[]
theorem jx {F':FS} {x:Operand} (h:opnd F' x=opnd F x) (hb:∀ j∈mpBlk F x,F'.bl j=F.bl j):mpOf F' x=mpOf F x:=by
 unfold mpOf
 rw [dm h]
 unfold mpBlk at hb
 split
 ·rename_i j hj
  rw [hj] at hb
  rw [hb j (by simp)]
 ·rfl
 ·rfl
theorem m6 {ρ:Env} {M:Mem} {a:Act} {w:World} (hr:Rel0 C F ρ M a w) {xs:List Operand} (hR:Reads F a ρ M xs) {x:Operand} (hx:x∈xs) {agg:Bool} {l:List (Value×List D)} (h:mpOf F x=some (agg,l)):MpAt M w agg l (a.eval x):=by
 unfold mpOf at h
 split at h
 ·rename_i j hj
  split at h
  ·rename_i g l' hb
   cases h
   have e:a.eval x=ρ j:=hR x hx _ hj
   obtain ⟨r,es,clock,f,e1,h1,h2,h3,h4,h5,_⟩:=hr.heap.inv j _ hb
   exact .inr ⟨r,es,clock,f,e.trans e1,h1,h3,h4,h5⟩
  ·cases h
 ·rename_i g l' hx'
  cases h
  have e:Rep M (.mp agg l) (a.eval x):=hR x hx _ hx'
  generalize a.eval x=v at e
  cases e with
  | mp0=>exact .inl ⟨rfl,rfl⟩
  | @mp _ _ r clock es f ho hs hk he=>exact .inr ⟨r,es,clock,f,rfl,(hr.heap.mem.obj _ _ ho).1,hs,hk,he⟩
 ·cases h
theorem ma {K V:Type} [BEq K] {ek:K→Value} {d:TypeDesc} (hd:∀ a b,Instr.sameNow d (ek a) (ek b)=some (a==b)) (k:K):∀ (L:List (K×V)) (es:List MapEntry) (i:Nat),es.length=L.length→(∀ (n:Nat) p,L[n]? = some p→∃ e,es[n]? = some e∧e.key=ek p.1) →
  Instr.findNow d (ek k) es i=some ((midx L k).bind fun n=>(es[n]?).map fun e=>(i+n,e.val))
 | [],[],i,_,_=>rfl
 | [],_ :: _,i,h,_=>by simp at h
 | _ :: _,[],i,h,_=>by simp at h
 | (a,v) :: r,e :: es,i,h,he=>by
  obtain ⟨e',h1,h2⟩:=he 0 (a,v) rfl
  simp at h1
  subst h1
  unfold Instr.findNow midx
  rw [h2,hd]
  cases hk:(k==a) with
  | true=>simp
  | false =>
   simp only
   rw [ma hd k r es (i+1) (by simpa using h) (fun n p hp=>by simpa using he (n+1) p (by simpa using hp))]
   cases midx r k with
   | none=>rfl
   | some n=>simp;congr 1;funext e;congr 1;omega
theorem gR {K V:Type} [BEq K] {kt:TypeId} {ek:K→Value} (hk:KeyOk P kt ek) {L:List (K×V)} {es:Array MapEntry} (hs:es.size=L.length) (he:∀ (n:Nat) p,L[n]? = some p→∃ e,es[n]? = some e∧e.key=ek p.1) (k:K) (w:World) :
  (Instr.findKey kt (ek k) es.toList).run P w=.ok ((midx L k).bind fun n=>(es[n]?).map fun e=>(n,e.val)) w:=by
 obtain ⟨d,hu,h1,_⟩:=hk.d
 unfold Instr.findKey
 rw [ag (jm hu w),ma h1 k L es.toList 0 (by simpa using hs) (fun n p hp=>by simpa using he n p hp)]
 simp only [Nat.zero_add,Array.getElem?_toList]
 rfl
def mapInfo (P:Program) (t:TypeId):Option (TypeId×TypeId):=match P.underlying t with
 | some (.map k e)=>some (k,e)
 | _=>none
theorem i6 {t k e:TypeId} (h:mapInfo P t=some (k,e)) (w:World):(underlying t).run P w=.ok (.map k e) w:=by
 unfold mapInfo at h
 split at h
 ·rename_i hu;cases h;exact jm hu w
 ·cases h
def zeroA (P:Program) (t:TypeId):Option A1 :=
 match P.info? t with
 | some i=>match i.zero with
  | some (.agg cs)=>some (.agg (cs.toList.map zcell))
  | some v=>some (.c (zcell v))
  | none=>none
 | none=>none
theorem pE {t:TypeId} {x:A1} (h:zeroA P t=some x) (w:World):∃ v,(zeroValue t).run P w=.ok v w∧∀ ρ M,x.rep ρ M v:=by
 unfold zeroA at h
 split at h
 ·rename_i i hi
  split at h
  ·rename_i cs hz
   cases h
   exact ⟨.agg cs,by simp [zeroValue,typeInfo,program,Sem.bind,Sem.run,hi,hz,bind,pure],fun ρ M=>⟨cs,rfl,Reps.zero cs.toList⟩⟩
  ·rename_i v hne hz
   cases h
   exact ⟨v,by simp [zeroValue,typeInfo,program,Sem.bind,Sem.run,hi,hz,bind,pure],fun ρ M=>pF ρ M v⟩
  ·cases h
 ·cases h
theorem om {ρ:Env} {M:Mem}:∀ {row:List D} {vs:List Value},RepsD M row vs→Reps ρ M (dcells row) vs
 | [],[],_=>trivial
 | _ :: _,_ :: _,h=>⟨h.1,om h.2⟩
 | [],_ :: _,h=>h.elim
 | _ :: _,[],h=>h.elim
theorem sw {M:Mem} (f:Nat→Value):∀ (row:List D) (o:Nat),(∀ (j:Nat) d,row[j]? = some d→Rep M d (f (o+j)))→RepsD M row ((List.range' o row.length).map f)
 | [],_,_=>trivial
 | d :: r,o,h=>by
  simp only [List.length_cons,List.range'_succ,List.map_cons]
  exact ⟨by simpa using h 0 d rfl,sw f r (o+1) (fun j d' hj=>by
   have:=h (j+1) d' (by simpa using hj)
   rw [show o+1+j=o+(j+1) by omega];exact this)⟩
theorem su {ρ:Env} {M:Mem} {agg:Bool} {row:List D} {f:Nat→Value} (h1:agg=false→row.length=1) (h:∀ (j:Nat) d,row[j]? = some d→Rep M d (f j)):(rowA agg row).rep ρ M (mkVal agg row.length f):=by
 cases agg with
 | true =>
  refine ⟨_,rfl,?_⟩
  have:=sw f row 0 (fun j d hj=>by simpa using h j d hj)
  rw [← List.range_eq_range'] at this
  simpa using om this
 | false =>
  have:=h1 rfl
  match row,this with
  | [d],_=>exact h 0 d rfl
theorem jT {K V:Type} [BEq K] {t kt et:TypeId} {ek:K→Value} {ev:V→List D} {L:List (K×V)} {agg:Bool} {M:Mem} {w:World} {v:Value} {z0:A1} {k:K} {zr y:V} {ok co:Bool}
  (hm:MpAt M w agg (encM ek ev L) v) (ht:mapInfo P t=some (kt,et)) (hk:KeyOk P kt ek) (hz:zeroA P et=some z0) (hzn:∀ (ρ:Env) (v:Value),z0.rep ρ M v→(rowA agg (ev zr)).rep ρ M v) (h1:agg=false→∀ x,(ev x).length=1) (hg:mgetO L k zr=some (y,ok)) :
  ∃ u,(Instr.lookup t v (ek k) co).run P w=.ok (if co then .tuple #[u,.bool ok] else u) w∧∀ ρ,(rowA agg (ev y)).rep ρ M u:=by
 obtain ⟨zv,z1,z2⟩:=pE hz w
 obtain ⟨d,hu,g1,g2⟩:=hk.d
 unfold Instr.lookup
 rw [ag (i6 ht w)]
 rcases hm with ⟨rfl,hl⟩ | ⟨r,es,clock,f,rfl,q1,q2,q3,q4⟩
 ·have hL:L=[]:=by
   unfold encM at hl;simpa using hl
  subst hL
  cases hg
  refine ⟨zv,?_,fun ρ=>hzn ρ _ (z2 ρ M)⟩
  simp only [pure_bind]
  rw [ag (g2 _ _ w),ag (gR (L:=([]:List (K×V))) (es:=#[]) hk rfl (fun n p hp=>by simp at hp) k w)]
  simp only [midx,Option.bind_none]
  rw [ag z1]
  cases co <;> rfl
 ·have hs:es.size=L.length:=by rw [q2];simp [encM]
  have he:∀ (n:Nat) p,L[n]? = some p→∃ e,es[n]? = some e∧e.key=ek p.1:=fun n p hp=>by
   obtain ⟨born,hb⟩:=q3 n _ _ (dc (a:=p.1) (v:=p.2) hp)
   exact ⟨_,hb,rfl⟩
  have hgo:(getObj r).run P w=.ok (.map es clock) w:=by simp [getObj,Sem.run,q1]
  simp only []
  rw [ag hgo]
  simp only [pure_bind]
  rw [ag (g2 _ _ w),ag (gR hk hs he k w)]
  rw [wY] at hg
  cases hi:midx L k with
  | none =>
   rw [hi] at hg
   cases hg
   refine ⟨zv,?_,fun ρ=>hzn ρ _ (z2 ρ M)⟩
   simp only [Option.bind_none]
   rw [ag z1]
   cases co <;> rfl
  | some n =>
   rw [hi] at hg
   obtain ⟨p,hp,_⟩:=gQ hi
   obtain ⟨born,hb⟩:=q3 n _ _ (dc (a:=p.1) (v:=p.2) hp)
   simp only [hp,Option.some.injEq,Prod.mk.injEq] at hg
   obtain ⟨rfl,rfl⟩:=hg
   refine ⟨mkVal agg (ev p.2).length (f n),?_,fun ρ=>su (fun h=>h1 h _) (fun j d hj=>q4 n _ _ j d (dc (a:=p.1) (v:=p.2) hp) hj)⟩
   simp only [Option.bind_some,hb,Option.map_some]
   cases co <;> rfl
theorem ur {o:Oper} {d:Nat} {x:AV} (hg:o.guard=none) (hd:o.dst=some d) (hn:Nat.blt d C.n=true) (hq:∀ ρ M a w,Rel0 C F ρ M a w→∃ u,(execOp a.eval o).run P w=.ok (.value u) w∧x.rep ρ M u):Tri P C ops o F (F.upd [(d,x)] []):=by
 refine Tri.val [] hg hd hn (fun _ h=>by cases h) (fun k hk=>by rw [bF];exact hk) (fun _ h=>by cases h) (fun ρ M a w hr=>?_)
 obtain ⟨u,h1,_⟩:=hq ρ M a w hr
 refine ⟨u,w,M,fun _=>undef,h1,Mem.le_refl _,fun ρ' h0 _=>?_⟩
 obtain ⟨u',h1',h2'⟩:=hq ρ' M a w h0
 have e:u=u':=by have:=h1.symm.trans h1';simpa using this
 subst e
 exact ⟨h2',by rw [bF];exact h0.heap⟩
theorem gv {K V:Type} [BEq K] {ek:K→Value} {ev:V→List D} {L:List (K×V)} {agg:Bool} {t kt et:TypeId} {x i:Operand} {z0 r:A1} {k:K} {zr:V} {yo:V×Bool} (hg:mgetO L k zr=some yo) (hx:mpOf F x=some (agg,encM ek ev L)) (hi:rdV F i=some (ek k)) (ht:mapInfo P t=some (kt,et)) (hk:KeyOk P kt ek) (hz:zeroA P et=some z0) (hzn:z0.norm=rowA agg (ev zr)) (h1:agg=false→∀ x,(ev x).length=1) (hr:rowA agg (ev yo.1)=r) (hs:sideOk F true [x,i]) (hd:Nat.blt dst C.n=true) :
  TriL P C ops ⟨some dst,.lookup t x i false,ty,pos,after,none⟩ ⟨slotsOf [x,i],mpBlk F x,[dst],[]⟩ [(dst,.s r)] [] F:=by
 subst hr
 refine ⟨⟨rfl,rfl⟩,fun F' hS=>?_⟩
 have h2:=aG hS.1
 refine bC rfl rfl hd (fun ρ M a w hr=>?_)
 have hR:=aR hr rfl (aC h2 hs)
 obtain ⟨u,q1,q2⟩:=jT (P:=P) (co:=false) (m6 hr hR (by simp) ((jx (h2 x (by simp)) hS.2).trans hx)) ht hk hz (fun ρ v h=>by rw [← hzn];exact A1.norm_rep h) h1 hg
 refine ⟨u,?_,q2 ρ⟩
 unfold execOp
 simp only
 rw [a7 hR (by simp) ((ba (h2 i (by simp))).trans hi)]
 exact aA q1
theorem kN {K V:Type} [BEq K] {ek:K→Value} {ev:V→List D} {L:List (K×V)} {agg:Bool} {t kt et:TypeId} {x i:Operand} {z0 r:A1} {k:K} {zr:V} {yo:V×Bool} {gk:Nat} {want g:Bool} (hg:g=true→mgetO L k zr=some yo) (hb:guardB F ops gk want=some g) (hx:mpOf F x=some (agg,encM ek ev L)) (hi:rdV F i=some (ek k)) (ht:mapInfo P t=some (kt,et)) (hk:KeyOk P kt ek) (hz:zeroA P et=some z0) (hzn:z0.norm=rowA agg (ev zr)) (h1:agg=false→∀ x,(ev x).length=1) (hr:rowA agg (ev yo.1)=r) (hs:sideOk F g [x,i]) (hd:Nat.blt dst C.n=true) :
  TriL P C ops ⟨some dst,.lookup t x i false,ty,pos,after,some (gk,want)⟩ ⟨gSlot ops gk++slotsOf [x,i],mpBlk F x,[dst],[]⟩ [(dst,.gd g r)] [] F:=by
 subst hr
 refine ⟨⟨rfl,rfl⟩,fun F' hS=>?_⟩
 have h2:=aG (F:=F) (F':=F') (xs:=[x,i]) (fun t ht=>hS.1 t (by simp [ht]))
 refine cX rfl ((bS (fun t ht=>hS.1 t (by simp [ht]))).trans hb) rfl hd (fun hgt ρ M a w hr=>?_)
 have hR:=aR hr hgt (aC h2 hs)
 obtain ⟨u,q1,q2⟩:=jT (P:=P) (co:=false) (m6 hr hR (by simp) ((jx (h2 x (by simp)) hS.2).trans hx)) ht hk hz (fun ρ v h=>by rw [← hzn];exact A1.norm_rep h) h1 (hg hgt)
 refine ⟨u,?_,q2 ρ⟩
 unfold execOp
 simp only
 rw [a7 hR (by simp) ((ba (h2 i (by simp))).trans hi)]
 exact aA q1
theorem r9 {K V:Type} [BEq K] {ek:K→Value} {ev:V→List D} {L:List (K×V)} {agg:Bool} {t kt et:TypeId} {x i:Operand} {z0 r:A1} {k:K} {zr:V} {yo:V×Bool} (hg:mgetO L k zr=some yo) (hx:mpOf F x=some (agg,encM ek ev L)) (hi:rdV F i=some (ek k)) (ht:mapInfo P t=some (kt,et)) (hk:KeyOk P kt ek) (hz:zeroA P et=some z0) (hzn:z0.norm=rowA agg (ev zr)) (h1:agg=false→∀ x,(ev x).length=1) (hr:rowA agg (ev yo.1)=r) (hs:sideOk F true [x,i]) (hd:Nat.blt dst C.n=true) :
  TriL P C ops ⟨some dst,.lookup t x i true,ty,pos,after,none⟩ ⟨slotsOf [x,i],mpBlk F x,[dst],[]⟩ [(dst,.tup [r,.c (.d (.v (.bool yo.2)))])] [] F:=by
 subst hr
 refine ⟨⟨rfl,rfl⟩,fun F' hS=>?_⟩
 have h2:=aG hS.1
 refine ur rfl rfl hd (fun ρ M a w hr=>?_)
 have hR:=aR hr rfl (aC h2 hs)
 obtain ⟨u,q1,q2⟩:=jT (P:=P) (co:=true) (m6 hr hR (by simp) ((jx (h2 x (by simp)) hS.2).trans hx)) ht hk hz (fun ρ v h=>by rw [← hzn];exact A1.norm_rep h) h1 hg
 refine ⟨.tuple #[u,.bool yo.2],?_,⟨_,rfl,q2 ρ,Rep.v _,trivial⟩⟩
 unfold execOp
 simp only
 rw [a7 hR (by simp) ((ba (h2 i (by simp))).trans hi)]
 exact aA q1
theorem qS {K V:Type} {ek:K→Value} {ev:V→List D} (L:List (K×V)) {agg:Bool} {t kt et:TypeId} {x:Operand} (hx:mpOf F x=some (agg,encM ek ev L)) (ht:mapInfo P t=some (kt,et)) (hs:sideOk F true [x]) (hd:Nat.blt dst C.n=true) :
  TriL P C ops ⟨some dst,.call ⟨.builtin .len,#[x],#[t]⟩,ty,pos,after,none⟩ ⟨slotsOf [x],mpBlk F x,[dst],[]⟩ [(dst,.s (.c (.d (.v (.int .i64 L.length)))))] [] F:=by
 refine ⟨⟨rfl,rfl⟩,fun F' hS=>?_⟩
 have h1:=aG hS.1
 refine bC (x:=.c (.d (.v (.int .i64 L.length)))) rfl rfl hd (fun ρ M a w hr=>?_)
 have hm:=m6 hr (aR hr rfl (aC h1 hs)) (by simp) ((jx (h1 x (by simp)) hS.2).trans hx)
 have hlen:(encM ek ev L).length=L.length:=by simp [encM]
 have key:(Builtin.len_ #[t] ty #[a.eval x]).run P w=.ok (.int .i64 L.length) w:=by
  unfold Builtin.len_
  simp only [List.getElem?_toArray,List.getElem?_cons_zero]
  rw [ag (i6 ht w)]
  rcases hm with ⟨e,hl⟩ | ⟨r,es,clock,f,e,q1,q2,q3,q4⟩
  ·rw [e]
   rw [hl] at hlen
   simp only [List.length_nil] at hlen
   rw [← hlen];rfl
  ·rw [e]
   simp only
   have:(getObj r).run P w=.ok (.map es clock) w:=by simp [getObj,Sem.run,q1]
   rw [ag this]
   simp only [q2,hlen]
   rfl
 refine ⟨_,?_,Rep.v _⟩
 unfold execOp
 simp only [resolve,List.map_toArray,List.map_cons,List.map_nil,pure_bind,invoke]
 show (do let y ← Builtin.len_ #[t] ty #[a.eval x];pure (Next.value y):Sem Next).run P w=_
 exact aA key
theorem g9 {t:TypeId} {j:Nat} (agg:Bool) (hd:Nat.blt dst C.n=true) (hj:F.bl j=none) :
  TriL P C ops ⟨some dst,.makeMap t none,ty,pos,after,none⟩ ⟨[],[j],[dst],[j]⟩ [(dst,.s (.c (.own j)))] [(j,.mp agg [])] F:=by
 refine ⟨⟨rfl,rfl⟩,fun F' hS=>?_⟩
 refine Tri.val [j] rfl rfl hd (fun k hk=>by simp at hk;subst hk;exact (hS.2 k (by simp)).trans hj) (fun k hk=>cJ hk) (fun k hk=>by simp at hk;subst hk;rw [bP,if_pos rfl];simp) (fun ρ M a w hr=>?_)
 refine ⟨.map (some w.heap.size),w.alloc (.map #[] 0),M,fun _=>.map (some w.heap.size),rfl,Mem.le_refl _,fun ρ' h0' hnv=>?_⟩
 have hnj:=hnv j (by simp)
 refine ⟨hnj.symm,h0'.heap.allocO ?_ (fun b hb=>?_)⟩
 ·rw [hnj]
  exact ⟨w.heap.size,#[],0,fun _ _=>undef,rfl,fe _ _,(h0'.heap.mem.none (Nat.le_refl _)).2,rfl,fun i k row h=>by simp at h,fun i k row j d h _=>by simp at h,rfl,fun i e h=>by simp at h⟩
 ·rw [hnj] at hb;cases hb;exact Nat.le_refl _
theorem kp          {agg : Bool} {v : Value} {row : List D} {M : Mem} (h : ∃ ρ, (rowA agg row).rep ρ M v) (h1 : agg = false → row.length = 1) : ∃ f : Nat → Value, v = mkVal agg row.length f ∧ ∀ (j : Nat) d, row[j]? = some d → Rep M d (f j) := by
  obtain ⟨ρ, h⟩ := h
  cases agg with
  | true =>
    obtain ⟨arr, rfl, h2⟩ := h
    have hlen : arr.toList.length = row.length := by have := h2.len; simpa [dcells] using this
    refine ⟨fun i => (arr.toList[i]?).getD undef, ?_, fun j d hj => ?_⟩
    · simp only [mkVal, Value.agg.injEq]
      apply Array.ext'
      apply List.ext_getElem?
      intro i
      rw [List.getElem?_map]
      by_cases hi : i < row.length
      · rw [List.getElem?_range hi]
        have : i < arr.toList.length := by omega
        have h3 : arr[i]? = some arr[i] := Array.getElem?_eq_getElem (by simpa using this)
        simp [h3]
      · rw [List.getElem?_eq_none (by omega), List.getElem?_eq_none (by simp; omega)]; rfl
    · obtain ⟨u, hu, hr⟩ := h2.get j (.d d) (by simp [dcells, hj])
      show Rep M d ((arr.toList[j]?).getD undef)
      rw [hu]; exact hr
  | false =>
    have := h1 rfl
    match row, this with
    | [d], _ => exact ⟨fun _ => v, rfl, fun j d' hj => by
        cases j with
        | zero => simp at hj; subst hj; exact h
        | succ j => simp at hj⟩
theorem gE {w:World} {r clock:Nat} {es:Array MapEntry} {o':Obj} (h:w.heap[r]? = some (.map es clock)):((setObj r o').run P w=.ok () { w with heap:=w.heap.setIfInBounds r o' }):=by
 simp only [setObj,Sem.run,h]
def esSet {K V:Type} [BEq K] (ek:K→Value) (L:List (K×V)) (k:K) (u:Value) (clock:Nat) (es:Array MapEntry):Array MapEntry:=match midx L k with
 | some n=>es.modify n fun e=>{ e with key:=ek k,val:=u }
 | none=>es.push { key:=ek k,val:=u,born:=clock }
def clSet {K V:Type} [BEq K] (L:List (K×V)) (k:K) (clock:Nat):Nat:=match midx L k with
 | some _=>clock
 | none=>clock+1
def ixSet {K V:Type} [BEq K] (L:List (K×V)) (k:K):Nat:=match midx L k with
 | some n=>n
 | none=>L.length
theorem lJ {K V:Type} [BEq K] {ek:K→Value} {L:List (K×V)} {k:K} {v:V} {u:Value} {clock:Nat} {es:Array MapEntry} (hs:es.size=L.length):(esSet ek L k u clock es).size=(msetL L k v).length:=by
 unfold esSet
 rw [lf]
 cases midx L k <;> simp [hs]
theorem px {K V:Type} [BEq K] {ek:K→Value} {L:List (K×V)} {k:K} {u:Value} {clock:Nat} {es:Array MapEntry} (h:Born es clock) (_hs:es.size=L.length):Born (esSet ek L k u clock es) (clSet L k clock):=by
 obtain ⟨h1,h2⟩:=h
 unfold esSet clSet
 cases hm:midx L k with
 | some n =>
  refine ⟨by simp [h1],fun i e he=>?_⟩
  simp only [Array.getElem?_modify] at he
  split at he
  ·rename_i hi
   subst hi
   cases hq:es[n]? with
   | none=>rw [hq] at he;cases he
   | some q=>rw [hq] at he;cases he;exact h2 n q hq
  ·exact h2 i e he
 | none =>
  refine ⟨by simp [h1],fun i e he=>?_⟩
  simp only [Array.getElem?_push] at he
  split at he
  ·rename_i hi;cases he;rw [h1,hi]
  ·exact h2 i e he
theorem iM {K V:Type} [BEq K] {ek:K→Value} {L:List (K×V)} {k:K} {v:V} {u:Value} {clock:Nat} {es:Array MapEntry} (hs:es.size=L.length) {i:Nat} {p:K×V} (hp:(msetL L k v)[i]? = some p) :
  (i=ixSet L k∧p=(k,v)∧∃ born,(esSet ek L k u clock es)[i]? = some ⟨ek k,u,born⟩)∨(i≠ixSet L k∧L[i]? = some p∧(esSet ek L k u clock es)[i]? = es[i]?):=by
 unfold esSet ixSet
 rw [lf] at hp
 cases hm:midx L k with
 | some n =>
  rw [hm] at hp
  obtain ⟨q,hq,_⟩:=gQ hm
  have hn:n<L.length:=(List.getElem?_eq_some_iff.1 hq).1
  simp only at hp ⊢
  by_cases e:i=n
  ·subst e
   rw [List.getElem?_set_self hn] at hp
   cases hp
   refine .inl ⟨rfl,rfl,?_⟩
   have:es[i]? = some es[i]:=Array.getElem?_eq_getElem (by omega)
   exact ⟨es[i].born,by rw [Array.getElem?_modify,if_pos rfl,this];rfl⟩
  ·rw [List.getElem?_set_ne (fun h=>e h.symm)] at hp
   refine .inr ⟨e,hp,?_⟩
   rw [Array.getElem?_modify,if_neg (fun h=>e h.symm)]
 | none =>
  rw [hm] at hp
  simp only at hp ⊢
  by_cases e:i=L.length
  ·subst e
   rw [List.getElem?_append_right (Nat.le_refl _)] at hp
   simp at hp
   subst hp
   exact .inl ⟨rfl,rfl,clock,by rw [← hs];simp⟩
  ·have hl:i<L.length:=by
    have:=(List.getElem?_eq_some_iff.1 hp).1
    simp at this;omega
   rw [List.getElem?_append_left hl] at hp
   refine .inr ⟨e,hp,?_⟩
   rw [Array.getElem?_push,if_neg (by omega)]
theorem nN {K V:Type} [BEq K] {t kt et:TypeId} {ek:K→Value} {L:List (K×V)} {es:Array MapEntry} {clock r:Nat} {w:World} {k:K} {u:Value}
  (ht:mapInfo P t=some (kt,et)) (hk:KeyOk P kt ek) (hh:w.heap[r]? = some (.map es clock)) (hs:es.size=L.length) (he:∀ (n:Nat) p,L[n]? = some p→∃ e,es[n]? = some e∧e.key=ek p.1) :
  (Instr.mapUpdate t (.map (some r)) (ek k) u).run P w=.ok () { w with heap:=w.heap.setIfInBounds r (.map (esSet ek L k u clock es) (clSet L k clock)) }:=by
 obtain ⟨d,hu,g1,g2⟩:=hk.d
 unfold Instr.mapUpdate
 rw [ag (i6 ht w)]
 simp only
 have:(getObj r).run P w=.ok (.map es clock) w:=by simp [getObj,Sem.run,hh]
 rw [ag this]
 simp only
 rw [ag (g2 _ _ w),ag (gR hk hs he k w)]
 unfold esSet clSet
 cases hm:midx L k with
 | none =>
  simp only [Option.bind_none]
  exact gE hh
 | some n =>
  obtain ⟨p,hp,hkp⟩:=gQ hm
  obtain ⟨e,h1,h2⟩:=he n p hp
  have hkk:k=p.1:=hk.law _ _ hkp
  simp only [Option.bind_some,h1,Option.map_some,Option.getD_some]
  have hst:(Instr.keyThatStays e.key (ek k)).run P w=.ok (ek k) w:=by
   unfold Instr.keyThatStays
   rw [h2,← hkk,hk.bits k k (by rw [← hkk] at hkp;exact hkp)]
   rfl
  rw [ag hst]
  exact gE hh
theorem hC {K V:Type} [BEq K] {ek:K→Value} {ev:V→List D} {L L':List (K×V)} {agg:Bool} {t kt et:TypeId} {x i y:Operand} {j:Nat} {k:K} {z:V} {v:A1} (hx:opnd F x=some (.s (.c (.own j)))) (hj:F.bl j=some (.mp agg (encM ek ev L))) (hi:rdV F i=some (ek k)) (hy:opnd F y=some (.s v)) (hv:v.norm=rowA agg (ev z)) (ht:mapInfo P t=some (kt,et)) (hk:KeyOk P kt ek) (h1:agg=false→∀ x,(ev x).length=1) (hL:msetL L k z=L') (hs:sideOk F true [x,i,y]) :
  TriL P C ops ⟨none,.mapUpdate t x i y,ty,pos,after,none⟩ ⟨slotsOf [x,i,y],[j],[],[j]⟩ [] [(j,.mp agg (encM ek ev L'))] F:=by
 subst hL
 refine ⟨⟨rfl,rfl⟩,fun F' hS=>?_⟩
 have h2:=aG hS.1
 have hj':F'.bl j=some (.mp agg (encM ek ev L)):=(hS.2 j (by simp)).trans hj
 have hx':=(h2 x (by simp)).trans hx
 have hy':=(h2 y (by simp)).trans hy
 refine kE rfl rfl (fun k hk=>cJ hk) (fun ρ M a w hr=>?_)
 have hR:=aR hr rfl (aC h2 hs)
 have ex:a.eval x=ρ j:=aU hr hx'
 have ei:=a7 hR (x:=i) (by simp) ((ba (h2 i (by simp))).trans hi)
 obtain ⟨r,es,clock,f,e1,q1,q2,q3,q4,q5,q6⟩:=hr.heap.inv j _ hj'
 have hlen:(encM ek ev L).length=L.length:=by simp [encM]
 have hs':es.size=L.length:=q3.trans hlen
 have he:∀ (n:Nat) p,L[n]? = some p→∃ e,es[n]? = some e∧e.key=ek p.1:=fun n p hp=>by
  obtain ⟨born,hb⟩:=q4 n _ _ (dc (a:=p.1) (v:=p.2) hp)
  exact ⟨_,hb,rfl⟩
 have hrl:r<w.heap.size:=(Array.getElem?_eq_some_iff.1 q1).1
 refine ⟨{ w with heap:=w.heap.setIfInBounds r (.map (esSet ek L k (a.eval y) clock es) (clSet L k clock)) },M,?_,Mem.le_refl _,fun ρ' h0=>?_⟩
 ·unfold execOp
  simp only
  rw [ex,e1,ei]
  have:=nN (P:=P) (u:=a.eval y) ht hk q1 hs' he (k:=k)
  show (do Instr.mapUpdate t (.map (some r)) (ek k) (a.eval y);pure Next.skip:Sem Next).run P w=_
  rw [ag this]
  rfl
 ·have ex':a.eval x=ρ' j:=aU h0 hx'
  have hρ:ρ' j=.map (some r):=by rw [← ex',ex,e1]
  obtain ⟨r',es',clock',f',e1',q1',q2',q3',q4',q5',q6'⟩:=h0.heap.inv j _ hj'
  have er:r'=r:=by rw [hρ] at e1';cases e1';rfl
  subst er
  have ee:es'=es∧clock'=clock:=by have:=q1'.symm.trans q1;simpa using this
  obtain ⟨rfl,rfl⟩:=ee
  have ey:v.rep ρ' M (a.eval y):=aU h0 hy'
  obtain ⟨fu,hfu,hfr⟩:=kp (row:=ev z) (agg:=agg) (M:=M) (v:=a.eval y) ⟨ρ',by rw [← hv];exact A1.norm_rep ey⟩ (fun h=>h1 h z)
  refine h0.heap.change j (fun b=>b=r') ?_ ⟨rfl,rfl,rfl,by simp⟩ (fun b _ hb=>?_) (Mem.le_refl _) (fun _ _ _=>⟨fun _=>rfl,rfl⟩) ?_ ?_ (fun b hb=>h0.heap.noJunk hj' (by rw [hb,hρ];rfl))
  ·rintro b rfl _
   exact h0.heap.priv j _ _ hj' (by rw [hρ];rfl)
  ·simp only [Array.getElem?_setIfInBounds]
   rw [if_neg (fun e=>hb e.symm)]
  ·rintro b (rfl | hb)
   ·refine ⟨fun o v' hv'=>?_,fun o ho=>(by rw [q2'] at ho;cases ho)⟩
    have:=h0.heap.mem.cell _ o v' hv'
    simp only [World.cell?,q1'] at this;cases this
   ·have:=h0.heap.mem.none (b:=b) (by simpa using hb)
    exact ⟨fun o v' hv'=>(by rw [this.1 o] at hv';cases hv'),fun o ho=>(by rw [this.2] at ho;cases ho)⟩
  ·intro k' ob hk'
   rw [bP] at hk'
   split at hk'
   ·rename_i e
    subst e
    cases hk'
    refine .inr (.inr ⟨rfl,⟨r',esSet ek L k (a.eval y) clock' es',clSet L k clock',fun i=>if i=ixSet L k then fu else f' i,hρ,by simp [hrl],q2',?_,fun i a0 row hrow=>?_,fun i a0 row jj d hrow hd=>?_,px q6' hs'⟩,fun b hb=>.inl (by rw [hρ] at hb;cases hb;rfl)⟩)
    ·rw [lJ (v:=z) hs'];simp [encM]
    ·obtain ⟨p,hp,rfl,rfl⟩:=j4 hrow
     rcases iM (ek:=ek) (u:=a.eval y) (clock:=clock') hs' hp with ⟨g1,g2,born,g3⟩ | ⟨g1,g2,g3⟩
     ·refine ⟨born,?_⟩
      show _=some (MapEntry.mk _ (mkVal agg _ (if i=ixSet L k then fu else f' i)) _)
      rw [g3,if_pos g1,g2,hfu]
     ·obtain ⟨born,hb⟩:=q4' i _ _ (dc (a:=p.1) (v:=p.2) g2)
      refine ⟨born,?_⟩
      show _=some (MapEntry.mk _ (mkVal agg _ (if i=ixSet L k then fu else f' i)) _)
      rw [g3,if_neg g1];exact hb
    ·obtain ⟨p,hp,rfl,rfl⟩:=j4 hrow
     rcases iM (ek:=ek) (u:=a.eval y) (clock:=clock') hs' hp with ⟨g1,g2,born,g3⟩ | ⟨g1,g2,g3⟩
     ·show Rep M d ((if i=ixSet L k then fu else f' i) jj)
      rw [if_pos g1]
      rw [g2] at hd
      exact hfr jj d hd
     ·show Rep M d ((if i=ixSet L k then fu else f' i) jj)
      rw [if_neg g1]
      exact q5' i _ _ jj d (dc (a:=p.1) (v:=p.2) g2) hd
   ·rename_i e
    refine .inr (.inl ⟨hk',fun b hb hbe=>?_⟩)
    subst hbe
    exact e ((h0.heap.dist k' j _ _ _ hk' hj' hb (by rw [hρ];rfl)).symm)
theorem uy {K V:Type} [BEq K] {ek:K→Value} {ev:V→List D} {L L':List (K×V)} {agg:Bool} {t kt et:TypeId} {x i y:Operand} {j:Nat} {k:K} {z:V} {v:A1} (hx:opnd F x=some (.s (.c (.own j)))) (hj:F.bl j=some (.mp agg (encM ek ev L))) (hi:rdV F i=some (ek k)) (hy:opnd F y=some (.s v)) (hv:v.norm=rowA agg (ev z)) (ht:mapInfo P t=some (kt,et)) (hk:KeyOk P kt ek) (h1:agg=false→∀ x,(ev x).length=1) (hL:msetL L k z=L') (hs:sideOk F true [x,i,y]) :
  TriL P C ops ⟨none,.insert t x i y,ty,pos,after,none⟩ ⟨slotsOf [x,i,y],[j],[],[j]⟩ [] [(j,.mp agg (encM ek ev L'))] F:=by
 subst hL
 refine ⟨⟨rfl,rfl⟩,fun F' hS=>?_⟩
 have h2:=aG hS.1
 have hj':F'.bl j=some (.mp agg (encM ek ev L)):=(hS.2 j (by simp)).trans hj
 have hx':=(h2 x (by simp)).trans hx
 have hy':=(h2 y (by simp)).trans hy
 refine kE rfl rfl (fun k hk=>cJ hk) (fun ρ M a w hr=>?_)
 have hR:=aR hr rfl (aC h2 hs)
 have ex:a.eval x=ρ j:=aU hr hx'
 have ei:=a7 hR (x:=i) (by simp) ((ba (h2 i (by simp))).trans hi)
 obtain ⟨r,es,clock,f,e1,q1,q2,q3,q4,q5,q6⟩:=hr.heap.inv j _ hj'
 have hlen:(encM ek ev L).length=L.length:=by simp [encM]
 have hs':es.size=L.length:=q3.trans hlen
 have he:∀ (n:Nat) p,L[n]? = some p→∃ e,es[n]? = some e∧e.key=ek p.1:=fun n p hp=>by
  obtain ⟨born,hb⟩:=q4 n _ _ (dc (a:=p.1) (v:=p.2) hp)
  exact ⟨_,hb,rfl⟩
 have hrl:r<w.heap.size:=(Array.getElem?_eq_some_iff.1 q1).1
 refine ⟨{ w with heap:=w.heap.setIfInBounds r (.map (esSet ek L k (a.eval y) clock es) (clSet L k clock)) },M,?_,Mem.le_refl _,fun ρ' h0=>?_⟩
 ·unfold execOp
  simp only
  rw [ex,e1,ei]
  have:=nN (P:=P) (u:=a.eval y) ht hk q1 hs' he (k:=k)
  show (do Instr.mapUpdate t (.map (some r)) (ek k) (a.eval y);pure Next.skip:Sem Next).run P w=_
  rw [ag this]
  rfl
 ·have ex':a.eval x=ρ' j:=aU h0 hx'
  have hρ:ρ' j=.map (some r):=by rw [← ex',ex,e1]
  obtain ⟨r',es',clock',f',e1',q1',q2',q3',q4',q5',q6'⟩:=h0.heap.inv j _ hj'
  have er:r'=r:=by rw [hρ] at e1';cases e1';rfl
  subst er
  have ee:es'=es∧clock'=clock:=by have:=q1'.symm.trans q1;simpa using this
  obtain ⟨rfl,rfl⟩:=ee
  have ey:v.rep ρ' M (a.eval y):=aU h0 hy'
  obtain ⟨fu,hfu,hfr⟩:=kp (row:=ev z) (agg:=agg) (M:=M) (v:=a.eval y) ⟨ρ',by rw [← hv];exact A1.norm_rep ey⟩ (fun h=>h1 h z)
  refine h0.heap.change j (fun b=>b=r') ?_ ⟨rfl,rfl,rfl,by simp⟩ (fun b _ hb=>?_) (Mem.le_refl _) (fun _ _ _=>⟨fun _=>rfl,rfl⟩) ?_ ?_ (fun b hb=>h0.heap.noJunk hj' (by rw [hb,hρ];rfl))
  ·rintro b rfl _
   exact h0.heap.priv j _ _ hj' (by rw [hρ];rfl)
  ·simp only [Array.getElem?_setIfInBounds]
   rw [if_neg (fun e=>hb e.symm)]
  ·rintro b (rfl | hb)
   ·refine ⟨fun o v' hv'=>?_,fun o ho=>(by rw [q2'] at ho;cases ho)⟩
    have:=h0.heap.mem.cell _ o v' hv'
    simp only [World.cell?,q1'] at this;cases this
   ·have:=h0.heap.mem.none (b:=b) (by simpa using hb)
    exact ⟨fun o v' hv'=>(by rw [this.1 o] at hv';cases hv'),fun o ho=>(by rw [this.2] at ho;cases ho)⟩
  ·intro k' ob hk'
   rw [bP] at hk'
   split at hk'
   ·rename_i e
    subst e
    cases hk'
    refine .inr (.inr ⟨rfl,⟨r',esSet ek L k (a.eval y) clock' es',clSet L k clock',fun i=>if i=ixSet L k then fu else f' i,hρ,by simp [hrl],q2',?_,fun i a0 row hrow=>?_,fun i a0 row jj d hrow hd=>?_,px q6' hs'⟩,fun b hb=>.inl (by rw [hρ] at hb;cases hb;rfl)⟩)
    ·rw [lJ (v:=z) hs'];simp [encM]
    ·obtain ⟨p,hp,rfl,rfl⟩:=j4 hrow
     rcases iM (ek:=ek) (u:=a.eval y) (clock:=clock') hs' hp with ⟨g1,g2,born,g3⟩ | ⟨g1,g2,g3⟩
     ·refine ⟨born,?_⟩
      show _=some (MapEntry.mk _ (mkVal agg _ (if i=ixSet L k then fu else f' i)) _)
      rw [g3,if_pos g1,g2,hfu]
     ·obtain ⟨born,hb⟩:=q4' i _ _ (dc (a:=p.1) (v:=p.2) g2)
      refine ⟨born,?_⟩
      show _=some (MapEntry.mk _ (mkVal agg _ (if i=ixSet L k then fu else f' i)) _)
      rw [g3,if_neg g1];exact hb
    ·obtain ⟨p,hp,rfl,rfl⟩:=j4 hrow
     rcases iM (ek:=ek) (u:=a.eval y) (clock:=clock') hs' hp with ⟨g1,g2,born,g3⟩ | ⟨g1,g2,g3⟩
     ·show Rep M d ((if i=ixSet L k then fu else f' i) jj)
      rw [if_pos g1]
      rw [g2] at hd
      exact hfr jj d hd
     ·show Rep M d ((if i=ixSet L k then fu else f' i) jj)
      rw [if_neg g1]
      exact q5' i _ _ jj d (dc (a:=p.1) (v:=p.2) g2) hd
   ·rename_i e
    refine .inr (.inl ⟨hk',fun b hb hbe=>?_⟩)
    subst hbe
    exact e ((h0.heap.dist k' j _ _ _ hk' hj' hb (by rw [hρ];rfl)).symm)
def Cell.fz (j:Nat) (d:D):Cell→Cell
 | .own i=>match Nat.beq i j with
  | true=>.d d
  | false=>.own i
 | x=>x
theorem Cell.fz_rep {j:Nat} {d:D} {ρ:Env} {M:Mem} (h:Rep M d (ρ j)) {c:Cell} {v:Value} (hc:c.rep ρ M v):(c.fz j d).rep ρ M v:=by
 cases c with
 | own i =>
  show Cell.rep ρ M (match Nat.beq i j with | true=>.d d | false=>.own i) v
  cases e:Nat.beq i j with
  | true =>
   have:=Nat.eq_of_beq_eq_true e
   subst this
   have hc:v=ρ i:=hc
   subst hc;exact h
  | false=>exact hc
 | _=>exact hc
theorem Reps.fz {j:Nat} {d:D} {ρ:Env} {M:Mem} (h:Rep M d (ρ j)):∀ {cs:List Cell} {vs:List Value},Reps ρ M cs vs→Reps ρ M (cs.map (Cell.fz j d)) vs
 | [],[],_=>trivial
 | _ :: _,_ :: _,hr=>⟨Cell.fz_rep h hr.1,Reps.fz h hr.2⟩
 | [],_ :: _,hr=>hr.elim
 | _ :: _,[],hr=>hr.elim
theorem RelW.review {bl bl':Nat→Option Ob} {ρ:Env} {M:Mem} {w:World} (h:RelW C bl ρ M w)
  (hb:∀ k ob',bl' k=some ob'→bl k=some ob'∨∃ cs cs' ty,bl k=some (.blk cs ty)∧ob'=.blk cs' ty∧∀ vs,Reps ρ M cs vs→Reps ρ M cs' vs):RelW C bl' ρ M w:=by
 have key:∀ k ob',bl' k=some ob'→∃ ob,bl k=some ob∧∀ v,ob.blkOf v=ob'.blkOf v:=by
  intro k ob' hk
  rcases hb k ob' hk with h1 | ⟨cs,cs',ty,h1,rfl,_⟩
  ·exact ⟨ob',h1,fun _=>rfl⟩
  ·exact ⟨_,h1,fun _=>rfl⟩
 refine ⟨fun j ob hj=>?_,fun i j x y b hi hj hx hy=>?_,fun j ob b hj ho=>?_,h.mem,h.base,h.fresh,h.kept,h.names,fun b s hj=>⟨(h.junkP b s hj).1,fun j ob hk ho=>?_⟩⟩
 ·rcases hb j ob hj with h1 | ⟨cs,cs',ty,h1,rfl,h2⟩
  ·exact h.inv j ob h1
  ·obtain ⟨⟨arr,g1,g2⟩,g3⟩:=h.inv j _ h1
   exact ⟨⟨arr,g1,h2 _ g2⟩,g3⟩
 ·obtain ⟨x',h1,h2⟩:=key i x hi
  obtain ⟨y',h3,h4⟩:=key j y hj
  exact h.dist i j x' y' b h1 h3 ((h2 _).trans hx) ((h4 _).trans hy)
 ·obtain ⟨x',h1,h2⟩:=key j ob hj
  exact h.priv j x' b h1 ((h2 _).trans ho)
 ·obtain ⟨x',h1,h2⟩:=key j ob hk
  exact (h.junkP b s hj).2 j x' h1 ((h2 _).trans ho)
def Mem.putO (M:Mem) (r:Nat) (o:Obj):Mem:=⟨M.cell,fun b=>if b=r then some o else M.obj b,M.junk⟩
def allBlk (bl:List (Nat×Ob)) (j:Nat) (d:D):List (Nat×Ob)→Prop
 | []=>True
 | (k,ob) :: r=>(∃ cs ty,look bl k=some (.blk cs ty)∧ob=.blk (cs.map (Cell.fz j d)) ty)∧allBlk bl j d r
theorem nt {bl:List (Nat×Ob)} {j:Nat} {d:D}:∀ {l:List (Nat×Ob)},allBlk bl j d l→∀ k ob,look l k=some ob→∃ cs ty,look bl k=some (.blk cs ty)∧ob=.blk (cs.map (Cell.fz j d)) ty
 | [],_,k,ob,h=>by cases h
 | (i,o) :: r,h,k,ob,hl=>by
  rw [au] at hl
  split at hl
  ·rename_i e;subst e;cases hl;exact h.1
  ·exact nt h.2 k ob hl
def A1.fz (j:Nat) (d:D):A1→A1
 | .c x=>.c (x.fz j d)
 | .agg cs=>.agg (cs.map (Cell.fz j d))
def AV.fz (j:Nat) (d:D):AV→AV
 | .s x=>.s (x.fz j d)
 | .gd g x=>.gd g (x.fz j d)
 | .tup xs=>.tup (xs.map (A1.fz j d))
theorem A1.fz_rep {j:Nat} {d:D} {ρ:Env} {M:Mem} (h:Rep M d (ρ j)) {x:A1} {v:Value} (hx:x.rep ρ M v):(x.fz j d).rep ρ M v:=by
 cases x with
 | c y=>exact Cell.fz_rep h hx
 | agg cs=>obtain ⟨arr,rfl,h2⟩:=hx;exact ⟨arr,rfl,h2.fz h⟩
theorem A1.reps_fz {j:Nat} {d:D} {ρ:Env} {M:Mem} (h:Rep M d (ρ j)):∀ {xs:List A1} {vs:List Value},A1.reps ρ M xs vs→A1.reps ρ M (xs.map (A1.fz j d)) vs
 | [],[],_=>trivial
 | _ :: _,_ :: _,hr=>⟨A1.fz_rep h hr.1,A1.reps_fz h hr.2⟩
 | [],_ :: _,hr=>hr.elim
 | _ :: _,[],hr=>hr.elim
theorem AV.fz_rep {j:Nat} {d:D} {ρ:Env} {M:Mem} (h:Rep M d (ρ j)) {x:AV} {v:Value} (hx:x.rep ρ M v):(x.fz j d).rep ρ M v:=by
 cases x with
 | s y=>exact A1.fz_rep h hx
 | gd g y=>cases g with
  | true=>exact A1.fz_rep (x:=y) h hx
  | false=>exact hx
 | tup xs=>obtain ⟨arr,rfl,h2⟩:=hx;exact ⟨arr,rfl,A1.reps_fz h h2⟩
def allFz (sl:List (Nat×AV)) (j:Nat) (d:D):List (Nat×AV)→Prop
 | []=>True
 | (k,v) :: r=>(∃ u,look sl k=some u∧v=u.fz j d)∧allFz sl j d r
theorem ov {sl:List (Nat×AV)} {j:Nat} {d:D}:∀ {l:List (Nat×AV)},allFz sl j d l→∀ k v,look l k=some v→∃ u,look sl k=some u∧v=u.fz j d
 | [],_,k,v,h=>by cases h
 | (i,o) :: r,h,k,v,hl=>by
  rw [au] at hl
  split at hl
  ·rename_i e;subst e;cases hl;exact h.1
  ·exact ov h.2 k v hl
theorem o8 {α:Type} (a b:List (Nat×α)) (k:Nat):look (a++b) k=match look a k with | some o=>some o | none=>look b k:=by
 induction a with
 | nil=>rfl
 | cons p r ih =>
  obtain ⟨i,o⟩:=p
  rw [List.cons_append,au,au]
  split
  ·rfl
  ·exact ih
theorem Conv.fz {ob:Ob} {d:D} {sl:List (Nat×AV)} {bl:List (Nat×Ob)} {nx:Nat} (so:List (Nat×AV)) (bo:List (Nat×Ob)) (j nx':Nat) (hso:allFz sl j d so) (hj:look bl j=some ob) (hnb:∀ cs ty,ob≠.blk cs ty) (hbo:allBlk bl j d bo)
  (key:∀ ρ M w,RelW C (look bl) ρ M w→∃ M',M.le M'∧Rep M' d (ρ j)∧∀ ρ',ρ' j=ρ j→RelW C (look bl) ρ' M w→RelW C (look ((j,.dead) :: bl)) ρ' M' w) :
  Conv C ⟨sl,bl,nx⟩ ⟨so++sl,bo++((j,.dead) :: bl),nx'⟩:=by
 intro ρ M a w hr
 obtain ⟨M',hle,hrep,hk⟩:=key ρ M w hr.at.heap
 refine ⟨ρ,M',fun ρ' ha=>?_⟩
 have hdom:∀ i,look bl i≠none→look (bo++((j,.dead) :: bl)) i≠none:=fun i hi=>by
  rw [o8]
  cases look bo i with
  | some o=>simp
  | none =>
   simp only
   rw [au];split
   ·simp
   ·exact hi
 have hag:Agree (look bl) ρ ρ':=fun i hi=>ha i (hdom i hi)
 have h0:=hr ρ' hag
 have hρj:ρ' j=ρ j:=hag j (by rw [hj];simp)
 have hrel:=hk ρ' hρj h0.heap
 have hrel2:RelW C (look (bo++((j,.dead) :: bl))) ρ' M' w:=by
  refine hrel.review (fun k ob' hk=>?_)
  rw [o8] at hk
  cases hb:look bo k with
  | none=>rw [hb] at hk;exact .inl hk
  | some o =>
   rw [hb] at hk
   cases hk
   obtain ⟨cs,ty,h1,rfl⟩:=nt hbo k _ hb
   have hne:j≠k:=fun e=>by subst e;rw [hj] at h1;exact hnb _ _ (Option.some.inj h1)
   refine .inr ⟨cs,_,ty,by rw [au,if_neg hne];exact h1,rfl,fun vs hvs=>Reps.fz (by rw [hρj];exact hrep) hvs⟩
 refine ⟨h0.defers.mono hle,h0.size,fun t u hu=>?_,hrel2⟩
 have hu':look (so++sl) t=some u:=hu
 rw [o8] at hu'
 cases hs:look so t with
 | none=>rw [hs] at hu';exact (h0.slots t u hu').mono hle
 | some v =>
  rw [hs] at hu'
  cases hu'
  obtain ⟨u0,h1,rfl⟩:=ov hso t _ hs
  exact AV.fz_rep (by rw [hρj];exact hrep) ((h0.slots t u0 h1).mono hle)
theorem bH {agg:Bool} {l:List (Value×List D)} {sl:List (Nat×AV)} {bl:List (Nat×Ob)} {nx:Nat} (so:List (Nat×AV)) (bo:List (Nat×Ob)) (j nx':Nat) (hj:look bl j=some (.mp agg l)) (hso:allFz sl j (.mp agg l) so) (hbo:allBlk bl j (.mp agg l) bo) :
  Conv C ⟨sl,bl,nx⟩ ⟨so++sl,bo++((j,.dead) :: bl),nx'⟩:=by
 refine Conv.fz so bo j nx' hso hj (fun _ _ e=>by cases e) hbo (fun ρ M w hr=>?_)
 obtain ⟨r,es,clock,f,e1,q1,q2,q3,q4,q5,_⟩:=hr.inv j _ hj
 have hle:M.le (M.putO r (.map es clock)):=⟨fun _ _ _ h=>h,fun b o h=>by
  simp only [Mem.putO]
  by_cases e:b=r
  ·subst e;rw [q2] at h;cases h
  ·rw [if_neg e];exact h,fun _ _ h=>h⟩
 refine ⟨M.putO r (.map es clock),hle,?_,fun ρ' hρ h0=>?_⟩
 ·rw [e1]
  exact .mp (f:=f) (clock:=clock) (by simp [Mem.putO]) q3 q4 (fun i k row jj d h1 h2=>(q5 i k row jj d h1 h2).mono hle)
 ·have hρj:ρ' j=.map (some r):=by rw [hρ,e1]
  refine h0.change j (fun b=>b=r) ?_ ⟨rfl,rfl,rfl,Nat.le_refl _⟩ (fun _ _ _=>rfl) hle (fun b _ hb=>⟨fun _=>rfl,by simp only [Mem.putO];rw [if_neg hb]⟩) ?_ ?_ (fun b hb=>h0.noJunk hj (by rw [hb,hρj];rfl))
  ·rintro b rfl _
   exact h0.priv j _ _ hj (by rw [hρj];rfl)
  ·rintro b hb
   refine ⟨fun o v hv=>h0.mem.cell b o v hv,fun o ho=>?_⟩
   simp only [Mem.putO] at ho
   by_cases e:b=r
   ·rw [if_pos e] at ho;cases ho;subst e;exact ⟨q1,rfl⟩
   ·rw [if_neg e] at ho;exact h0.mem.obj b o ho
  ·intro k ob hk
   rw [au] at hk
   split at hk
   ·cases hk;exact .inl rfl
   ·rename_i e
    refine .inr (.inl ⟨hk,fun b hb hbe=>?_⟩)
    subst hbe
    exact e ((h0.dist k j _ _ _ hk hj hb (by rw [hρj];rfl)).symm)
theorem qN {α:Type} {enc:α→List D} {L:List α} {sz:Nat} {sl:List (Nat×AV)} {bl:List (Nat×Ob)} {nx:Nat} (so:List (Nat×AV)) (bo:List (Nat×Ob)) (j nx':Nat) (hj:look bl j=some (.vec sz (L.map enc))) (hsz:allR sz enc) (hso:allFz sl j (.sl (L.map enc)) so) (hbo:allBlk bl j (.sl (L.map enc)) bo) :
  Conv C ⟨sl,bl,nx⟩ ⟨so++sl,bo++((j,.dead) :: bl),nx'⟩:=by
 refine Conv.fz so bo j nx' hso hj (fun _ _ e=>by cases e) hbo (fun ρ M w hr=>?_)
 obtain ⟨ad,cap,e1,hc,hx⟩:=dF (hr.inv j _ hj)
 by_cases hcap:0<cap
 ·obtain ⟨b,off,arr,ty',vs,rfl,g1,g2,g3,g4,g5⟩:=hx hcap
  have hle:M.le (M.put b off vs):=dP (fun o _=>g3 o)
  refine ⟨M.put b off vs,hle,?_,fun ρ' hρ h0=>?_⟩
  ·rw [e1]
   have:=dO (M:=M.put b off vs) (l:=L.map enc) (b:=b) (off:=off) (cap:=cap) (sz:=sz) (vs:=vs) (by rw [List.length_map];exact hc) (aO hsz L) (g4.mono hle) (fun k u hk=>fv hk)
   rwa [List.length_map] at this
  ·have hρj:ρ' j=.slice (some ⟨b,off,none⟩) L.length cap:=by rw [hρ,e1]
   have hown:(Ob.vec sz (L.map enc)).blkOf (ρ' j)=some b:=by rw [hρj];simp [Ob.blkOf,hcap]
   refine h0.change j (fun x=>x=b) ?_ ⟨rfl,rfl,rfl,Nat.le_refl _⟩ (fun _ _ _=>rfl) hle (fun x _ hx=>⟨fun o=>cP hx,rfl⟩) ?_ ?_ (fun x hx=>by rw [hx];exact h0.noJunk hj hown)
   ·rintro x rfl _
    exact h0.priv j _ _ hj hown
   ·rintro x hx
    refine ⟨fun o v hv=>?_,fun o ho=>h0.mem.obj x o ho⟩
    by_cases hxb:x=b
    ·subst hxb
     rcases gT hv with ⟨h2,h3⟩ | h3
     ·have:=g5 _ _ h3
      simp only [World.cell?,g1]
      rw [show off+(o - off)=o by omega] at this
      simpa using this
     ·rw [g3 o] at h3;cases h3
    ·rw [cP hxb] at hv;exact h0.mem.cell x o v hv
   ·intro k ob hk
    rw [au] at hk
    split at hk
    ·cases hk;exact .inl rfl
    ·rename_i e2
     refine .inr (.inl ⟨hk,fun x hxb hS'=>?_⟩)
     subst hS'
     exact e2 ((h0.dist k j _ _ _ hk hj hxb hown).symm)
 ·have hL:L=[]:=List.eq_nil_of_length_eq_zero (by omega)
  subst hL
  have hcap0:cap=0:=by omega
  subst hcap0
  refine ⟨M,Mem.le_refl _,by rw [e1];exact Rep.nil,fun ρ' hρ h0=>?_⟩
  have hρj:ρ' j=.slice ad ([]:List α).length 0:=by rw [hρ,e1]
  refine h0.change j (fun _=>False) (fun _ h=>h.elim) ⟨rfl,rfl,rfl,Nat.le_refl _⟩ (fun _ _ _=>rfl) (Mem.le_refl _) (fun _ _ _=>⟨fun _=>rfl,rfl⟩) (fun b _=>⟨fun o v hv=>h0.mem.cell b o v hv,fun o ho=>h0.mem.obj b o ho⟩) (fun k ob hk=>?_)
  rw [au] at hk
  split at hk
  ·cases hk;exact .inl rfl
  ·exact .inr (.inl ⟨hk,fun _ _ h=>h⟩)
theorem iP {sl:List (Nat×AV)} {bl:List (Nat×Ob)} {nx:Nat} (s:Nat) (agg:Bool) (hv:look sl s=some (.s (.c (.d (.v (.map none)))))):Conv C ⟨sl,bl,nx⟩ ⟨(s,.s (.c (.d (.mp agg [])))) :: sl,bl,nx⟩:=by
 intro ρ M a w hr
 refine ⟨ρ,M,fun ρ' ha=>?_⟩
 have h0:=hr ρ' ha
 refine ⟨h0.defers,h0.size,fun t u hu=>?_,h0.heap⟩
 have hu':look ((s,AV.s (.c (.d (.mp agg [])))) :: sl) t=some u:=hu
 rw [au] at hu'
 split at hu'
 ·rename_i e;subst e;cases hu'
  have:=bz (h0.slots s _ hv)
  show Rep _ _ _
  rw [this];exact Rep.mp0
 ·exact h0.slots t u hu'
end Go.E2
end
section
namespace Go.E2
variable {P:Program} {C:Ctx} {F:FS} {ops:Array Oper} {dst:Nat} {op:Op} {ty:TypeId} {pos:String} {after:Array Edge}
def capA (caps:List (Nat×Nat)):List A1:=caps.map fun p=>.c (.loc p.1 p.2)
theorem qI {ρ:Env} {M:Mem}:∀ {caps:List (Nat×Nat)} {vs:List Value},A1.reps ρ M (capA caps) vs→vs=caps.map fun p=>ptr ρ p.1 p.2
 | [],[],_=>rfl
 | [],_ :: _,h=>h.elim
 | _ :: _,[],h=>h.elim
 | p :: r,v :: vs,h=>by
  have h1:v=ptr ρ p.1 p.2:=h.1
  rw [h1,qI (caps:=r) h.2];rfl
theorem tH {ρ:Env} {M:Mem}:∀ (caps:List (Nat×Nat)),A1.reps ρ M (capA caps) (caps.map fun p=>ptr ρ p.1 p.2)
 | []=>trivial
 | _ :: r=>⟨rfl,tH r⟩
theorem A1.reps_app {ρ:Env} {M:Mem}:∀ {xs ys:List A1} {vs us:List Value},A1.reps ρ M xs vs→A1.reps ρ M ys us→A1.reps ρ M (xs++ys) (vs++us)
 | [],_,[],_,_,h=>h
 | [],_,_ :: _,_,h,_=>h.elim
 | _ :: _,_,[],_,h,_=>h.elim
 | _ :: _,_,_ :: _,_,h,h'=>⟨h.1,A1.reps_app h.2 h'⟩
theorem mI {f:FuncId} (caps:List (Nat×Nat)) {args:Array Operand} (hx:rds F args.toList=some (capA caps)) (hs:sideOk F true args.toList) (hd:Nat.blt dst C.n=true) :
  TriL P C ops ⟨some dst,.makeFunc (.func f) #[] args,ty,pos,after,none⟩ ⟨slotsOf args.toList,[],[dst],[]⟩ [(dst,.s (.c (.fn f caps)))] [] F:=by
 refine ⟨⟨rfl,rfl⟩,fun F' hS=>?_⟩
 have h1:=aG hS.1
 refine bC (x:=.c (.fn f caps)) rfl rfl hd (fun ρ M a w hr=>?_)
 have hR:=aR hr rfl (aC h1 hs)
 have h2:=qI (iw hR ((fy h1).trans hx))
 refine ⟨.func (.func f) #[] (caps.map fun (p:Nat×Nat)=>ptr ρ p.1 p.2).toArray,?_,(rfl:_=_)⟩
 have e:args.map a.eval=(caps.map fun p=>ptr ρ p.1 p.2).toArray:=by
  apply Array.ext';simpa using h2
 unfold execOp
 simp only [e,Instr.makeFunc,List.map_toArray,List.map_nil]
 exact aA rfl
theorem wx {a : Act} {w : World} {f : FuncId} {t : Nat} {args : Array Operand} {argTypes : Array TypeId} {cvs vs : List Value} {fn : Func} {dst : Option Tmp} {ty : TypeId} {pos : String} {after : Array Edge} {gu : Option (Nat × Bool)}
  (et : a.eval (.tmp t) = .func (.func f) #[] cvs.toArray) (e0 : args.toList.map a.eval ++ cvs = vs) (hf : P.funcs[f]? = some fn) (hn : (fn.name == "runtime.NumGoroutine") = false) (hb : fn.body.isNone = false) :
  (execOp a.eval ⟨dst,.call ⟨.value (.tmp t),args,argTypes⟩,ty,pos,after,gu⟩).run P w = .ok (.enter f vs.toArray) w:=by
 unfold execOp
 have e1 : args.map a.eval ++ cvs.toArray = vs.toArray:=by
  rw [← e0];apply Array.ext';simp
 simp only [resolve,et,Deferred.ofValue,pure_bind,invoke,callFunc,Array.empty_append,e1]
 show (Sem.program _).run P w = _
 simp only [Sem.run,Sem.bind,hf]
 rw [if_neg (by rw [hn];simp),if_neg (by rw [hb];simp)]
 rfl
theorem dg [HasTab P C] {f:FuncId} {t:Nat} {args:Array Operand} {argTypes:Array TypeId} {ys as0:List A1} {bl bl':List (Nat×Ob)} {res:AV} {caps:List (Nat×Nat)} (σ:Nat→Nat) (res':AV) (Wb:List (Nat×Ob)) (hft:rd F (.tmp t)=some (.c (.fn f caps))) (hc:Con P f as0 bl res bl') (hy:rds F args.toList=some ys) (hfit:Fits (ys++capA caps) (as0.map (A1.ren σ))) (hs:sideOk F true (.tmp t :: args.toList)) (hf:Entry P f)
  (hl:lentOk F σ bl) (hdom:domB bl' bl=true) (hap:apart σ bl'=true) (hsc:blIn bl bl=true) (hsa:mo bl as0=true) (hnew:allNone F (newNames σ bl bl')) (hn:Nat.blt dst C.n=true) (hres:res.ren σ=res') (hWb:renBl σ bl'=Wb) :
  TriL P C ops ⟨some dst,.call ⟨.value (.tmp t),args,argTypes⟩,ty,pos,after,none⟩ ⟨slotsOf (.tmp t :: args.toList),Wb.map (·.1),[dst],Wb.map (·.1)⟩ [(dst,res')] Wb F:=by
 subst hres hWb
 refine ⟨⟨rfl,rfl⟩,fun F' hS=>?_⟩
 have h1:=aG hS.1
 obtain ⟨fn,hf1,hf2,hf3⟩:=hf
 have hb':∀ i,look bl' i≠none→F'.bl (σ i)=F.bl (σ i):=fun i hi=>by
  obtain ⟨o2,ho2⟩:=Option.ne_none_iff_exists'.1 hi
  have:=iG hap i o2 ho2
  exact hS.2 _ (kq (by rw [this];simp))
 have hl':lentOk F' σ bl:=by
  have:∀ (l:List (Nat×Ob)),(∀ p∈l,look bl' p.1≠none)→lentOk F σ l→lentOk F' σ l:=by
   intro l
   induction l with
   | nil=>intro _ _;trivial
   | cons p r ih =>
    obtain ⟨i,o⟩:=p
    intro hm h
    exact ⟨(hb' i (hm (i,o) (by simp))).trans h.1,ih (fun q hq=>hm q (by simp [hq])) h.2⟩
  exact this bl (fun p hp=>fQ hdom p.1 (ku (List.mem_map_of_mem hp))) hl
 have hnew':allNone F' (newNames σ bl bl'):=by
  have:∀ (l:List Nat),(∀ k∈l,F'.bl k=none)→allNone F' l:=by
   intro l
   induction l with
   | nil=>intro _;trivial
   | cons k r ih=>intro h;exact ⟨h k (by simp),ih (fun j hj=>h j (by simp [hj]))⟩
  refine this _ (fun k hk=>?_)
  obtain ⟨i,h2,h3,rfl⟩:=ic.1 hk
  rw [hb' i h2];exact ip hnew _ hk
 have hft':rd F' (.tmp t)=some (.c (.fn f caps)):=(dm (h1 (.tmp t) (by simp))).trans hft
 refine Tri.call rfl rfl hn hc hl' hdom hap hsc hnew' hsa (fun ρ M a w hr=>?_)
 have hR:=aR hr rfl (aC h1 hs)
 have et:a.eval (.tmp t)=.func (.func f) #[] (caps.map fun p=>ptr ρ p.1 p.2).toArray:=hR (.tmp t) (by simp) _ hft'
 have hR':Reads F' a ρ M args.toList:=fun x hx y hy=>hR x (by simp [hx]) y hy
 refine ⟨args.toList.map a.eval++caps.map fun p=>ptr ρ p.1 p.2,wx et rfl hf1 hf2 hf3,?_⟩
 refine Fits.reps hfit (A1.reps_app (iw hR' ((fy (fun x hx=>h1 x (by simp [hx]))).trans hy)) (tH caps))
theorem ut {sl:List (Nat×AV)} {bl:List (Nat×Ob)} {nx:Nat} (s i j:Nat) (ob:Ob) (c:Cell) (cs cs':List Cell) (nx':Nat) (hv:look sl s=some (.s (.agg cs))) (hi:cs[i]? = some (.d (.v (.slice none 0 0)))) (hcs:cs.set i c=cs') (hj:look bl j=none)
  (hob:∀ ρ M w,ρ j=.slice none 0 0→Inv1 ρ M w ob (ρ j)∧∀ b,ob.blkOf (ρ j)≠some b) (hc:∀ ρ M,ρ j=.slice none 0 0→c.rep ρ M (.slice none 0 0)):Conv C ⟨sl,bl,nx⟩ ⟨(s,.s (.agg cs')) :: sl,(j,ob) :: bl,nx'⟩:=by
 subst hcs
 intro ρ M a w hr
 refine ⟨fun i=>if i=j then .slice none 0 0 else ρ i,M,fun ρ' ha=>?_⟩
 have hag:Agree (look bl) ρ ρ':=fun i hi=>by
  have hne:i≠j:=fun e=>hi (e ▸ hj)
  have:=ha i (by show look ((j,ob) :: bl) i≠none;rw [au,if_neg (Ne.symm hne)];exact hi)
  rw [this];exact if_neg hne
 have hnj:ρ' j=.slice none 0 0:=by
  have:=ha j (by show look ((j,ob) :: bl) j≠none;rw [au,if_pos rfl];simp)
  rw [this];exact if_pos rfl
 have h0:=hr ρ' hag
 refine ⟨h0.defers,h0.size,fun t u hu=>?_,?_⟩
 ·have hu':look ((s,AV.s (.agg (cs.set i c))) :: sl) t=some u:=hu
  rw [au] at hu'
  split at hu'
  ·rename_i e
   subst e
   cases hu'
   obtain ⟨arr,e1,h2⟩:=h0.slots s _ hv
   obtain ⟨v,hv1,hv2⟩:=h2.get i _ hi
   have:=bz hv2
   subst this
   refine ⟨arr,e1,?_⟩
   have h3:=h2.set (hc ρ' M hnj) i
   have e3:arr.toList.set i (.slice none 0 0)=arr.toList:=by
    apply List.ext_getElem?
    intro k
    by_cases hk:i=k
    ·subst hk;rw [List.getElem?_set_self (List.getElem?_eq_some_iff.1 hv1).1,hv1]
    ·rw [List.getElem?_set_ne hk]
   rwa [e3] at h3
  ·exact h0.slots t u hu'
 ·refine h0.heap.change j (fun _=>False) (fun _ h=>h.elim) ⟨rfl,rfl,rfl,Nat.le_refl _⟩ (fun _ _ _=>rfl) (Mem.le_refl _) (fun _ _ _=>⟨fun _=>rfl,rfl⟩) (fun b _=>⟨fun o v hv=>h0.heap.mem.cell b o v hv,fun o ho=>h0.heap.mem.obj b o ho⟩) (fun k ob' hk=>?_)
  have hk':look ((j,ob) :: bl) k=some ob':=hk
  rw [au] at hk'
  split at hk'
  ·rename_i e
   subst e
   cases hk'
   obtain ⟨q1,q2⟩:=hob ρ' M w hnj
   exact .inr (.inr ⟨rfl,q1,fun b hb=>absurd hb (q2 b)⟩)
  ·exact .inr (.inl ⟨hk',fun _ _ h=>h⟩)
theorem mv (sz j:Nat):∀ (ρ:Env) (M:Mem) (w:World),ρ j=.slice none 0 0→Inv1 ρ M w (.tail sz) (ρ j)∧∀ b,(Ob.tail sz).blkOf (ρ j)≠some b:=fun ρ M w h=>by
 rw [h];exact ⟨⟨none,0,0,rfl,Nat.le_refl _,fun h=>absurd h (Nat.lt_irrefl _)⟩,fun b hb=>by cases hb⟩
theorem yC {α:Type} (enc:α→List D) (sz j:Nat):∀ (ρ:Env) (M:Mem) (w:World),ρ j=.slice none 0 0→Inv1 ρ M w (.vec sz (([]:List α).map enc)) (ρ j)∧∀ b,(Ob.vec sz (([]:List α).map enc)).blkOf (ρ j)≠some b:=fun ρ M w h=>by
 rw [h];exact ⟨⟨none,0,rfl,Nat.le_refl _,fun i row h=>by simp at h,fun h=>absurd h (Nat.lt_irrefl _)⟩,fun b hb=>by cases hb⟩
theorem wB {sl:List (Nat×AV)} {bl:List (Nat×Ob)} {nx:Nat} (k i j:Nat) (ob:Ob) (c:Cell) (cs cs':List Cell) (u:TypeId) (nx':Nat) (hv:look bl k=some (.blk cs u)) (hi:cs[i]? = some (.d (.v (.slice none 0 0)))) (hcs:cs.set i c=cs') (hj:look bl j=none)
  (hob:∀ ρ M w,ρ j=.slice none 0 0→Inv1 ρ M w ob (ρ j)∧∀ b,ob.blkOf (ρ j)≠some b) (hc:∀ ρ M,ρ j=.slice none 0 0→c.rep ρ M (.slice none 0 0)):Conv C ⟨sl,bl,nx⟩ ⟨sl,(k,.blk cs' u) :: (j,ob) :: bl,nx'⟩:=by
 subst hcs
 intro ρ M a w hr
 have hkj:k≠j:=fun e=>by subst e;rw [hj] at hv;cases hv
 refine ⟨fun i=>if i=j then .slice none 0 0 else ρ i,M,fun ρ' ha=>?_⟩
 have hag:Agree (look bl) ρ ρ':=fun i hi=>by
  have hne:i≠j:=fun e=>hi (e ▸ hj)
  have:=ha i (by
   show look ((k,_) :: (j,ob) :: bl) i≠none
   rw [au];split
   ·simp
   ·rw [au,if_neg (Ne.symm hne)];exact hi)
  rw [this];exact if_neg hne
 have hnj:ρ' j=.slice none 0 0:=by
  have:=ha j (by
   show look ((k,_) :: (j,ob) :: bl) j≠none
   rw [au,if_neg hkj,au,if_pos rfl];simp)
  rw [this];exact if_pos rfl
 have h0:=hr ρ' hag
 have h1:RelW C (look ((j,ob) :: bl)) ρ' M w:=by
  refine h0.heap.change j (fun _=>False) (fun _ h=>h.elim) ⟨rfl,rfl,rfl,Nat.le_refl _⟩ (fun _ _ _=>rfl) (Mem.le_refl _) (fun _ _ _=>⟨fun _=>rfl,rfl⟩) (fun b _=>⟨fun o v hv=>h0.heap.mem.cell b o v hv,fun o ho=>h0.heap.mem.obj b o ho⟩) (fun q ob' hk=>?_)
  rw [au] at hk
  split at hk
  ·rename_i e
   subst e
   cases hk
   obtain ⟨q1,q2⟩:=hob ρ' M w hnj
   exact .inr (.inr ⟨rfl,q1,fun b hb=>absurd hb (q2 b)⟩)
  ·exact .inr (.inl ⟨hk,fun _ _ h=>h⟩)
 refine ⟨h0.defers,h0.size,fun t u hu=>h0.slots t u hu,h1.review (fun q ob' hq=>?_)⟩
 have hq':look ((k,Ob.blk (cs.set i c) u) :: (j,ob) :: bl) q=some ob':=hq
 rw [au] at hq'
 split at hq'
 ·rename_i e
  subst e
  cases hq'
  refine .inr ⟨cs,_,u,by rw [au,if_neg (Ne.symm hkj)];exact hv,rfl,fun vs hvs=>?_⟩
  obtain ⟨v,hv1,hv2⟩:=hvs.get i _ hi
  have:=bz hv2
  subst this
  have h3:=hvs.set (hc ρ' M hnj) i
  have e3:vs.set i (.slice none 0 0)=vs:=by
   apply List.ext_getElem?
   intro q
   by_cases hk:i=q
   ·subst hk;rw [List.getElem?_set_self (List.getElem?_eq_some_iff.1 hv1).1,hv1]
   ·rw [List.getElem?_set_ne hk]
  rwa [e3] at h3
 ·exact .inl hq'
theorem OkOps.wq {o:Oper} {rest:List Oper} {Q:AState→Prop} {sl:List (Nat×AV)} {bl:List (Nat×Ob)} {nx d:Nat} {a:AV} {s:Sum} (Wb:List (Nat×Ob)) (ht:TriL P C ops o s [(d,a)] Wb ⟨look sl,look bl⟩) (h:OkOps P C ops rest Q ⟨(d,a) :: sl,Wb++bl,nx⟩):OkOps P C ops (o :: rest) Q ⟨sl,bl,nx⟩:=OkOps.step (st:=⟨sl,bl,nx⟩) (nx':=nx) ht.tri h
theorem OkD.wq {o:Oper} {rest:List Oper} {ss0:List Sum} {Q:AState→Prop} {sl:List (Nat×AV)} {bl:List (Nat×Ob)} {nx d:Nat} {a:AV} {s:Sum} (Wb:List (Nat×Ob)) (ht:TriL P C ops o s [(d,a)] Wb ⟨look sl,look bl⟩) (h:OkD P C ops rest (s :: ss0) Q ⟨(d,a) :: sl,Wb++bl,nx⟩):OkD P C ops (o :: rest) ss0 Q ⟨sl,bl,nx⟩:=OkD.step (st:=⟨sl,bl,nx⟩) (nx':=nx) ht h
def encAcc (x:Int×Int):List D:=[.v (.int .u8 x.1),.v (.int .u8 x.2)]
theorem sM {α:Type} {enc:α→List D} {L:List α} {M:Mem} {w:World} {g t n sz:Nat} {k:IntKind} {i:Int} {x:α} (hi:idxO L i=some x) (hL:L.length=n) (ht:arrInfo P t=some (n,sz)) (hM:∀ (k:Nat) x,L[k]? = some x→∀ (j:Nat) d,(enc x)[j]? = some d→∃ u,M.cell g (k*sz+j)=some u∧Rep M d u) :
  ∃ u,(Instr.indexAt t (.pointer (some ⟨g,0,none⟩)) (.int k i)).run P w=.ok u w∧PtRep M (enc x) u:=by
 obtain ⟨h0,h1,h2⟩:=qw hi
 have:=kD (b:=g) (off:=0) (k:=k) ht h0 (by omega) w
 refine ⟨_,this,⟨g,0+i.toNat*sz,rfl,fun j d hd=>?_⟩⟩
 obtain ⟨u,q1,q2⟩:=hM _ _ h2 j d hd
 exact ⟨u,by rw [Nat.zero_add];exact q1,q2⟩
theorem xZ {α:Type} {enc:α→List D} {L:List α} {t n sz g:Nat} {i:Operand} {k:IntKind} {z:Int} {y:α} {row:List D} (hi:idxO L z=some y) (hL:L.length=n) (hrow:enc y=row) (ht:arrInfo P t=some (n,sz)) (hM:∀ M,C.M0.le M→∀ (k:Nat) x,L[k]? = some x→∀ (j:Nat) d,(enc x)[j]? = some d→∃ u,M.cell g (k*sz+j)=some u∧Rep M d u) (hz:rdV F i=some (.int k z)) (hs:sideOk F true [i]) (hd:Nat.blt dst C.n=true) :
  TriL P C ops ⟨some dst,.indexAddr t (.global g) i,ty,pos,after,none⟩ ⟨slotsOf [i],[],[dst],[]⟩ [(dst,.s (.c (.pt row)))] [] F:=by
 subst hrow
 refine ⟨⟨rfl,rfl⟩,fun F' hS=>?_⟩
 have h1:=aG hS.1
 refine bC (x:=.c (.pt (enc y))) rfl rfl hd (fun ρ M a w hr=>?_)
 have hR:=aR hr rfl (aC h1 hs)
 obtain ⟨u,g1,g2⟩:=sM (P:=P) (w:=w) (k:=k) hi hL ht (hM M hr.heap.base)
 refine ⟨u,?_,g2⟩
 unfold execOp
 simp only
 rw [a7 hR (by simp) ((ba (h1 i (by simp))).trans hz)]
 exact aA g1
theorem wL [hT : HasTab P C] {t g : Nat} {i : Operand} {k : IntKind} {z y : Int} (hi : idxO utf8First z = some y) (hg : P.globalNamed "unicode/utf8.first" = some g) (ht : arrInfo P t = some (256, 1)) (hz : rdV F i = some (.int k z)) (hs : sideOk F true [i]) (hd : Nat.blt dst C.n = true) :
  TriL P C ops ⟨some dst,.indexAddr t (.global g) i,ty,pos,after,none⟩ ⟨slotsOf [i],[],[dst],[]⟩ [(dst,.s (.c (.pt [.v (.int .u8 y)])))] [] F :=
 xZ (enc:=eInt .u8) (L:=utf8First) hi (by decide +kernel) rfl ht (fun M hle k x hx j d hd=>by
  cases j with
  | zero =>
   have:=hle.cell _ _ _ (hT.tab.1 g hg k x hx)
   simp [eInt] at hd;subst hd
   exact ⟨_,by rw [Nat.mul_one,Nat.add_zero];exact this,Rep.v _⟩
  | succ j=>simp [eInt] at hd) hz hs hd
theorem uA [hT : HasTab P C] {t g : Nat} {i : Operand} {k : IntKind} {z : Int} {y : Int × Int} (hi : idxO utf8Accept z = some y) (hg : P.globalNamed "unicode/utf8.acceptRanges" = some g) (ht : arrInfo P t = some (16, 2)) (hz : rdV F i = some (.int k z)) (hs : sideOk F true [i]) (hd : Nat.blt dst C.n = true) :
  TriL P C ops ⟨some dst,.indexAddr t (.global g) i,ty,pos,after,none⟩ ⟨slotsOf [i],[],[dst],[]⟩ [(dst,.s (.c (.pt [.v (.int .u8 y.1),.v (.int .u8 y.2)])))] [] F :=
 xZ (enc:=encAcc) (L:=utf8Accept) hi (by decide) rfl ht (fun M hle k x hx j d hd=>by
  have:=hT.tab.2.1 g hg k x hx
  match j with
  | 0=>simp [encAcc] at hd;subst hd;exact ⟨_,hle.cell _ _ _ this.1,Rep.v _⟩
  | 1=>simp [encAcc] at hd;subst hd;exact ⟨_,hle.cell _ _ _ this.2,Rep.v _⟩
  | j + 2=>simp [encAcc] at hd) hz hs hd
def encSty (x:Bool×Int×Int×Int):List D:=[.v (.bool x.1),.v (.int .i64 x.2.1),.v (.int .i64 x.2.2.1),.v (.int .i64 x.2.2.2)]
theorem uE [hT : HasTab P C] {g : Nat} (hg : P.globalNamed "widgetry/style.properties" = some g) : ∀ M, C.M0.le M → ∀ (k : Nat) x, styProps[k]? = some x → ∀ (j : Nat) d, (encSty x)[j]? = some d → ∃ u, M.cell g (k * 4 + j) = some u ∧ Rep M d u := fun M hle k x hx j d hd => by
 have:=hT.tab.2.2 g hg k x hx
 match j with
 | 0=>simp [encSty] at hd;subst hd;exact ⟨_,hle.cell _ _ _ this.1,Rep.v _⟩
 | 1=>simp [encSty] at hd;subst hd;exact ⟨_,hle.cell _ _ _ this.2.1,Rep.v _⟩
 | 2=>simp [encSty] at hd;subst hd;exact ⟨_,hle.cell _ _ _ this.2.2.1,Rep.v _⟩
 | 3=>simp [encSty] at hd;subst hd;exact ⟨_,hle.cell _ _ _ this.2.2.2,Rep.v _⟩
 | j + 4=>simp [encSty] at hd
theorem uw [hT : HasTab P C] {t g : Nat} {i : Operand} {k : IntKind} {z : Int} {y : Bool × Int × Int × Int} {gk : Nat} {want gd : Bool} (hi : gd = true → idxO styProps z = some y) (hg : P.globalNamed "widgetry/style.properties" = some g) (hb : guardB F ops gk want = some gd) (ht : arrInfo P t = some (22, 4)) (hz : rdV F i = some (.int k z)) (hs : sideOk F gd [i]) (hd : Nat.blt dst C.n = true) :
  TriL P C ops ⟨some dst,.indexAddr t (.global g) i,ty,pos,after,some (gk,want)⟩ ⟨gSlot ops gk ++ slotsOf [i],[],[dst],[]⟩ [(dst,.gd gd (.c (.pt [.v (.bool y.1),.v (.int .i64 y.2.1),.v (.int .i64 y.2.2.1),.v (.int .i64 y.2.2.2)])))] [] F:=by
 refine ⟨⟨rfl,rfl⟩,fun F' hS=>?_⟩
 have h2:=aG (F:=F) (F':=F') (xs:=[i]) (fun t ht=>hS.1 t (by simp [ht]))
 refine cX rfl ((bS (fun t ht=>hS.1 t (by simp [ht]))).trans hb) rfl hd (fun hgt ρ M a w hr=>?_)
 have hR:=aR hr hgt (aC h2 hs)
 obtain ⟨u,g1,g2⟩:=sM (P:=P) (w:=w) (k:=k) (enc:=encSty) (hi hgt) (by decide) ht (uE hg M hr.heap.base)
 refine ⟨u,?_,g2⟩
 unfold execOp
 simp only
 rw [a7 hR (by simp) ((ba (h2 i (by simp))).trans hz)]
 exact aA g1
def nilFit (j:Nat):List A1→List A1→Prop
 | [],[]=>True
 | y :: ys,x :: xs=>(y=x∨(y=.c (.d (.v (.slice none 0 0)))∧(x=.c (.tl j [])∨x=.c (.own j))))∧nilFit j ys xs
 | _,_=>False
theorem m4 {j:Nat} {ρ:Env} {M:Mem} (hρ:ρ j=.slice none 0 0):∀ {ys xs:List A1} {vs:List Value},nilFit j ys xs→A1.reps ρ M ys vs→A1.reps ρ M xs vs
 | [],[],_,_,h=>h
 | [],_ :: _,_,h,_=>h.elim
 | _ :: _,[],_,h,_=>h.elim
 | y :: ys,x :: xs,[],_,h=>h.elim
 | y :: ys,x :: xs,v :: vs,hf,h=>by
  refine ⟨?_,m4 hρ hf.2 h.2⟩
  rcases hf.1 with rfl | ⟨rfl,rfl | rfl⟩
  ·exact h.1
  ·have:=bz (show Rep M _ v from h.1)
   exact ⟨by rw [this,hρ],by rw [this];exact Rep.nil⟩
  ·have:=bz (show Rep M _ v from h.1)
   show v=ρ j
   rw [this,hρ]
def eraseO (j:Nat):List (Nat×Ob)→List (Nat×Ob)
 | []=>[]
 | (i,o) :: r=>if Nat.beq i j then eraseO j r else (i,o) :: eraseO j r
theorem cf {j:Nat}:∀ {l:List (Nat×Ob)} {k:Nat},look (eraseO j l) k=if k=j then none else look l k
 | [],k=>by simp [eraseO,look]
 | (i,o) :: r,k=>by
  unfold eraseO
  cases h:Nat.beq i j with
  | true =>
   have:=Nat.eq_of_beq_eq_true h
   subst this
   simp only [if_true]
   rw [cf,au]
   by_cases e:k=i
   ·simp [e]
   ·simp [e,show ¬ i=k from fun e'=>e e'.symm]
  | false =>
   simp only [Bool.false_eq_true,if_false]
   rw [au,au,cf]
   by_cases e:i=k
   ·subst e
    have:i≠j:=fun e'=>by subst e';simp at h
    simp [this]
   ·simp [e]
theorem lO {f:FuncId} {args args':List A1} {bl bl2 bl' bl2':List (Nat×Ob)} {res:AV} {ob:Ob} (j:Nat) (h:Con P f args bl res bl') (hfit:nilFit j args' args) (hj:look bl j=some ob) (hob:∀ ρ M w,ρ j=.slice none 0 0→Inv1 ρ M w ob (ρ j)∧∀ b,ob.blkOf (ρ j)≠some b)
  (h2:eraseO j bl=bl2) (h2':eraseO j bl'=bl2') (hs0:blIn bl2 bl2=true) (hsa:mo bl2 args'=true) (hs:blIn bl2' bl2'=true) (hsr:res.inB bl2'=true) (hdom:domB bl2' bl2=true):Con P f args' bl2 res bl2':=by
 subst h2 h2'
 intro ρ M w g vs hT hrel
 have hag0:∀ ρ',Agree (look bl) (fun i=>if i=j then .slice none 0 0 else ρ i) ρ'→Agree (look (eraseO j bl)) ρ ρ'∧ρ' j=.slice none 0 0:=by
  intro ρ' ha
  refine ⟨fun i hi=>?_,?_⟩
  ·rw [cf] at hi
   by_cases e:i=j
   ·rw [if_pos e] at hi;exact absurd rfl hi
   ·rw [if_neg e] at hi
    have:=ha i hi
    rw [this];exact if_neg e
  ·have:=ha j (by rw [hj];simp)
   rw [this];exact if_pos rfl
 refine (h (fun i=>if i=j then .slice none 0 0 else ρ i) M w g vs hT (fun ρ' ha=>?_)).mono ?_
 ·obtain ⟨a1,a2⟩:=hag0 ρ' ha
  obtain ⟨r1,r2⟩:=hrel ρ' a1
  refine ⟨⟨fun k o hk=>?_,fun i k x y b hi hk hx hy=>?_,fun k o b hk ho=>?_,r1.mem,r1.base,r1.fresh,r1.kept,fun k hk=>ha k hk,fun b s hb=>⟨(r1.junkP b s hb).1,fun k o hk ho=>?_⟩⟩,m4 a2 hfit r2⟩
  ·by_cases e:k=j
   ·subst e;rw [hj] at hk;cases hk;exact (hob ρ' M w a2).1
   ·exact r1.inv k o (by rw [cf,if_neg e];exact hk)
  ·have n1:i≠j:=fun e=>by subst e;rw [hj] at hi;cases hi;exact absurd hx ((hob ρ' M w a2).2 b)
   have n2:k≠j:=fun e=>by subst e;rw [hj] at hk;cases hk;exact absurd hy ((hob ρ' M w a2).2 b)
   exact r1.dist i k x y b (by rw [cf,if_neg n1];exact hi) (by rw [cf,if_neg n2];exact hk) hx hy
  ·have n1:k≠j:=fun e=>by subst e;rw [hj] at hk;cases hk;exact absurd ho ((hob ρ' M w a2).2 b)
   exact r1.priv k o b (by rw [cf,if_neg n1];exact hk) ho
  ·have n1:k≠j:=fun e=>by subst e;rw [hj] at hk;cases hk;exact absurd ho ((hob ρ' M w a2).2 b)
   exact (r1.junkP b s hb).2 k o (by rw [cf,if_neg n1];exact hk) ho
 ·rintro e w' ⟨u,ρ1,M',rfl,hfin⟩
  refine ⟨u,ρ1,M',rfl,fun ρ' ha=>?_⟩
  have hag:Agree (look (eraseO j bl')) (fun i=>if i=j then ρ1 j else ρ' i) ρ':=fun i hi=>by
   have e:i≠j:=fun e=>by subst e;rw [cf,if_pos rfl] at hi;exact hi rfl
   show ρ' i=if i=j then ρ1 j else ρ' i
   rw [if_neg e]
  obtain ⟨q1,q2⟩:=hfin (fun i=>if i=j then ρ1 j else ρ' i) (fun i hi=>by
   by_cases e:i=j
   ·subst e;show (if i=i then ρ1 i else ρ' i)=ρ1 i;rw [if_pos rfl]
   ·show (if i=j then ρ1 j else ρ' i)=ρ1 i
    rw [if_neg e]
    exact ha i (by rw [cf,if_neg e];exact hi))
  refine ⟨AV.inB_rep hag hsr q1,?_⟩
  have q3:RelW (ctxOf w 0 g M (eraseO j bl) ρ) (look bl') (fun i=>if i=j then ρ1 j else ρ' i) M' w':=by
   refine ⟨q2.inv,q2.dist,q2.priv,q2.mem,q2.base,q2.fresh,q2.kept,fun k hk=>?_,q2.junkP⟩
   have hk':look (eraseO j bl) k≠none:=hk
   rw [cf] at hk'
   by_cases e:k=j
   ·rw [if_pos e] at hk';exact absurd rfl hk'
   ·rw [if_neg e] at hk'
    have:=q2.names k hk'
    rw [this]
    show (if k=j then _ else ρ k)=ρ k
    rw [if_neg e]
  exact q3.scoped (fun s v hv=>by
   rw [cf] at hv
   by_cases e:s=j
   ·rw [if_pos e] at hv;cases hv
   ·rw [if_neg e] at hv;exact .inr hv) hs (fun k hk=>fQ hdom k hk) hag
def singleF (F:FS):List Cell→Bool
 | []=>true
 | .own j :: r=>match F.bl j with
  | some (.vec _ _)=>singleF F r
  | some (.mp _ _)=>singleF F r
  | _=>false
 | c :: r=>match c.single with
  | true=>singleF F r
  | false=>false
def ownsC:List Cell→List Nat
 | []=>[]
 | .own j :: r=>j :: ownsC r
 | _ :: r=>ownsC r
theorem fJ {F F':FS}:∀ {cs:List Cell},(∀ j∈ownsC cs,F'.bl j=F.bl j)→singleF F cs=true→singleF F' cs=true
 | [],_,_=>rfl
 | c :: r,hb,h=>by
  cases c with
  | own j =>
   simp only [singleF] at h ⊢
   rw [hb j (by simp [ownsC])]
   have hr:∀ k∈ownsC r,F'.bl k=F.bl k:=fun k hk=>hb k (by simp [ownsC,hk])
   split at h
   ·exact fJ hr h
   ·exact fJ hr h
   ·cases h
  | _ =>
   simp only [singleF] at h ⊢
   split at h
   ·exact fJ (fun k hk=>hb k (by simpa [ownsC] using hk)) h
   ·cases h
theorem gD {F:FS} {ρ:Env} {M:Mem} {w:World} (hr:RelW C F.bl ρ M w):∀ {cs:List Cell} {vs:List Value},singleF F cs=true→Reps ρ M cs vs→∀ u∈vs,notMany u=true
 | [],[],_,_,u,hu=>by cases hu
 | [],_ :: _,_,h,_,_=>h.elim
 | _ :: _,[],_,h,_,_=>h.elim
 | c :: r,v :: vs,hs,h,u,hu=>by
  cases c with
  | own j =>
   have hv:v=ρ j:=h.1
   simp only [singleF] at hs
   split at hs
   ·rename_i sz l e
    rcases List.mem_cons.1 hu with e2 | e2
    ·obtain ⟨a,cap,e3,_⟩:=hr.inv j _ e
     rw [e2,hv,e3];rfl
    ·exact gD hr hs h.2 u e2
   ·rename_i agg l e
    rcases List.mem_cons.1 hu with e2 | e2
    ·obtain ⟨r0,es,cl,f,e3,_⟩:=hr.inv j _ e
     rw [e2,hv,e3];rfl
    ·exact gD hr hs h.2 u e2
   ·cases hs
  | _ =>
   simp only [singleF] at hs
   split at hs
   ·rename_i e
    rcases List.mem_cons.1 hu with e2 | e2
    ·rw [e2];exact lA e h.1
    ·exact gD hr hs h.2 u e2
   ·cases hs
theorem lL {F:FS} {ρ:Env} {M:Mem} {w:World} (hr:RelW C F.bl ρ M w) {x:A1} (hs:singleF F x.cells=true) {v:Value} (hx:x.rep ρ M v):Reps ρ M x.cells v.cells.toList:=by
 cases x with
 | c y =>
  have:=gD hr hs (show Reps ρ M [y] [v] from ⟨hx,trivial⟩) v (by simp)
  rw [ld this]
  exact ⟨hx,trivial⟩
 | agg cs=>obtain ⟨arr,rfl,h2⟩:=hx;exact h2
theorem gt {t:TypeId} {x y:Operand} {j off:Nat} {cs cs':List Cell} {u:TypeId} {v:A1} {n:Nat} {b:Bool}
  (hx:opnd F x=some (.s (.c (.loc j off)))) (hj:F.bl j=some (.blk cs u)) (hy:opnd F y=some (.s v)) (hs:singleF F v.cells=true) (ht:tinfo P t=some (n,b)) (hl:Nat.beq v.cells.length n=true)
  (hle:Nat.ble (off+n) cs.length=true) (hc:setCells cs off v.cells=cs') :
  TriL P C ops ⟨none,.store t x y,ty,pos,after,none⟩ ⟨slotsOf [x,y],j :: ownsC v.cells,[],[j]⟩ [] [(j,.blk cs' u)] F:=by
 refine ⟨⟨rfl,rfl⟩,fun F' hS=>?_⟩
 have h1:=aG hS.1
 have hj':F'.bl j=some (.blk cs u):=(hS.2 j (by simp)).trans hj
 have hs':=fJ (F':=F') (fun k hk=>hS.2 k (by simp [hk])) hs
 have hx':=(h1 x (by simp)).trans hx
 have hy':=(h1 y (by simp)).trans hy
 refine kE rfl rfl (fun k hk=>cJ hk) (fun ρ M a w hr=>?_)
 have hl':v.cells.length=n:=Nat.eq_of_beq_eq_true hl
 have ex:a.eval x=ptr ρ j off:=aU hr hx'
 have ey:v.rep ρ M (a.eval y):=aU hr hy'
 obtain ⟨⟨arr,g1,g2⟩,g3⟩:=hr.heap.inv _ _ hj'
 have hcr:=lL hr.heap hs' ey
 have hnm:∀ u∈(a.eval y).cells.toList,notMany u=true:=gD hr.heap hs' hcr
 have hlen:=hcr.len
 have hcl:=g2.len
 have hle':=Nat.le_of_ble_eq_true hle
 obtain ⟨w',q1,q2,q3,q4,q5,q6,q7⟩:=ca (P:=P) (off:=off) (a.eval y).cells.toList 0 w arr g1 hnm (by have e:arr.size=cs.length:=(by simpa using hcl);rw [hlen,hl'];omega)
 refine ⟨w',M,?_,Mem.le_refl _,fun ρ' h0=>?_⟩
 ·unfold execOp
  simp only [ex,ptr]
  have hsv:(storeVar t ⟨blockOf (ρ j),off,none⟩ (a.eval y)).run P w=.ok () w':=by
   unfold storeVar
   rw [ag (fh ht w)]
   rw [if_neg (by simp at hlen;simp [hlen,hl'])]
   exact q1
  show (do storeVar t ⟨blockOf (ρ j),off,none⟩ (a.eval y);pure Next.skip:Sem Next).run P w=_
  rw [ag hsv]
  rfl
 ·have ex':a.eval x=ptr ρ' j off:=aU h0 hx'
  have eb:blockOf (ρ' j)=blockOf (ρ j):=by have:=ex'.symm.trans ex;simpa [ptr] using this
  obtain ⟨⟨arr',g1',g2'⟩,g3'⟩:=h0.heap.inv _ _ hj'
  rw [eb] at g1' g3'
  have ea:arr'=arr:=by have:=g1'.symm.trans g1;simpa using this
  subst ea
  have ey':v.rep ρ' M (a.eval y):=aU h0 hy'
  refine h0.heap.change j (fun b=>b=blockOf (ρ j)) ?_ ⟨q5,q6,q7,Nat.le_of_eq q4.symm⟩ (fun b _ hb=>q3 b hb) (Mem.le_refl _) (fun _ _ _=>⟨fun _=>rfl,rfl⟩) ?_ ?_ (fun b hb=>h0.heap.noJunk hj' (by rw [hb,← eb];rfl))
  ·rintro b rfl _
   rw [← eb]
   exact h0.heap.priv j _ _ hj' rfl
  ·rintro b (rfl | hb)
   ·exact ⟨fun o v' hv'=>(by rw [g3' o] at hv';cases hv'),fun o ho=>(by rw [h0.heap.mem.noObj g1'] at ho;cases ho)⟩
   ·have:=h0.heap.mem.none hb
    exact ⟨fun o v' hv'=>(by rw [this.1 o] at hv';cases hv'),fun o ho=>(by rw [this.2] at ho;cases ho)⟩
  ·intro k ob hk
   rw [bP] at hk
   split at hk
   ·rename_i e
    subst e
    cases hk
    refine .inr (.inr ⟨rfl,⟨⟨_,by rw [eb];exact q2,?_⟩,by rw [eb];exact g3'⟩,fun b hb=>.inl (by cases hb;exact eb)⟩)
    rw [← hc]
    simpa using Reps.setMany off (lL h0.heap hs' ey') g2'
   ·rename_i e
    refine .inr (.inl ⟨hk,fun b hb hbe=>?_⟩)
    subst hbe
    exact e ((h0.heap.dist k j _ _ _ hk hj' hb (by show some _=some _;rw [eb])).symm)
def dI (x:Int):D:=.v (.int .i64 x)
def dB (x:Bool):D:=.v (.bool x)
def dS (x:Str):D:=.v (.string x)
def cI (x:Int):Cell:=.d (.v (.int .i64 x))
def cB_ (x:Bool):Cell:=.d (.v (.bool x))
def cS (x:Str):Cell:=.d (.v (.string x))
def aI (x:Int):A1:=.c (.d (.v (.int .i64 x)))
def aB (x:Bool):A1:=.c (.d (.v (.bool x)))
def aS (x:Str):A1:=.c (.d (.v (.string x)))
theorem OkOps.x {o:Op} {rest:List Oper} {Q:AState→Prop} {sl:List (Nat×AV)} {bl:List (Nat×Ob)} {nx:Nat} (x:A1) (he:evQ P ⟨look sl,look bl⟩ ty o=some x) (hs:sideOk ⟨look sl,look bl⟩ true o.operands.toList) (hn:Nat.blt dst C.n=true) (h:OkOps P C ops rest Q ⟨(dst,.s x) :: sl,bl,nx⟩) :
  OkOps P C ops (⟨some dst,o,ty,pos,after,none⟩ :: rest) Q ⟨sl,bl,nx⟩:=ae (r8 he hs hn) h
theorem ar {o:Op} {rest:List Oper} {ss0:List Sum} {Q:AState→Prop} {sl:List (Nat×AV)} {bl:List (Nat×Ob)} {nx:Nat} (x:A1) (he:evQ P ⟨look sl,look bl⟩ ty o=some x) (hs:sideOk ⟨look sl,look bl⟩ true o.operands.toList) (hn:Nat.blt dst C.n=true)
  (h:OkD P C ops rest (⟨slotsOf o.operands.toList,ldBlk ⟨look sl,look bl⟩ o,[dst],[]⟩ :: ss0) Q ⟨(dst,.s x) :: sl,bl,nx⟩):OkD P C ops (⟨some dst,o,ty,pos,after,none⟩ :: rest) ss0 Q ⟨sl,bl,nx⟩:=av (r8 he hs hn) h
theorem aa {o:Op} {rest:List Oper} {Q:AState→Prop} {sl:List (Nat×AV)} {bl:List (Nat×Ob)} {nx:Nat} (x:A1) (h:OkOps P C ops rest Q ⟨(dst,.s x) :: sl,bl,nx⟩) (he:evQ P ⟨look sl,look bl⟩ ty o=some x:=by exact rfl) (hs:sideOk ⟨look sl,look bl⟩ true o.operands.toList:=by exact trivial) (hn:Nat.blt dst C.n=true:=by exact rfl) :
  OkOps P C ops (⟨some dst,o,ty,pos,after,none⟩ :: rest) Q ⟨sl,bl,nx⟩:=OkOps.x x he hs hn h
theorem aL [HasTab P C] {f:FuncId} {args:Array Operand} {argTypes:Array TypeId} {ys las:List A1} {bl bl':List (Nat×Ob)} {res:AV} (σ:Nat→Nat) (res':AV) (Wb:List (Nat×Ob)) (hc:Con P f las bl res bl') (hy:rds F args.toList=some ys) (hfit:Fits ys (las.map (A1.ren σ))) (hs:sideOk F true args.toList) (hf:Entry P f) (hl:lentOk F σ bl)
  (hdom:domB bl' bl=true:=by exact rfl) (hap:apart σ bl'=true:=by exact rfl) (hsc:blIn bl bl=true:=by exact rfl) (hsa:mo bl las=true:=by exact rfl) (hnew:allNone F (newNames σ bl bl'):=by exact trivial) (hn:Nat.blt dst C.n=true:=by exact rfl) (hres:res.ren σ=res':=by exact rfl) (hWb:renBl σ bl'=Wb:=by exact rfl) :
  TriL P C ops ⟨some dst,.call ⟨.value (.func f),args,argTypes⟩,ty,pos,after,none⟩ ⟨slotsOf args.toList,Wb.map (·.1),[dst],Wb.map (·.1)⟩ [(dst,res')] Wb F:=bQ σ res' Wb hc hy hfit hs hf hl hdom hap hsc hsa hnew hn hres hWb
end Go.E2
end
section
namespace Go.E2
variable {P:Program} {C:Ctx} {F:FS} {ops:Array Oper} {dst:Nat} {ty:TypeId} {pos:String} {after:Array Edge}
def eJ (sz:Nat) (n:Nat):List D:=[.js sz n]
def jappO (n k:Nat):Option Nat:=if n+k≤1073741824 then some (n+k) else none
theorem ue {n k r:Nat} (h:jappO n k=some r):n+k≤1073741824∧r=n+k:=by
 unfold jappO at h
 split at h
 ·rename_i hc;cases h;exact ⟨hc,rfl⟩
 ·cases h
theorem Rep.js_cases {M:Mem} {sz n:Nat} {v:Value} (h:Rep M (.js sz n) v):∃ a cap,v=.slice a n cap∧n≤cap∧((a=none∧n=0∧cap=0)∨∃ b off s,a=some ⟨b,off,none⟩∧M.junk b=some s∧off+cap*sz≤s):=by
 cases h with
 | js0=>exact ⟨none,0,rfl,Nat.le_refl _,.inl ⟨rfl,rfl,rfl⟩⟩
 | js hj hl hs=>exact ⟨_,_,rfl,hl,.inr ⟨_,_,_,rfl,hj,hs⟩⟩
theorem RelW.junkW {bl:Nat→Option Ob} {ρ:Env} {M:Mem} {w w':World} {b s:Nat} {arr:Array Value} {ty:TypeId} (h:RelW C bl ρ M w) (hj:M.junk b=some s) (hb:w'.heap[b]? = some (.cells arr ty (0,0))) (hs:arr.size=s) (ho:∀ x,x≠b→w'.heap[x]? = w.heap[x]?) (hk:w'.os=w.os∧w'.tape=w.tape∧w'.output=w.output∧w'.heap.size=w.heap.size):RelW C bl ρ M w':=by
 have hcell:∀ o,M.cell b o=none:=(h.mem.junk b s hj).2
 have hobj:M.obj b=none:=by
  obtain ⟨⟨arr0,ty0,g,_⟩,_⟩:=h.mem.junk b s hj
  exact h.mem.noObj g
 have hp:=(h.junkP b s hj).1
 refine ⟨fun j ob hjj=>(h.inv j ob hjj).keep (Mem.le_refl _) (fun x hx=>⟨ho x (fun e=>(h.junkP b s hj).2 j ob hjj (e ▸ hx)),fun _=>rfl,rfl⟩),h.dist,h.priv,⟨fun x o v hv=>?_,fun x o hx=>?_,fun x s' hx=>?_⟩,h.base,h.fresh,⟨hk.1.trans h.kept.os,hk.2.1.trans h.kept.tape,hk.2.2.1.trans h.kept.output,by rw [hk.2.2.2];exact h.kept.size,fun x hx hg=>?_⟩,h.names,h.junkP⟩
 ·have hne:x≠b:=fun e=>by subst e;rw [hcell o] at hv;cases hv
  have:=h.mem.cell x o v hv
  unfold World.cell? at this ⊢
  simp only at this ⊢
  rw [ho x hne];exact this
 ·have hne:x≠b:=fun e=>by subst e;rw [hobj] at hx;cases hx
  rw [ho x hne];exact h.mem.obj x o hx
 ·by_cases e:x=b
  ·subst e
   rw [hj] at hx;cases hx
   exact ⟨⟨arr,ty,hb,hs⟩,hcell⟩
  ·rw [ho x e];exact h.mem.junk x s' hx
 ·have hne:x≠b:=fun e=>by
   subst e
   rcases hp with h1 | h1
   ·omega
   ·exact hg h1
  rw [ho x hne];exact h.kept.block x hx hg
def Mem.addJ (M:Mem) (b s:Nat):Mem:=⟨M.cell,M.obj,fun x=>if x=b then some s else M.junk x⟩
theorem nz {M:Mem} {b s:Nat} (h:M.junk b=none):M.le (M.addJ b s):=⟨fun _ _ _ h=>h,fun _ _ h=>h,fun x s' hx=>by
 show (if x=b then some s else M.junk x)=some s'
 by_cases e:x=b
 ·subst e;rw [h] at hx;cases hx
 ·rw [if_neg e];exact hx⟩
theorem RelW.junkN {bl:Nat→Option Ob} {ρ:Env} {M:Mem} {w:World} {arr:Array Value} {t:TypeId} (h:RelW C bl ρ M w):RelW C bl ρ (M.addJ w.heap.size arr.size) (w.alloc (.cells arr t)):=by
 have hn:=h.mem.none (Nat.le_refl w.heap.size)
 have hnj:=h.mem.noneJ (Nat.le_refl w.heap.size)
 have h1:RelW C bl ρ M (w.alloc (.cells arr t)):=by
  refine h.change 0 (fun _=>False) (fun _ h=>h.elim) ⟨rfl,rfl,rfl,by rw [dN];simp⟩ (fun b hb _=>iO hb) (Mem.le_refl _) (fun _ _ _=>⟨fun _=>rfl,rfl⟩) (fun b hb=>?_) (fun k ob hk=>.inr (.inl ⟨hk,fun _ _ h=>h⟩))
  rcases hb with hb | hb
  ·exact hb.elim
  ·have:=h.mem.none hb
   exact ⟨fun o v hv=>(by rw [this.1 o] at hv;cases hv),fun o ho=>(by rw [this.2] at ho;cases ho)⟩
 have hle:=nz (s:=arr.size) hnj
 refine ⟨fun j ob hj=>(h1.inv j ob hj).keep hle (fun b hb=>⟨rfl,fun _=>rfl,rfl⟩),h1.dist,h1.priv,⟨h1.mem.cell,h1.mem.obj,fun x s hx=>?_⟩,h1.base.trans hle,h1.fresh,h1.kept,h1.names,fun x s hx=>?_⟩
 ·have hx':(if x=w.heap.size then some arr.size else M.junk x)=some s:=hx
  by_cases e:x=w.heap.size
  ·subst e
   rw [if_pos rfl] at hx';cases hx'
   exact ⟨⟨arr,t,fe _ _,rfl⟩,hn.1⟩
  ·rw [if_neg e] at hx';exact h1.mem.junk x s hx'
 ·have hx':(if x=w.heap.size then some arr.size else M.junk x)=some s:=hx
  by_cases e:x=w.heap.size
  ·subst e
   exact ⟨.inl h.kept.size,fun j ob hj ho=>absurd (h.lt j ob _ hj ho) (Nat.lt_irrefl _)⟩
  ·rw [if_neg e] at hx';exact h1.junkP x s hx'
theorem ry {α:Type} {enc:α→List D} {X:List α} {n r:Nat} {M:Mem} {w:World} {s x:Value} {ts tx e sz:Nat} {ρ:Env} {bl:Nat→Option Ob} (ht:slInfo P ts=some (e,sz)) (hx':isSl P tx=true) (hby:bytesOk P e=true) (hsz:allR sz enc) (hone:∀ x,rowOne (enc x)=true)
  (happ:jappO n X.length=some r) (hs:Rep M (.js sz n) s) (hx:Rep M (.sl (X.map enc)) x) (hrw:RelW C bl ρ M w) :
  ∃ u w' M',(Builtin.append_ #[ts,tx] ty #[s,x]).run P w=.ok u w'∧M.le M'∧Rep M' (.js sz r) u∧∀ ρ',RelW C bl ρ' M w→RelW C bl ρ' M' w':=by
 obtain ⟨hlen,rfl⟩:=ue happ
 obtain ⟨hu,inf,hinf,hisz⟩:=gC ht
 obtain ⟨sa,scap,rfl,hcap,hroom⟩:=hs.js_cases
 obtain ⟨xa,xcap,rfl⟩:=hx.sl_cases
 simp only [List.length_map]
 simp only [List.length_map] at hx
 obtain ⟨news,hn1,hn2⟩:=cn (P:=P) (w:=w) hx (aO hsz X) hrw.mem
 simp only [List.length_map] at hn1
 have hnl:news.length=X.length*sz:=by rw [hn2.len,a6 (aO hsz X),List.length_map]
 obtain ⟨e',htt⟩:∃ e',(underlying tx).run P w=.ok (.slice e') w:=by
  unfold isSl at hx'
  split at hx'
  ·rename_i e' hu'
   exact ⟨e',by simp [underlying,program,Sem.run,hu']⟩
  ·cases hx'
 have hmul:(n+X.length)*sz=n*sz+X.length*sz:=Nat.add_mul ..
 by_cases hfit:n+X.length≤scap
 ·rcases hroom with ⟨rfl,rfl,rfl⟩ | ⟨b,off,s,rfl,hjb,hsb⟩
  ·-- nothing is added to nothing
   have hX0:X.length=0:=by omega
   have hn0:news=[]:=by apply List.eq_nil_of_length_eq_zero;rw [hnl,hX0];simp
   subst hn0
   refine ⟨.slice none 0 0,w,M,?_,Mem.le_refl _,by rw [hX0];exact .js0,fun ρ' hr'=>hr'⟩
   unfold Builtin.append_
   simp only [List.getElem?_toArray,List.getElem?_cons_zero,List.getElem?_cons_succ]
   rw [ag (bt ht w)]
   simp only
   rw [ag (bM ht w)]
   simp only [pure_bind]
   rw [ag htt]
   simp only [Bool.false_eq_true,if_false,Builtin.lenOf,pure_bind,Bool.not_false,if_true]
   rw [if_pos hfit,ag hn1]
   rw [hX0]
   rfl
  ·obtain ⟨⟨arr,ty',hb,hsize⟩,hnone⟩:=hrw.mem.junk b s hjb
   have hroom':off+(n+X.length)*sz≤arr.size:=by
    rw [hsize]
    exact Nat.le_trans (Nat.add_le_add_left (Nat.mul_le_mul_right sz hfit) off) hsb
   obtain ⟨w',q1,q2,q3,q4,q5,q6,q7⟩:=ca (P:=P) (b:=b) (off:=off+n*sz) (ty:=ty') news 0 w arr hb (ga (iV hone X) hn2) (by omega)
   refine ⟨.slice (some ⟨b,off,none⟩) (n+X.length) scap,w',M,?_,Mem.le_refl _,.js hjb hfit hsb,fun ρ' hr'=>?_⟩
   ·unfold Builtin.append_
    simp only [List.getElem?_toArray,List.getElem?_cons_zero,List.getElem?_cons_succ]
    rw [ag (bt ht w)]
    simp only
    rw [ag (bM ht w)]
    simp only [pure_bind]
    rw [ag htt]
    simp only [Bool.false_eq_true,if_false,Builtin.lenOf,pure_bind,Bool.not_false,if_true]
    rw [if_pos hfit,ag hn1]
    simp only [d9]
    rw [ag q1]
    rfl
   ·exact hr'.junkW hjb q2 (by rw [List.size_toArray,fX,Array.length_toList];exact hsize) q3 ⟨q5,q6,q7,q4⟩
 ·have hby':∃ zv,inf.zero=some zv∧zv.cells.size=inf.size∧inf.bytes≤65536:=by
   unfold bytesOk at hby
   rw [hinf] at hby
   simp only at hby
   split at hby
   ·rename_i zv hz
    split at hby
    ·rename_i hq;exact ⟨zv,hz,Nat.eq_of_beq_eq_true hq,Nat.le_of_ble_eq_true hby⟩
    ·cases hby
   ·cases hby
  obtain ⟨zv,hzv,hzsz,hbytes⟩:=hby'
  have hti:∀ w:World,(typeInfo e).run P w=.ok inf w:=fun w=>by simp [typeInfo,program,Sem.run,hinf]
  have hzr:∀ w:World,(zeroValue e).run P w=.ok zv w:=fun w=>by simp [zeroValue,typeInfo,program,Sem.run,hinf,hzv]
  have hnc:=lF (n:=n+X.length) (c:=scap) (by omega)
  have hnb:Builtin.nextslicecap (n+X.length) scap*inf.bytes≤2 ^ 48:=by
   have h1:Builtin.nextslicecap (n+X.length) scap≤2147483840:=by omega
   exact Nat.le_trans (Nat.mul_le_mul h1 hbytes) (by decide)
  obtain ⟨newCap,hnc2,w1,hw1,hch⟩:∃ newCap,n+X.length≤newCap∧∃ w1:World,w1={ w with drawn:=w.drawn+1 }∧∀ (K:Nat→Sem Value),(choose (.appendCap (n+X.length) scap e) >>= K).run P w=(K newCap).run P w1 :=
   ⟨(Question.appendCap (n+X.length) scap e).cut (w.tape w.drawn (.appendCap (n+X.length) scap e)),by simp [Question.cut],_,rfl,fun K=>by simp [choose,Sem.run,Question.forced,bind,Sem.bind]⟩
  have hrw1:∀ ρ',RelW C bl ρ' M w→RelW C bl ρ' M w1:=fun ρ' h=>by subst hw1;exact h.drew _
  have hw1h:w1.heap=w.heap:=by rw [hw1]
  have hin1:InW M w1:=(hrw1 ρ hrw).mem
  -- what was there
  obtain ⟨olds,ho1,ho2⟩:∃ olds:List Value,(Builtin.firstCells sz n (.slice sa n scap)).run P w1=.ok olds.toArray w1∧olds.length=n*sz:=by
   rcases hroom with ⟨rfl,rfl,rfl⟩ | ⟨b,off,s,rfl,hjb,hsb⟩
   ·exact ⟨[],rfl,by simp⟩
   ·obtain ⟨⟨arr,ty',hb,hsize⟩,_⟩:=hin1.junk b s hjb
    have hns:off+n*sz≤arr.size:=by
     rw [hsize];exact Nat.le_trans (Nat.add_le_add_left (Nat.mul_le_mul_right sz hcap) off) hsb
    have hol:((arr.toList.drop off).take (n*sz)).length=n*sz:=by simp;omega
    refine ⟨(arr.toList.drop off).take (n*sz),?_,hol⟩
    have:=dK (P:=P) (w:=w1) (b:=b) (off:=off) ((arr.toList.drop off).take (n*sz)) (fun i v hi=>by
     rw [List.getElem?_take] at hi
     split at hi
     ·rw [List.getElem?_drop] at hi
      simp only [World.cell?,hb]
      simpa using hi
     ·cases hi)
    rw [hol] at this
    exact this
  obtain ⟨news1,hn3,hn4⟩:=cn (P:=P) (w:=w1) hx (aO hsz X) hin1
  simp only [List.length_map] at hn3
  have hnl1:news1.length=X.length*sz:=by rw [hn4.len,a6 (aO hsz X),List.length_map]
  have hroomr:∀ n,∀ w:World,(askRoom n).run P w=.ok () w:=fun n w=>by
   unfold askRoom;split <;> rfl
  let rest:=Builtin.zeroCells zv.cells (newCap - (n+X.length))
  have hrs:rest.size=(newCap - (n+X.length))*sz:=by simp [rest,Builtin.zeroCells,hzsz,hisz]
  have hsize:newCap*sz≤(olds++news1++rest.toList).toArray.size:=by
   have h5:newCap*sz=(n+X.length)*sz+(newCap - (n+X.length))*sz:=by rw [← Nat.add_mul];congr 1;omega
   simp only [List.size_toArray,List.length_append,Array.length_toList]
   omega
  refine ⟨.slice (some ⟨w1.heap.size,0,none⟩) (n+X.length) newCap,w1.alloc (.cells (olds++news1++rest.toList).toArray e),M.addJ w1.heap.size (olds++news1++rest.toList).toArray.size,?_,nz (hin1.noneJ (Nat.le_refl _)),.js (s:=(olds++news1++rest.toList).toArray.size) (if_pos rfl) hnc2 (by omega),fun ρ' hr'=>(hrw1 ρ' hr').junkN⟩
  unfold Builtin.append_
  simp only [List.getElem?_toArray,List.getElem?_cons_zero,List.getElem?_cons_succ]
  rw [ag (bt ht w)]
  simp only
  rw [ag (bM ht w)]
  simp only [pure_bind]
  rw [ag htt]
  simp only [Bool.false_eq_true,if_false,Builtin.lenOf,pure_bind,Bool.not_false,if_true]
  rw [if_neg hfit,ag (hti w)]
  rw [if_neg (by
   intro h
   have h1:=h.1
   have h2:IntKind.i64.max=9223372036854775807:=by decide
   rw [h2] at h1
   omega)]
  rw [ag (hti w)]
  rw [if_neg (by omega),hch]
  rw [ag (hti w1),ag (hroomr _ w1),ag ho1,ag hn3,ag (hzr w1)]
  have e1:olds.toArray++news1.toArray++rest=(olds++news1++rest.toList).toArray:=by apply Array.ext';simp
  show (do let y ← newRow e (olds.toArray++news1.toArray++rest);pure (Value.slice (some y) (n+X.length) newCap):Sem Value).run P w1=_
  rw [e1]
  rfl
theorem yn {α:Type} {enc:α→List D} {X:List α} {n r:Nat} {ts tx e sz:Nat} {s x:Operand} (happ:jappO n X.length=some r) (hs:opnd F s=some (.s (.c (.d (.js sz n))))) (hx:rdS F x=some (X.map enc)) (ht:slInfo P ts=some (e,sz)) (htx:isSl P tx=true) (hby:bytesOk P e=true) (hsz:allR sz enc) (hone:∀ x,rowOne (enc x)=true)
  (hsd:sideOk F true [s,x]) (hd:Nat.blt dst C.n=true) :
  TriL P C ops ⟨some dst,.call ⟨.builtin .append,#[s,x],#[ts,tx]⟩,ty,pos,after,none⟩ ⟨slotsOf [s,x],[],[dst],[]⟩ [(dst,.s (.c (.d (.js sz r))))] [] F:=by
 refine ⟨⟨rfl,rfl⟩,fun F' hS=>?_⟩
 have h1:=aG hS.1
 have hs':=(h1 s (by simp)).trans hs
 refine Tri.val [] rfl rfl hd (fun _ h=>by cases h) (fun k hk=>by rw [bF];exact hk) (fun _ h=>by cases h) (fun ρ M a w hr=>?_)
 have hR:=aR hr rfl (aC h1 hsd)
 have hrs:Rep M (.js sz n) (a.eval s):=aU hr hs'
 have hrx:=gF hR (by simp) ((fA (h1 x (by simp))).trans hx)
 obtain ⟨u,w',M',g1,g2,g3,g4⟩:=ry (P:=P) (ty:=ty) ht htx hby hsz hone happ hrs hrx hr.heap
 refine ⟨u,w',M',fun _=>u,?_,g2,fun ρ' h0 _=>⟨g3,by rw [bF];exact g4 ρ' h0.heap⟩⟩
 unfold execOp
 simp only [resolve,List.map_toArray,List.map_cons,List.map_nil,pure_bind,invoke]
 exact aA g1
theorem wI {K:Type} [BEq K] {ek:K→Value} {L:List (K×Nat)} {sz:Nat} {t kt et:TypeId} {x i:Operand} {k:K} {yo:Nat×Bool} (hg:mgetO L k 0=some yo) (hx:mpOf F x=some (false,encM ek (eJ sz) L)) (hi:rdV F i=some (ek k)) (ht:mapInfo P t=some (kt,et)) (hk:KeyOk P kt ek) (hz:zeroA P et=some (.c (.d (.v (.slice none 0 0))))) (hs:sideOk F true [x,i]) (hd:Nat.blt dst C.n=true) :
  TriL P C ops ⟨some dst,.lookup t x i false,ty,pos,after,none⟩ ⟨slotsOf [x,i],mpBlk F x,[dst],[]⟩ [(dst,.s (.c (.d (.js sz yo.1))))] [] F:=by
 refine ⟨⟨rfl,rfl⟩,fun F' hS=>?_⟩
 have h2:=aG hS.1
 refine bC rfl rfl hd (fun ρ M a w hr=>?_)
 have hR:=aR hr rfl (aC h2 hs)
 obtain ⟨u,q1,q2⟩:=jT (P:=P) (co:=false) (m6 hr hR (by simp) ((jx (h2 x (by simp)) hS.2).trans hx)) ht hk hz (fun ρ v h=>by
  have e:v=.slice none 0 0:=bz h
  rw [e];exact Rep.js0) (fun _ x=>rfl) hg
 refine ⟨u,?_,q2 ρ⟩
 unfold execOp
 simp only
 rw [a7 hR (by simp) ((ba (h2 i (by simp))).trans hi)]
 exact aA q1
def arrEl (P:Program) (t:TypeId):Option (Nat×TypeId) :=
 match P.underlying t with
 | some (.array n e)=>some (n,e)
 | _=>none
theorem xU {α:Type} {n:Nat} {e1:α→D} {a:Nat→α} {k:Nat} (hk:k<n):(arrC n e1 a)[k]? = some (.d (e1 (a k))):=by
 have:=zs (n:=n) (e1:=e1) (a:=a) (pre:=[]) (post:=[]) (p:=0) rfl hk
 simpa using this
theorem yJ {ρ:Env} {M:Mem} {t et n k:Nat} {kd:IntKind} {z:Int} {cs:List Cell} {c:Cell} {v:Value} (hz:ixO n z=some k) (ht:arrEl P t=some (n,et)) (h1:tinfo P et=some (1,false)) (hc:cs[k]? = some c) (hv:(A1.agg cs).rep ρ M v) (w:World) :
  ∃ u,(Instr.index t v (.int kd z)).run P w=.ok u w∧c.rep ρ M u:=by
 obtain ⟨arr,rfl,hr⟩:=hv
 obtain ⟨rfl,hk⟩:=e9 hz
 unfold arrEl at ht
 split at ht
 ·rename_i n' e' hu
  cases ht
  obtain ⟨u,g1,g2⟩:=sC (P:=P) (t:=et) (off:=k) (x:=.c c) hr (by unfold takeA;rw [h1];simp only [hc]) w
  refine ⟨u,?_,g2⟩
  unfold Instr.index
  have hk':(asIntOf (.int kd (k:Int))).run P w=.ok (kd,(k:Int)) w:=rfl
  rw [ag hk']
  simp only
  rw [ag (jm hu w)]
  simp only
  rw [if_pos ⟨Int.natCast_nonneg k,Int.ofNat_lt.mpr hk⟩,ag (fh h1 w),Int.toNat_natCast,Nat.mul_one]
  exact g1
 ·cases ht
theorem sb {t et n k:Nat} {x i:Operand} {kd:IntKind} {z:Int} {cs:List Cell} {c:Cell} (hz:ixO n z=some k) (hx:rd F x=some (.agg cs)) (hi:rdV F i=some (.int kd z)) (ht:arrEl P t=some (n,et)) (h1:tinfo P et=some (1,false)) (hc:cs[k]? = some c) (hs:sideOk F true [x,i]) (hd:Nat.blt dst C.n=true) :
  TriL P C ops ⟨some dst,.index t x i,ty,pos,after,none⟩ ⟨slotsOf [x,i],[],[dst],[]⟩ [(dst,.s (.c c))] [] F:=by
 refine ⟨⟨rfl,rfl⟩,fun F' hS=>?_⟩
 have h2:=aG hS.1
 refine bC (x:=.c c) rfl rfl hd (fun ρ M a w hr=>?_)
 have hR:=aR hr rfl (aC h2 hs)
 obtain ⟨u,q1,q2⟩:=yJ (P:=P) (kd:=kd) hz ht h1 hc (hR x (by simp) _ ((dm (h2 x (by simp))).trans hx)) w
 refine ⟨u,?_,q2⟩
 unfold execOp
 simp only
 rw [a7 hR (by simp) ((ba (h2 i (by simp))).trans hi)]
 exact aA q1
theorem nY {K V:Type} [BEq K] {r:List (K×V)} {a k:K} {v:V} (h:(k==a)=true):midx ((a,v) :: r) k=some 0:=by
 unfold midx;rw [h]
theorem qr {K V:Type} [BEq K] {r:List (K×V)} {a k:K} {v:V} (h:(k==a)=false):midx ((a,v) :: r) k=(midx r k).map (· + 1):=by
 conv=>lhs;unfold midx
 rw [h]
theorem m5 {K V:Type} [BEq K] {r:List (K×V)} {a k:K} {v z:V} (h:(k==a)=true):msetL ((a,v) :: r) k z=(k,z) :: r:=by
 unfold msetL;rw [h]
theorem oX {K V:Type} [BEq K] {r:List (K×V)} {a k:K} {v z:V} (h:(k==a)=false):msetL ((a,v) :: r) k z=(a,v) :: msetL r k z:=by
 conv=>lhs;unfold msetL
 rw [h]
theorem m7 {K V:Type} [BEq K] [ReflBEq K]:∀ (L:List (K×V)) (k:K) (z:V),midx (msetL L k z) k=some ((midx (msetL L k z) k).getD 0)
 | [],k,z=>by
  have h:(k==k)=true:=beq_self_eq_true k
  show midx [(k,z)] k=some ((midx [(k,z)] k).getD 0)
  rw [nY h];rfl
 | (a,v) :: r,k,z=>by
  have hkk:(k==k)=true:=beq_self_eq_true k
  cases h:(k==a) with
  | true=>rw [m5 h,nY hkk];rfl
  | false=>rw [oX h,qr h,m7 r k z];rfl
theorem sF {K V:Type} [BEq K] [ReflBEq K]:∀ {L:List (K×V)} {k:K} {n:Nat} {z:V},midx L k=some n→midx (L.set n (k,z)) k=some n
 | [],_,_,_,h=>by cases h
 | (a,v) :: r,k,n,z,h=>by
  cases e:(k==a) with
  | true =>
   rw [nY e] at h
   cases h
   show midx ((k,z) :: r) k=some 0
   exact nY (beq_self_eq_true k)
  | false =>
   rw [qr e] at h
   cases hr:midx r k with
   | none=>rw [hr] at h;cases h
   | some m =>
    rw [hr] at h
    cases h
    show midx ((a,v) :: r.set m (k,z)) k=some (m+1)
    rw [qr e,sF (z:=z) hr];rfl
theorem sG {K V:Type} [BEq K] [ReflBEq K]:∀ {L:List (K×V)} {k:K} {z:V},midx L k=none→midx (L++[(k,z)]) k=some L.length
 | [],k,z,_=>nY (beq_self_eq_true k)
 | (a,v) :: r,k,z,h=>by
  cases e:(k==a) with
  | true=>rw [nY e] at h;cases h
  | false =>
   rw [qr e] at h
   have hr:midx r k=none:=by
    cases hr:midx r k with
    | none=>rfl
    | some m=>rw [hr] at h;cases h
   show midx ((a,v) :: (r++[(k,z)])) k=_
   rw [qr e,sG hr];rfl
theorem ko {K V:Type} [BEq K] [ReflBEq K]:∀ (L:List (K×V)) (k:K) (y z:V),msetL (msetL L k y) k z=msetL L k z
 | [],k,y,z=>m5 (beq_self_eq_true k)
 | (a,v) :: r,k,y,z=>by
  cases h:(k==a) with
  | true=>rw [m5 h,m5 h];exact m5 (beq_self_eq_true k)
  | false=>rw [oX h,oX h,oX h,ko r k y z]
theorem RelW.mapSet {K V:Type} [BEq K] {ek:K→Value} {ev:V→List D} {L:List (K×V)} {agg:Bool} {bl:Nat→Option Ob} {ρ:Env} {M:Mem} {w:World} {j r clock:Nat} {es:Array MapEntry} {k:K} {z:V} {u:Value} (h:RelW C bl ρ M w) (hj:bl j=some (.mp agg (encM ek ev L))) (hρ:ρ j=.map (some r)) (hq:w.heap[r]? = some (.map es clock))
  (hu:(rowA agg (ev z)).rep ρ M u) (h1:agg=false→∀ x,(ev x).length=1):RelW C (over [(j,.mp agg (encM ek ev (msetL L k z)))] bl) ρ M { w with heap:=w.heap.setIfInBounds r (.map (esSet ek L k u clock es) (clSet L k clock)) }:=by
 obtain ⟨r',es',clock',f',e1',q1',q2',q3',q4',q5',q6'⟩:=h.inv j _ hj
 have er:r'=r:=by rw [hρ] at e1';cases e1';rfl
 subst er
 have ee:es'=es∧clock'=clock:=by have:=q1'.symm.trans hq;simpa using this
 obtain ⟨rfl,rfl⟩:=ee
 have hs':es'.size=L.length:=by rw [q3'];simp [encM]
 have hrl:r'<w.heap.size:=(Array.getElem?_eq_some_iff.1 hq).1
 obtain ⟨fu,hfu,hfr⟩:=kp (row:=ev z) (agg:=agg) (M:=M) (v:=u) ⟨ρ,hu⟩ (fun h=>h1 h z)
 refine h.change j (fun b=>b=r') ?_ ⟨rfl,rfl,rfl,by simp⟩ (fun b _ hb=>?_) (Mem.le_refl _) (fun _ _ _=>⟨fun _=>rfl,rfl⟩) ?_ ?_ (fun b hb=>h.noJunk hj (by rw [hb,hρ];rfl))
 ·rintro b rfl _
  exact h.priv j _ _ hj (by rw [hρ];rfl)
 ·simp only [Array.getElem?_setIfInBounds]
  rw [if_neg (fun e=>hb e.symm)]
 ·rintro b (rfl | hb)
  ·refine ⟨fun o v' hv'=>?_,fun o ho=>(by rw [q2'] at ho;cases ho)⟩
   have:=h.mem.cell _ o v' hv'
   simp only [World.cell?,q1'] at this;cases this
  ·have:=h.mem.none (b:=b) (by simpa using hb)
   exact ⟨fun o v' hv'=>(by rw [this.1 o] at hv';cases hv'),fun o ho=>(by rw [this.2] at ho;cases ho)⟩
 ·intro k' ob hk'
  rw [bP] at hk'
  split at hk'
  ·rename_i e
   subst e
   cases hk'
   refine .inr (.inr ⟨rfl,⟨r',esSet ek L k u clock' es',clSet L k clock',fun i=>if i=ixSet L k then fu else f' i,hρ,by simp [hrl],q2',?_,fun i a0 row hrow=>?_,fun i a0 row jj d hrow hd=>?_,px q6' hs'⟩,fun b hb=>.inl (by rw [hρ] at hb;cases hb;rfl)⟩)
   ·rw [lJ (v:=z) hs'];simp [encM]
   ·obtain ⟨p,hp,rfl,rfl⟩:=j4 hrow
    rcases iM (ek:=ek) (u:=u) (clock:=clock') hs' hp with ⟨g1,g2,born,g3⟩ | ⟨g1,g2,g3⟩
    ·refine ⟨born,?_⟩
     show _=some (MapEntry.mk _ (mkVal agg _ (if i=ixSet L k then fu else f' i)) _)
     rw [g3,if_pos g1,g2,hfu]
    ·obtain ⟨born,hb⟩:=q4' i _ _ (dc (a:=p.1) (v:=p.2) g2)
     refine ⟨born,?_⟩
     show _=some (MapEntry.mk _ (mkVal agg _ (if i=ixSet L k then fu else f' i)) _)
     rw [g3,if_neg g1];exact hb
   ·obtain ⟨p,hp,rfl,rfl⟩:=j4 hrow
    rcases iM (ek:=ek) (u:=u) (clock:=clock') hs' hp with ⟨g1,g2,born,g3⟩ | ⟨g1,g2,g3⟩
    ·show Rep M d ((if i=ixSet L k then fu else f' i) jj)
     rw [if_pos g1]
     rw [g2] at hd
     exact hfr jj d hd
    ·show Rep M d ((if i=ixSet L k then fu else f' i) jj)
     rw [if_neg g1]
     exact q5' i _ _ jj d (dc (a:=p.1) (v:=p.2) g2) hd
  ·rename_i e
   refine .inr (.inl ⟨hk',fun b hb hbe=>?_⟩)
   subst hbe
   exact e ((h.dist k' j _ _ _ hk' hj hb (by rw [hρ];rfl)).symm)
theorem mJ {K V:Type} [BEq K] [ReflBEq K] {ek:K→Value} {ev:V→List D} {L L':List (K×V)} {agg:Bool} {t kt et:TypeId} {x i:Operand} {j:Nat} {k:K} {zr:V} {yo:V×Bool} {z0 r:A1} (hg:mgetO L k zr=some yo) (hx:opnd F x=some (.s (.c (.own j)))) (hj:F.bl j=some (.mp agg (encM ek ev L))) (hi:rdV F i=some (ek k)) (ht:mapInfo P t=some (kt,et)) (hk:KeyOk P kt ek) (hz:zeroA P et=some z0) (hzn:z0.norm=rowA agg (ev zr)) (h1:agg=false→∀ x,(ev x).length=1) (hr:rowA agg (ev yo.1)=r) (hL:msetL L k yo.1=L') (hs:sideOk F true [x,i]) (hd:Nat.blt dst C.n=true) :
  TriL P C ops ⟨some dst,.mapEntry t x i,ty,pos,after,none⟩ ⟨slotsOf [x,i],[j],[dst],[j]⟩ [(dst,.tup [r,.c (.d (.v (.int .i64 (((midx L' k).getD 0:Nat):Int))))])] [(j,.mp agg (encM ek ev L'))] F:=by
 subst hr hL
 refine ⟨⟨rfl,rfl⟩,fun F' hS=>?_⟩
 have h2:=aG hS.1
 have hj':F'.bl j=some (.mp agg (encM ek ev L)):=(hS.2 j (by simp)).trans hj
 have hx':=(h2 x (by simp)).trans hx
 refine Tri.val [] rfl rfl hd (fun _ h=>by cases h) (fun k hk=>cJ hk) (fun _ h=>by cases h) (fun ρ M a w hr=>?_)
 have hR:=aR hr rfl (aC h2 hs)
 have ex:a.eval x=ρ j:=aU hr hx'
 have ei:=a7 hR (x:=i) (by simp) ((ba (h2 i (by simp))).trans hi)
 obtain ⟨rr,es,clock,f,e1,q1,q2,q3,q4,q5,q6⟩:=hr.heap.inv j _ hj'
 have hs:es.size=L.length:=by rw [q3];simp [encM]
 have he:∀ (n:Nat) p,L[n]? = some p→∃ e,es[n]? = some e∧e.key=ek p.1:=fun n p hp=>by
  obtain ⟨born,hb⟩:=q4 n _ _ (dc (a:=p.1) (v:=p.2) hp)
  exact ⟨_,hb,rfl⟩
 obtain ⟨d,hu,g1,g2⟩:=hk.d
 obtain ⟨zv,z1,z2⟩:=pE hz w
 have hgo:(getObj rr).run P w=.ok (.map es clock) w:=by simp [getObj,Sem.run,q1]
 -- the value that stands there,and what is left
 obtain ⟨u,hu1,hu2⟩:∃ u,(Instr.mapEntry t (.map (some rr)) (ek k)).run P w=.ok (.tuple #[u,.int .i64 (((midx (msetL L k yo.1) k).getD 0:Nat):Int)]) { w with heap:=w.heap.setIfInBounds rr (.map (esSet ek L k u clock es) (clSet L k clock)) }∧∀ ρ,(rowA agg (ev yo.1)).rep ρ M u:=by
  unfold Instr.mapEntry
  rw [ag (i6 ht w)]
  simp only
  cases hm:midx L k with
  | none =>
   have hmg:cG L k=none:=by rw [mw,hm];rfl
   have hyo:yo=(zr,false):=by unfold mgetO at hg;rw [hmg] at hg;exact (Option.some.inj hg).symm
   refine ⟨zv,?_,fun ρ=>by rw [hyo,← hzn];exact A1.norm_rep (z2 ρ M)⟩
   rw [ag hgo]
   simp only
   rw [ag (g2 _ _ w),ag (gR hk hs he k w),hm]
   simp only [Option.bind_none]
   rw [ag z1]
   have hix:(midx (msetL L k yo.1) k).getD 0=clock:=by
    rw [lf,hm]
    show (midx (L++[(k,yo.1)]) k).getD 0=clock
    rw [sG hm,q6.1,hs];rfl
   show (do setObj rr (.map (es.push { key:=ek k,val:=zv,born:=clock }) (clock+1));pure (Value.tuple #[zv,goInt clock]):Sem Value).run P w=_
   rw [ag (gE q1),hix]
   unfold esSet clSet
   rw [hm]
   rfl
  | some n =>
   obtain ⟨p,hp,hkp⟩:=gQ hm
   obtain ⟨born,hb⟩:=q4 n _ _ (dc (a:=p.1) (v:=p.2) hp)
   have hkk:k=p.1:=hk.law _ _ hkp
   have hmg:cG L k=some p.2:=by rw [mw,hm];simp [hp]
   have hyo:yo=(p.2,true):=by unfold mgetO at hg;rw [hmg] at hg;exact (Option.some.inj hg).symm
   have hbn:born=n:=q6.2 n _ hb
   refine ⟨mkVal agg (ev p.2).length (f n),?_,fun ρ=>by rw [hyo];exact su (fun h=>h1 h _) (fun jj d hd=>q5 n _ _ jj d (dc (a:=p.1) (v:=p.2) hp) hd)⟩
   rw [ag hgo]
   simp only
   rw [ag (g2 _ _ w),ag (gR hk hs he k w),hm]
   simp only [Option.bind_some,hb,Option.map_some,Option.getD_some]
   have hst:(Instr.keyThatStays (ek p.1) (ek k)).run P w=.ok (ek k) w:=by
    unfold Instr.keyThatStays
    rw [← hkk,hk.bits k k (by rw [← hkk] at hkp;exact hkp)]
    rfl
   rw [ag hst,ag (gE q1)]
   have hix:(midx (msetL L k yo.1) k).getD 0=n:=by
    rw [lf,hm]
    show (midx (L.set n (k,yo.1)) k).getD 0=n
    rw [sF hm];rfl
   rw [hix,hbn]
   unfold esSet clSet
   rw [hm]
   have hmod:es.modify n (fun e=>{ e with key:=ek k })=es.modify n (fun e=>{ e with key:=ek k,val:=mkVal agg (ev p.2).length (f n) }):=by
    apply Array.ext_getElem?
    intro q
    rw [Array.getElem?_modify,Array.getElem?_modify]
    split
    ·rename_i e;subst e;rw [hb];rfl
    ·rfl
   simp only
   rw [← hmod]
   rfl
 refine ⟨_,{ w with heap:=w.heap.setIfInBounds rr (.map (esSet ek L k u clock es) (clSet L k clock)) },M,fun _=>undef,?_,Mem.le_refl _,fun ρ' h0 _=>⟨⟨#[u,.int .i64 (((midx (msetL L k yo.1) k).getD 0:Nat):Int)],rfl,hu2 ρ',Rep.v _,trivial⟩,?_⟩⟩
 ·unfold execOp
  simp only [ex,e1,ei]
  exact aA hu1
 ·have ex':a.eval x=ρ' j:=aU h0 hx'
  exact h0.heap.mapSet hj' (by rw [← ex',ex,e1]) q1 (hu2 ρ') h1
theorem kO {K V:Type} [BEq K] {ek:K→Value} {ev:V→List D} {L L':List (K×V)} {agg:Bool} {t kt et:TypeId} {x i y:Operand} {j n:Nat} {k:K} {z:V} {v:A1} (hn:midx L k=some n) (hx:opnd F x=some (.s (.c (.own j)))) (hj:F.bl j=some (.mp agg (encM ek ev L))) (hi:rdV F i=some (.int .i64 (n:Int))) (hy:opnd F y=some (.s v)) (hv:v.norm=rowA agg (ev z)) (_ht:mapInfo P t=some (kt,et)) (hk:KeyOk P kt ek) (h1:agg=false→∀ x,(ev x).length=1) (hL:msetL L k z=L') (hs:sideOk F true [x,i,y]) :
  TriL P C ops ⟨none,.entryStore t x i y,ty,pos,after,none⟩ ⟨slotsOf [x,i,y],[j],[],[j]⟩ [] [(j,.mp agg (encM ek ev L'))] F:=by
 subst hL
 refine ⟨⟨rfl,rfl⟩,fun F' hS=>?_⟩
 have h2:=aG hS.1
 have hj':F'.bl j=some (.mp agg (encM ek ev L)):=(hS.2 j (by simp)).trans hj
 have hx':=(h2 x (by simp)).trans hx
 have hy':=(h2 y (by simp)).trans hy
 refine kE rfl rfl (fun k hk=>cJ hk) (fun ρ M a w hr=>?_)
 have hR:=aR hr rfl (aC h2 hs)
 have ex:a.eval x=ρ j:=aU hr hx'
 have ei:=a7 hR (x:=i) (by simp) ((ba (h2 i (by simp))).trans hi)
 obtain ⟨rr,es,clock,f,e1,q1,q2,q3,q4,q5,q6⟩:=hr.heap.inv j _ hj'
 have hs:es.size=L.length:=by rw [q3];simp [encM]
 obtain ⟨p,hp,hkp⟩:=gQ hn
 obtain ⟨born,hb⟩:=q4 n _ _ (dc (a:=p.1) (v:=p.2) hp)
 have hkk:k=p.1:=hk.law _ _ hkp
 have hnl:n<es.size:=(Array.getElem?_eq_some_iff.1 hb).1
 have hfi:es.findIdx? (fun e=>(e.born:Int)==(n:Int))=some n:=by
  rw [Array.findIdx?_eq_some_iff_getElem]
  refine ⟨hnl,?_,fun q hq=>?_⟩
  ·have:=q6.2 n _ (Array.getElem?_eq_getElem hnl)
   simp [this]
  ·have:=q6.2 q _ (Array.getElem?_eq_getElem (by omega))
   simp [this];omega
 have hmod:es.modify n (fun e=>{ e with val:=a.eval y })=esSet ek L k (a.eval y) clock es:=by
  unfold esSet
  rw [hn]
  apply Array.ext_getElem?
  intro q
  rw [Array.getElem?_modify,Array.getElem?_modify]
  split
  ·rename_i e;subst e;rw [hb,hkk];rfl
  ·rfl
 refine ⟨{ w with heap:=w.heap.setIfInBounds rr (.map (esSet ek L k (a.eval y) clock es) (clSet L k clock)) },M,?_,Mem.le_refl _,fun ρ' h0=>?_⟩
 ·have hgo:(getObj rr).run P w=.ok (.map es clock) w:=by simp [getObj,Sem.run,q1]
  unfold execOp
  simp only [ex,e1,ei]
  have key:(Instr.entryStore t (.map (some rr)) (.int .i64 (n:Int)) (a.eval y)).run P w=.ok () { w with heap:=w.heap.setIfInBounds rr (.map (esSet ek L k (a.eval y) clock es) (clSet L k clock)) }:=by
   unfold Instr.entryStore
   simp only
   rw [ag hgo]
   simp only
   have hai:(asInt (.int .i64 (n:Int))).run P w=.ok (n:Int) w:=rfl
   rw [ag hai,hfi]
   simp only
   rw [hmod,show clSet L k clock=clock by unfold clSet;rw [hn]]
   exact gE q1
  show (do Instr.entryStore t (.map (some rr)) (.int .i64 (n:Int)) (a.eval y);pure Next.skip:Sem Next).run P w=_
  rw [ag key]
  rfl
 ·have ex':a.eval x=ρ' j:=aU h0 hx'
  have ey:v.rep ρ' M (a.eval y):=aU h0 hy'
  exact h0.heap.mapSet hj' (by rw [← ex',ex,e1]) q1 (by rw [← hv];exact A1.norm_rep ey) h1
def fitF (F:FS) (x:A1):Bool:=match lZ x with
 | true=>true
 | false=>singleF F x.cells
def fillF (F:FS) (pl:Nat→Option (Nat×Nat)):List Cell→List Nat→List A1→Option (List Cell)
 | cs,[],[]=>some cs
 | cs,i :: is,x :: r=>match pl i with
  | some (off,size)=>match fitF F x with
   | true=>match Nat.beq x.cells.length size with
    | true=>match Nat.ble (off+size) cs.length with
     | true=>fillF F pl (setCells cs off x.cells) is r
     | false=>none
    | false=>none
   | false=>none
  | none=>none
 | _,_,_=>none
def buildF (P:Program) (F:FS) (t:TypeId) (is:List Nat) (ps:List A1):Option A1 :=
 match zeroCells P t with
 | some z=>match place P t with
  | some pl=>match fillF F pl (z.map zcell) is ps with
   | some cs=>some (.agg cs)
   | none=>none
  | none=>none
 | none=>none
theorem qC {F:FS} {ρ:Env} {M:Mem} {w:World} (hF:RelW C F.bl ρ M w) {pl:Nat→Option (Nat×Nat)}:∀ (is:List Nat) (ps:List A1) (us:List Value) (cs cs':List Cell) (vs:List Value),fillF F pl cs is ps=some cs'→A1.reps ρ M ps us→Reps ρ M cs vs →
  ∃ vs',Instr.fill pl vs.toArray (is.zip us)=some vs'.toArray∧Reps ρ M cs' vs'
 | [],[],[],cs,cs',vs,h,_,hr=>by simp [fillF] at h;subst h;exact ⟨vs,rfl,hr⟩
 | [],[],_ :: _,_,_,_,_,hp,_=>hp.elim
 | i :: is,x :: r,[],_,_,_,_,hp,_=>hp.elim
 | i :: is,x :: r,u :: us,cs,cs',vs,h,hp,hr=>by
  simp only [fillF] at h
  split at h
  ·rename_i off size hpl
   split at h
   ·rename_i hpn
    split at h
    ·rename_i hl
     split at h
     ·rename_i hle
      have hl':x.cells.length=size:=Nat.eq_of_beq_eq_true hl
      have hle':=Nat.le_of_ble_eq_true hle
      have hc:Reps ρ M x.cells u.cells.toList:=by
       unfold fitF at hpn
       split at hpn
       ·rename_i e;exact A1.cells_rep e hp.1
       ·exact lL hF hpn hp.1
      have hcl:=hc.len
      have hvl:=hr.len
      simp only [List.zip_cons_cons,Instr.fill,hpl]
      rw [if_neg (by
       have:u.cells.size=size:=by simpa [hl'] using hcl
       simp [this,hvl];omega),sU]
      exact qC hF is r us (setCells cs off x.cells) cs' _ h hp.2 (by simpa using Reps.setMany off hc hr)
     ·cases h
    ·cases h
   ·cases h
  ·cases h
 | [],_ :: _,_,_,_,_,h,_,_=>by simp [fillF] at h
 | _ :: _,[],_,_,_,_,h,_,_=>by simp [fillF] at h
theorem um {F:FS} {ρ:Env} {M:Mem} {w:World} (hF:RelW C F.bl ρ M w) {t:TypeId} {is:List Nat} {ps:List A1} {us:List Value} {x:A1} (h:buildF P F t is ps=some x) (hp:A1.reps ρ M ps us) :
  ∃ u,(Instr.build t (is.zip us).toArray).run P w=.ok u w∧x.rep ρ M u:=by
 unfold buildF at h
 split at h
 ·rename_i z hz
  split at h
  ·rename_i pl hpl
   split at h
   ·rename_i cs hcs
    cases h
    obtain ⟨zv,hzv,hzc⟩:=eH hz w
    obtain ⟨vs',hf,hr'⟩:=qC hF is ps us _ _ z hcs hp (Reps.zero z)
    refine ⟨.agg vs'.toArray,?_,_,rfl,hr'⟩
    unfold Instr.build
    rw [ag hzv]
    unfold place at hpl
    split at hpl
    ·rename_i fs hu
     split at hpl
     ·rename_i l hl
      cases hpl
      have hun:(underlying t).run P w=.ok (.struct fs) w:=by simp [underlying,program,Sem.run,hu]
      rw [ag hun]
      simp only
      have hm:(fs.mapM fun f=>(do pure (f.offset,← sizeOf f.type):Sem (Nat×Nat))).run P w=.ok l.toArray w:=by
       rw [← Array.toArray_toList (xs:=fs),List.mapM_toArray,Sem.run_map]
       have:=ju fs.toList l hl w
       rw [this];rfl
      rw [ag hm]
      have e1:(fun i:Nat=>l.toArray[i]?)=(fun i:Nat=>l[i]?):=by funext i;simp
      simp only [e1,hzc,hf]
      rfl
     ·cases hpl
    ·rename_i n e hu
     split at hpl
     ·rename_i i hi
      cases hpl
      have hun:(underlying t).run P w=.ok (.array n e) w:=by simp [underlying,program,Sem.run,hu]
      rw [ag hun]
      simp only
      have hm:(sizeOf e).run P w=.ok i.size w:=by simp [sizeOf,typeInfo,program,Sem.run,hi,bind,Sem.bind,pure]
      rw [ag hm]
      simp only [hzc,hf]
      rfl
     ·cases hpl
    ·cases hpl
   ·cases h
  ·cases h
 ·cases h
def ownsAll:List A1→List Nat
 | []=>[]
 | x :: r=>ownsC x.cells++ownsAll r
theorem oe {F F':FS} {pl:Nat→Option (Nat×Nat)}:∀ (is:List Nat) (ps:List A1) (cs cs':List Cell),(∀ j∈ownsAll ps,F'.bl j=F.bl j)→fillF F pl cs is ps=some cs'→fillF F' pl cs is ps=some cs'
 | [],[],cs,cs',_,h=>h
 | i :: is,x :: r,cs,cs',hb,h=>by
  simp only [fillF] at h ⊢
  split at h
  ·rename_i off size hpl
   split at h
   ·rename_i hpn
    have:fitF F' x=true:=by
     unfold fitF at hpn ⊢
     cases e:lZ x with
     | true=>rfl
     | false =>
      rw [e] at hpn
      exact fJ (fun k hk=>hb k (by simp [ownsAll,hk])) hpn
    rw [this]
    split at h
    ·rename_i hl
     split at h
     ·rename_i hle
      exact oe is r _ _ (fun k hk=>hb k (by simp [ownsAll,hk])) h
     ·cases h
    ·cases h
   ·cases h
  ·cases h
 | [],_ :: _,_,_,_,h=>by simp [fillF] at h
 | _ :: _,[],_,_,_,h=>by simp [fillF] at h
theorem pM {t:TypeId} {parts:Array (Nat×Operand)} {ps:List A1} {x:A1} (hps:rds F (parts.toList.map (·.2))=some ps) (h:buildF P F t (parts.toList.map (·.1)) ps=some x) (hs:sideOk F true (parts.toList.map (·.2))) (hd:Nat.blt dst C.n=true) :
  TriL P C ops ⟨some dst,.build t parts,ty,pos,after,none⟩ ⟨slotsOf (parts.toList.map (·.2)),ownsAll ps,[dst],[]⟩ [(dst,.s x)] [] F:=by
 refine ⟨⟨rfl,rfl⟩,fun F' hS=>?_⟩
 have h1:=aG hS.1
 have h':buildF P F' t (parts.toList.map (·.1)) ps=some x:=by
  unfold buildF at h ⊢
  split at h
  ·rename_i z hz
   split at h
   ·rename_i pl hpl
    split at h
    ·rename_i cs hcs
     rw [oe _ _ _ _ (fun k hk=>hS.2 k hk) hcs];exact h
    ·cases h
   ·cases h
  ·cases h
 refine bC rfl rfl hd (fun ρ M a w hr=>?_)
 have hR:=aR hr rfl (aC h1 hs)
 obtain ⟨u,g1,g2⟩:=um (P:=P) hr.heap h' (iw hR ((fy h1).trans hps))
 refine ⟨u,?_,g2⟩
 unfold execOp
 simp only
 rw [kG]
 exact aA g1
def kPair (k:IntKind) (x:Int×Int):Value:=.agg #[.int k x.1,.int k x.2]
end Go.E2
end
section
namespace Go.Proofs.YtfoigppmcelgfaaGreatDoor
open Go Go.E2
theorem yg:Entry Tryz.prog 9:=⟨_,Tryz.func9,by kernel_rfl,by kernel_rfl⟩
theorem zl:Entry Tryz.prog 15:=⟨_,Tryz.func15,by kernel_rfl,by kernel_rfl⟩
theorem zk:Entry Tryz.prog 16:=⟨_,Tryz.func16,by kernel_rfl,by kernel_rfl⟩
theorem zj:Entry Tryz.prog 17:=⟨_,Tryz.func17,by kernel_rfl,by kernel_rfl⟩
theorem zi:Entry Tryz.prog 18:=⟨_,Tryz.func18,by kernel_rfl,by kernel_rfl⟩
theorem zh:Entry Tryz.prog 19:=⟨_,Tryz.func19,by kernel_rfl,by kernel_rfl⟩
theorem zg:Entry Tryz.prog 20:=⟨_,Tryz.func20,by kernel_rfl,by kernel_rfl⟩
theorem pj:Entry Tryz.prog 21:=⟨_,Tryz.func21,by kernel_rfl,by kernel_rfl⟩
theorem wd:Entry Tryz.prog 22:=⟨_,Tryz.func22,by kernel_rfl,by kernel_rfl⟩
theorem zf:Entry Tryz.prog 23:=⟨_,Tryz.func23,by kernel_rfl,by kernel_rfl⟩
theorem ze:Entry Tryz.prog 24:=⟨_,Tryz.func24,by kernel_rfl,by kernel_rfl⟩
theorem zd:Entry Tryz.prog 25:=⟨_,Tryz.func25,by kernel_rfl,by kernel_rfl⟩
theorem wc:Entry Tryz.prog 34:=⟨_,Tryz.func34,by kernel_rfl,by kernel_rfl⟩
theorem wa:Entry Tryz.prog 35:=⟨_,Tryz.func35,by kernel_rfl,by kernel_rfl⟩
theorem v9:Entry Tryz.prog 36:=⟨_,Tryz.func36,by kernel_rfl,by kernel_rfl⟩
theorem v8:Entry Tryz.prog 39:=⟨_,Tryz.func39,by kernel_rfl,by kernel_rfl⟩
theorem v7:Entry Tryz.prog 43:=⟨_,Tryz.func43,by kernel_rfl,by kernel_rfl⟩
theorem zc:Entry Tryz.prog 44:=⟨_,Tryz.func44,by kernel_rfl,by kernel_rfl⟩
theorem rR:Entry Tryz.prog 45:=⟨_,Tryz.func45,by kernel_rfl,by kernel_rfl⟩
theorem zb:Entry Tryz.prog 48:=⟨_,Tryz.func48,by kernel_rfl,by kernel_rfl⟩
theorem za:Entry Tryz.prog 50:=⟨_,Tryz.func50,by kernel_rfl,by kernel_rfl⟩
theorem ph:Entry Tryz.prog 54:=⟨_,Tryz.func54,by kernel_rfl,by kernel_rfl⟩
theorem pg:Entry Tryz.prog 55:=⟨_,Tryz.func55,by kernel_rfl,by kernel_rfl⟩
theorem v6:Entry Tryz.prog 56:=⟨_,Tryz.func56,by kernel_rfl,by kernel_rfl⟩
theorem y9:Entry Tryz.prog 57:=⟨_,Tryz.func57,by kernel_rfl,by kernel_rfl⟩
theorem v5:Entry Tryz.prog 58:=⟨_,Tryz.func58,by kernel_rfl,by kernel_rfl⟩
theorem vZ:Entry Tryz.prog 59:=⟨_,Tryz.func59,by kernel_rfl,by kernel_rfl⟩
theorem vY:Entry Tryz.prog 60:=⟨_,Tryz.func60,by kernel_rfl,by kernel_rfl⟩
theorem vX:Entry Tryz.prog 61:=⟨_,Tryz.func61,by kernel_rfl,by kernel_rfl⟩
theorem vW:Entry Tryz.prog 62:=⟨_,Tryz.func62,by kernel_rfl,by kernel_rfl⟩
theorem y8:Entry Tryz.prog 63:=⟨_,Tryz.func63,by kernel_rfl,by kernel_rfl⟩
theorem y7:Entry Tryz.prog 64:=⟨_,Tryz.func64,by kernel_rfl,by kernel_rfl⟩
theorem vV:Entry Tryz.prog 65:=⟨_,Tryz.func65,by kernel_rfl,by kernel_rfl⟩
theorem y6:Entry Tryz.prog 66:=⟨_,Tryz.func66,by kernel_rfl,by kernel_rfl⟩
theorem rQ:Entry Tryz.prog 67:=⟨_,Tryz.func67,by kernel_rfl,by kernel_rfl⟩
theorem y5:Entry Tryz.prog 68:=⟨_,Tryz.func68,by kernel_rfl,by kernel_rfl⟩
theorem vU:Entry Tryz.prog 69:=⟨_,Tryz.func69,by kernel_rfl,by kernel_rfl⟩
theorem pf:Entry Tryz.prog 70:=⟨_,Tryz.func70,by kernel_rfl,by kernel_rfl⟩
theorem vT:Entry Tryz.prog 75:=⟨_,Tryz.func75,by kernel_rfl,by kernel_rfl⟩
theorem y4:Entry Tryz.prog 76:=⟨_,Tryz.func76,by kernel_rfl,by kernel_rfl⟩
theorem yZ:Entry Tryz.prog 78:=⟨_,Tryz.func78,by kernel_rfl,by kernel_rfl⟩
theorem yY:Entry Tryz.prog 79:=⟨_,Tryz.func79,by kernel_rfl,by kernel_rfl⟩
theorem yX:Entry Tryz.prog 81:=⟨_,Tryz.func81,by kernel_rfl,by kernel_rfl⟩
theorem vS:Entry Tryz.prog 82:=⟨_,Tryz.func82,by kernel_rfl,by kernel_rfl⟩
theorem yW:Entry Tryz.prog 83:=⟨_,Tryz.func83,by kernel_rfl,by kernel_rfl⟩
theorem vR:Entry Tryz.prog 84:=⟨_,Tryz.func84,by kernel_rfl,by kernel_rfl⟩
theorem yV:Entry Tryz.prog 85:=⟨_,Tryz.func85,by kernel_rfl,by kernel_rfl⟩
theorem vQ:Entry Tryz.prog 87:=⟨_,Tryz.func87,by kernel_rfl,by kernel_rfl⟩
theorem vP:Entry Tryz.prog 88:=⟨_,Tryz.func88,by kernel_rfl,by kernel_rfl⟩
theorem vO:Entry Tryz.prog 89:=⟨_,Tryz.func89,by kernel_rfl,by kernel_rfl⟩
theorem yU:Entry Tryz.prog 90:=⟨_,Tryz.func90,by kernel_rfl,by kernel_rfl⟩
theorem rP:Entry Tryz.prog 91:=⟨_,Tryz.func91,by kernel_rfl,by kernel_rfl⟩
theorem lK:Entry Tryz.prog 92:=⟨_,Tryz.func92,by kernel_rfl,by kernel_rfl⟩
theorem rO:Entry Tryz.prog 93:=⟨_,Tryz.func93,by kernel_rfl,by kernel_rfl⟩
theorem yT:Entry Tryz.prog 94:=⟨_,Tryz.func94,by kernel_rfl,by kernel_rfl⟩
theorem yS:Entry Tryz.prog 95:=⟨_,Tryz.func95,by kernel_rfl,by kernel_rfl⟩
theorem vN:Entry Tryz.prog 96:=⟨_,Tryz.func96,by kernel_rfl,by kernel_rfl⟩
theorem yR:Entry Tryz.prog 97:=⟨_,Tryz.func97,by kernel_rfl,by kernel_rfl⟩
theorem vM:Entry Tryz.prog 98:=⟨_,Tryz.func98,by kernel_rfl,by kernel_rfl⟩
theorem yQ:Entry Tryz.prog 99:=⟨_,Tryz.func99,by kernel_rfl,by kernel_rfl⟩
theorem tB:Entry Tryz.prog 100:=⟨_,Tryz.func100,by kernel_rfl,by kernel_rfl⟩
theorem tA:Entry Tryz.prog 101:=⟨_,Tryz.func101,by kernel_rfl,by kernel_rfl⟩
theorem tz:Entry Tryz.prog 102:=⟨_,Tryz.func102,by kernel_rfl,by kernel_rfl⟩
theorem xK:Entry Tryz.prog 103:=⟨_,Tryz.func103,by kernel_rfl,by kernel_rfl⟩
theorem xJ:Entry Tryz.prog 110:=⟨_,Tryz.func110,by kernel_rfl,by kernel_rfl⟩
theorem pr:Entry Tryz.prog 111:=⟨_,Tryz.func111,by kernel_rfl,by kernel_rfl⟩
theorem tw:Entry Tryz.prog 112:=⟨_,Tryz.func112,by kernel_rfl,by kernel_rfl⟩
theorem pq:Entry Tryz.prog 113:=⟨_,Tryz.func113,by kernel_rfl,by kernel_rfl⟩
theorem tu:Entry Tryz.prog 114:=⟨_,Tryz.func114,by kernel_rfl,by kernel_rfl⟩
theorem xI:Entry Tryz.prog 115:=⟨_,Tryz.func115,by kernel_rfl,by kernel_rfl⟩
theorem xH:Entry Tryz.prog 116:=⟨_,Tryz.func116,by kernel_rfl,by kernel_rfl⟩
theorem xG:Entry Tryz.prog 117:=⟨_,Tryz.func117,by kernel_rfl,by kernel_rfl⟩
theorem xF:Entry Tryz.prog 118:=⟨_,Tryz.func118,by kernel_rfl,by kernel_rfl⟩
theorem tt:Entry Tryz.prog 119:=⟨_,Tryz.func119,by kernel_rfl,by kernel_rfl⟩
theorem xE:Entry Tryz.prog 121:=⟨_,Tryz.func121,by kernel_rfl,by kernel_rfl⟩
theorem tq:Entry Tryz.prog 124:=⟨_,Tryz.func124,by kernel_rfl,by kernel_rfl⟩
theorem pp:Entry Tryz.prog 125:=⟨_,Tryz.func125,by kernel_rfl,by kernel_rfl⟩
theorem mz:Entry Tryz.prog 127:=⟨_,Tryz.func127,by kernel_rfl,by kernel_rfl⟩
theorem my:Entry Tryz.prog 128:=⟨_,Tryz.func128,by kernel_rfl,by kernel_rfl⟩
theorem xD:Entry Tryz.prog 129:=⟨_,Tryz.func129,by kernel_rfl,by kernel_rfl⟩
theorem tp:Entry Tryz.prog 130:=⟨_,Tryz.func130,by kernel_rfl,by kernel_rfl⟩
theorem po:Entry Tryz.prog 131:=⟨_,Tryz.func131,by kernel_rfl,by kernel_rfl⟩
theorem xC:Entry Tryz.prog 132:=⟨_,Tryz.func132,by kernel_rfl,by kernel_rfl⟩
theorem tn:Entry Tryz.prog 133:=⟨_,Tryz.func133,by kernel_rfl,by kernel_rfl⟩
theorem tm:Entry Tryz.prog 134:=⟨_,Tryz.func134,by kernel_rfl,by kernel_rfl⟩
theorem xB:Entry Tryz.prog 136:=⟨_,Tryz.func136,by kernel_rfl,by kernel_rfl⟩
theorem pn:Entry Tryz.prog 137:=⟨_,Tryz.func137,by kernel_rfl,by kernel_rfl⟩
theorem xA:Entry Tryz.prog 138:=⟨_,Tryz.func138,by kernel_rfl,by kernel_rfl⟩
theorem xz:Entry Tryz.prog 139:=⟨_,Tryz.func139,by kernel_rfl,by kernel_rfl⟩
theorem xy:Entry Tryz.prog 140:=⟨_,Tryz.func140,by kernel_rfl,by kernel_rfl⟩
theorem pm:Entry Tryz.prog 141:=⟨_,Tryz.func141,by kernel_rfl,by kernel_rfl⟩
theorem xx:Entry Tryz.prog 151:=⟨_,Tryz.func151,by kernel_rfl,by kernel_rfl⟩
theorem tj:Entry Tryz.prog 152:=⟨_,Tryz.func152,by kernel_rfl,by kernel_rfl⟩
theorem xw:Entry Tryz.prog 153:=⟨_,Tryz.func153,by kernel_rfl,by kernel_rfl⟩
theorem xv:Entry Tryz.prog 154:=⟨_,Tryz.func154,by kernel_rfl,by kernel_rfl⟩
theorem xu:Entry Tryz.prog 155:=⟨_,Tryz.func155,by kernel_rfl,by kernel_rfl⟩
theorem xt:Entry Tryz.prog 156:=⟨_,Tryz.func156,by kernel_rfl,by kernel_rfl⟩
theorem ti:Entry Tryz.prog 157:=⟨_,Tryz.func157,by kernel_rfl,by kernel_rfl⟩
theorem th:Entry Tryz.prog 158:=⟨_,Tryz.func158,by kernel_rfl,by kernel_rfl⟩
theorem xr:Entry Tryz.prog 159:=⟨_,Tryz.func159,by kernel_rfl,by kernel_rfl⟩
theorem tg:Entry Tryz.prog 160:=⟨_,Tryz.func160,by kernel_rfl,by kernel_rfl⟩
theorem xq:Entry Tryz.prog 161:=⟨_,Tryz.func161,by kernel_rfl,by kernel_rfl⟩
theorem xp:Entry Tryz.prog 163:=⟨_,Tryz.func163,by kernel_rfl,by kernel_rfl⟩
theorem tf:Entry Tryz.prog 164:=⟨_,Tryz.func164,by kernel_rfl,by kernel_rfl⟩
theorem xo:Entry Tryz.prog 165:=⟨_,Tryz.func165,by kernel_rfl,by kernel_rfl⟩
theorem xn:Entry Tryz.prog 166:=⟨_,Tryz.func166,by kernel_rfl,by kernel_rfl⟩
theorem xm:Entry Tryz.prog 167:=⟨_,Tryz.func167,by kernel_rfl,by kernel_rfl⟩
theorem xl:Entry Tryz.prog 168:=⟨_,Tryz.func168,by kernel_rfl,by kernel_rfl⟩
theorem xk:Entry Tryz.prog 170:=⟨_,Tryz.func170,by kernel_rfl,by kernel_rfl⟩
theorem te:Entry Tryz.prog 171:=⟨_,Tryz.func171,by kernel_rfl,by kernel_rfl⟩
theorem td:Entry Tryz.prog 172:=⟨_,Tryz.func172,by kernel_rfl,by kernel_rfl⟩
theorem tc:Entry Tryz.prog 180:=⟨_,Tryz.func180,by kernel_rfl,by kernel_rfl⟩
theorem xj:Entry Tryz.prog 181:=⟨_,Tryz.func181,by kernel_rfl,by kernel_rfl⟩
theorem xi:Entry Tryz.prog 182:=⟨_,Tryz.func182,by kernel_rfl,by kernel_rfl⟩
theorem xh:Entry Tryz.prog 183:=⟨_,Tryz.func183,by kernel_rfl,by kernel_rfl⟩
theorem ta:Entry Tryz.prog 184:=⟨_,Tryz.func184,by kernel_rfl,by kernel_rfl⟩
theorem xg:Entry Tryz.prog 186:=⟨_,Tryz.func186,by kernel_rfl,by kernel_rfl⟩
theorem xf:Entry Tryz.prog 191:=⟨_,Tryz.func191,by kernel_rfl,by kernel_rfl⟩
theorem s0:Entry Tryz.prog 192:=⟨_,Tryz.func192,by kernel_rfl,by kernel_rfl⟩
theorem xe:Entry Tryz.prog 193:=⟨_,Tryz.func193,by kernel_rfl,by kernel_rfl⟩
theorem xd:Entry Tryz.prog 194:=⟨_,Tryz.func194,by kernel_rfl,by kernel_rfl⟩
theorem xc:Entry Tryz.prog 195:=⟨_,Tryz.func195,by kernel_rfl,by kernel_rfl⟩
theorem pk:Entry Tryz.prog 199:=⟨_,Tryz.func199,by kernel_rfl,by kernel_rfl⟩
theorem sZ:Entry Tryz.prog 200:=⟨_,Tryz.func200,by kernel_rfl,by kernel_rfl⟩
theorem xb:Entry Tryz.prog 205:=⟨_,Tryz.func205,by kernel_rfl,by kernel_rfl⟩
theorem sY:Entry Tryz.prog 211:=⟨_,Tryz.func211,by kernel_rfl,by kernel_rfl⟩
theorem sX:Entry Tryz.prog 212:=⟨_,Tryz.func212,by kernel_rfl,by kernel_rfl⟩
theorem w9:Entry Tryz.prog 215:=⟨_,Tryz.func215,by kernel_rfl,by kernel_rfl⟩
theorem w8:Entry Tryz.prog 216:=⟨_,Tryz.func216,by kernel_rfl,by kernel_rfl⟩
theorem w7:Entry Tryz.prog 217:=⟨_,Tryz.func217,by kernel_rfl,by kernel_rfl⟩
theorem w6:Entry Tryz.prog 218:=⟨_,Tryz.func218,by kernel_rfl,by kernel_rfl⟩
theorem pi:Entry Tryz.prog 219:=⟨_,Tryz.func219,by kernel_rfl,by kernel_rfl⟩
theorem ja:Entry Tryz.prog 220:=⟨_,Tryz.func220,by kernel_rfl,by kernel_rfl⟩
theorem sW:Entry Tryz.prog 221:=⟨_,Tryz.func221,by kernel_rfl,by kernel_rfl⟩
end Go.Proofs.YtfoigppmcelgfaaGreatDoor
end
section
namespace Go.Proofs.YtfoigppmcelgfaaGreatDoor
open Go Go.E2
structure AValue where
 Kind:Int
 N:Int
 S:Str
 L:(List AValue)
instance :Inhabited AValue:=⟨⟨0,0,ByteArray.empty,([]:(List AValue))⟩⟩
mutual
def AValue.cs:AValue→List D
 | ⟨v0,v1,v2,v3⟩=>[dI v0,dI v1,dS v2,.sl (AValue.csL v3)]
def AValue.csL:List AValue→List (List D)
 | []=>[]
 | x :: r=>AValue.cs x :: AValue.csL r
end
theorem AValue.csL_eq:∀ l,AValue.csL l=List.map AValue.cs l
 | []=>by unfold AValue.csL;rfl
 | x :: r=>by unfold AValue.csL;rw [AValue.csL_eq r];rfl
theorem AValue.cs_eq (x:AValue):x.cs=[dI x.Kind,dI x.N,dS x.S,.sl (List.map AValue.cs x.L)]:=by
 cases x
 conv=>lhs;unfold AValue.cs
 simp only [AValue.csL_eq]
structure Attr where
 Name:Str
 Value:AValue
deriving Inhabited
def Attr.cs (x:Attr):List Go.E2.D:=[dS x.Name,dI x.Value.Kind,dI x.Value.N,dS x.Value.S,.sl (List.map AValue.cs x.Value.L)]
structure Action where
 Event:Str
 Instance:Str
 Handler:Str
 Args:(List AValue)
deriving Inhabited
def Action.cs (x:Action):List Go.E2.D:=[dS x.Event,dS x.Instance,dS x.Handler,.sl (List.map AValue.cs x.Args)]
structure View where
 Kind:Int
 Key:Str
 Attrs:(List Attr)
 Actions:(List Action)
 Kids:(List View)
instance :Inhabited View:=⟨⟨0,ByteArray.empty,([]:(List Attr)),([]:(List Action)),([]:(List View))⟩⟩
mutual
def View.cs:View→List D
 | ⟨v0,v1,v2,v3,v4⟩=>[dI v0,dS v1,.sl (List.map Attr.cs v2),.sl (List.map Action.cs v3),.sl (View.csL v4)]
def View.csL:List View→List (List D)
 | []=>[]
 | x :: r=>View.cs x :: View.csL r
end
theorem View.csL_eq:∀ l,View.csL l=List.map View.cs l
 | []=>by unfold View.csL;rfl
 | x :: r=>by unfold View.csL;rw [View.csL_eq r];rfl
theorem View.cs_eq (x:View):x.cs=[dI x.Kind,dS x.Key,.sl (List.map Attr.cs x.Attrs),.sl (List.map Action.cs x.Actions),.sl (List.map View.cs x.Kids)]:=by
 cases x
 conv=>lhs;unfold View.cs
 simp only [View.csL_eq]
structure Node where
 ID:Int
 Parent:Int
 Kind:Int
 Key:Str
 Attrs:(List Attr)
 Actions:(List Action)
 Kids:(List Int)
deriving Inhabited
def Node.cs (x:Node):List Go.E2.D:=[dI x.ID,dI x.Parent,dI x.Kind,dS x.Key,.sl (List.map Attr.cs x.Attrs),.sl (List.map Action.cs x.Actions),.sl (List.map (eInt .i64) x.Kids)]
structure Tree where
 Root:Int
 Next:Int
 Nodes:(List Node)
deriving Inhabited
def Tree.cs (x:Tree):List Go.E2.D:=[dI x.Root,dI x.Next,.sl (List.map Node.cs x.Nodes)]
structure AType where
 Kind:Int
 Of:(List AType)
instance :Inhabited AType:=⟨⟨0,([]:(List AType))⟩⟩
mutual
def AType.cs:AType→List D
 | ⟨v0,v1⟩=>[dI v0,.sl (AType.csL v1)]
def AType.csL:List AType→List (List D)
 | []=>[]
 | x :: r=>AType.cs x :: AType.csL r
end
theorem AType.csL_eq:∀ l,AType.csL l=List.map AType.cs l
 | []=>by unfold AType.csL;rfl
 | x :: r=>by unfold AType.csL;rw [AType.csL_eq r];rfl
theorem AType.cs_eq (x:AType):x.cs=[dI x.Kind,.sl (List.map AType.cs x.Of)]:=by
 cases x
 conv=>lhs;unfold AType.cs
 simp only [AType.csL_eq]
def gi (c:Int):Option Bool:=some (((decide (c≥97))&&(decide (c≤122)))||((decide (c≥65))&&(decide (c≤90))))
def i4 (p_s:Str) (k5:Unit→Option Bool) (again7:Int→Option Bool) (s6:Int):Option Bool:=sel (decide (s6<(p_s.size:Int))) ((sidxO p_s s6).bind fun x9=>(gi x9).bind fun x10=>(gO (!x10) (sidxO p_s s6)).bind fun x11=>(gO ((!x10)&&!(decide (x11<48))) (sidxO p_s s6)).bind fun x12=>(gO ((!x10)&&((decide (x11<48))||(decide (x12>57)))) (sidxO p_s s6)).bind fun x13=>(gO (((!x10)&&((decide (x11<48))||(decide (x12>57))))&&(x13 != 45)) (sidxO p_s s6)).bind fun x14=>sel ((((!x10)&&((decide (x11<48))||(decide (x12>57))))&&(x13 != 45))&&(x14 != 95)) (some false) (again7 (IntKind.i64.wrap (s6+1)))) (k5 ())
def i5 (p_s:Str):Option Bool:=(gO (!((decide ((p_s.size:Int)<1))||(decide ((p_s.size:Int)>24)))) (sidxO p_s 0)).bind fun x1=>(gO (!((decide ((p_s.size:Int)<1))||(decide ((p_s.size:Int)>24)))) (gi x1)).bind fun x2=>sel (((decide ((p_s.size:Int)<1))||(decide ((p_s.size:Int)>24)))||(!x2)) (some false) (jn (fun (_s4:Unit)=>some true) fun k5=>loopK (i4 p_s k5) N0 1)
def j0 (p_s:Str) (k3:Unit→Option Bool) (again5:Int→Option Bool) (s4:Int):Option Bool:=sel (decide (s4<(p_s.size:Int))) ((sidxO p_s s4).bind fun x7=>sel ((!(((decide (x7≥97))&&(decide (x7≤122)))||((decide (x7≥65))&&(decide (x7≤90)))))&&((s4==0)||((((decide (x7<48))||(decide (x7>57)))&&(x7 != 45))&&(x7 != 95)))) (some false) (again5 (IntKind.i64.wrap (s4+1)))) (k3 ())
def kB (p_s:Str):Option Bool:=sel (((p_s.size:Int)==0)||(decide ((p_s.size:Int)>24))) (some false) (jn (fun (_s2:Unit)=>some true) fun k3=>loopK (j0 p_s k3) N0 0)
def nW (p_s:Str) (k2:Unit→Option Bool) (again4:Int→Option Bool) (s3:Int):Option Bool:=sel (decide (s3<(p_s.size:Int))) ((sidxO p_s s3).bind fun x6=>sel ((((((decide (x6<97))||(decide (x6>122)))&&((decide (x6<65))||(decide (x6>90))))&&((decide (x6<48))||(decide (x6>57))))&&(x6 != 45))&&(x6 != 95)) (some false) (again4 (IntKind.i64.wrap (s3+1)))) (k2 ())
def oQ (p_s:Str):Option Bool:=jn (fun (_s1:Unit)=>some (decide ((p_s.size:Int)≤24))) fun k2=>loopK (nW p_s k2) N0 0
def mX (p_s:Str):Option Bool:=(oQ p_s).bind fun x1=>some x1
def kJ (p_s:Str) (k2:Unit→Option Bool) (again4:Int→Option Bool) (s3:Int):Option Bool:=sel (decide (s3<(p_s.size:Int))) ((sidxO p_s s3).bind fun x6=>sel ((((((decide (x6<97))||(decide (x6>122)))&&((decide (x6<65))||(decide (x6>90))))&&((decide (x6<48))||(decide (x6>57))))&&(x6 != 45))&&(x6 != 95)) (some false) (again4 (IntKind.i64.wrap (s3+1)))) (k2 ())
def nL (p_s:Str):Option Bool:=jn (fun (_s1:Unit)=>some (decide ((p_s.size:Int)≤24))) fun k2=>loopK (kJ p_s k2) N0 0
def lc (p_s:Str):Option Bool:=some ((ofRunes (runes p_s)).toList==p_s.toList)
def jE (v:AValue):Option Bool:=jn (fun (s1:Bool)=>sel s1 (some ((v.S.toList==(ByteArray.mk #[]).toList)&&((v.L.length:Int)==0))) (sel (v.Kind==3) (some ((v.N==0)&&((v.L.length:Int)==0))) (sel (v.Kind==4) (some ((v.N==0)&&(v.S.toList==(ByteArray.mk #[]).toList))) (some false)))) fun k2=>sel (v.Kind==1) (k2 (v.Kind==1)) (k2 (v.Kind==2))
def fb (p_n:Int):Option Bool:=some ((decide (p_n≥(-1099511627776)))&&(decide (p_n≤1099511627776)))
def aJ (p_s:Str):Option Int:=(sidxO p_s 0).bind fun x2=>(sidxO p_s 1).bind fun x3=>(sidxO p_s 2).bind fun x4=>(sidxO p_s 3).bind fun x5=>(sidxO p_s 4).bind fun x6=>(sidxO p_s 5).bind fun x7=>(sidxO p_s 6).bind fun x8=>(sidxO p_s 7).bind fun x9=>some (bOr .u64 (bOr .u64 (bOr .u64 (bOr .u64 (bOr .u64 (bOr .u64 (bOr .u64 (IntKind.u64.wrap x2) (bShl .u64 (IntKind.u64.wrap x3) 8)) (bShl .u64 (IntKind.u64.wrap x4) 16)) (bShl .u64 (IntKind.u64.wrap x5) 24)) (bShl .u64 (IntKind.u64.wrap x6) 32)) (bShl .u64 (IntKind.u64.wrap x7) 40)) (bShl .u64 (IntKind.u64.wrap x8) 48)) (bShl .u64 (IntKind.u64.wrap x9) 56))
def a8 (k12:Str→Option Bool) (again22:Str→Option Bool) (s21:Str):Option Bool:=(gO (decide ((s21.size:Int)>32)) (aJ s21)).bind fun x23=>(gO (decide ((s21.size:Int)>32)) (sslcO s21 8 (s21.size:Int))).bind fun x24=>(gO (decide ((s21.size:Int)>32)) (aJ x24)).bind fun x25=>(gO (decide ((s21.size:Int)>32)) (sslcO s21 16 (s21.size:Int))).bind fun x26=>(gO (decide ((s21.size:Int)>32)) (aJ x26)).bind fun x27=>(gO (decide ((s21.size:Int)>32)) (sslcO s21 24 (s21.size:Int))).bind fun x28=>(gO (decide ((s21.size:Int)>32)) (aJ x28)).bind fun x29=>sel ((decide ((s21.size:Int)>32))&&((bAnd .u64 (bOr .u64 (bOr .u64 x23 x25) (bOr .u64 x27 x29)) 9259542123273814144)==0)) ((sslcO s21 32 (s21.size:Int)).bind fun x31=>again22 x31) (k12 s21)
def bk (k2:Unit→Option Bool) (again4:Str→Option Bool) (s3:Str):Option Bool:=sel (decide ((s3.size:Int)>0)) (jn (fun (s6:Str)=>again4 s6) fun k7=>(sidxO s3 0).bind fun x8=>sel (decide (x8<128)) ((sslcO s3 1 (s3.size:Int)).bind fun x10=>jn (fun (s11:Str)=>k7 s11) fun k12=>(gO (decide ((x10.size:Int)>8)) (aJ x10)).bind fun x13=>sel ((decide ((x10.size:Int)>8))&&((bAnd .u64 x13 9259542123273814144)==0)) ((sslcO x10 8 (x10.size:Int)).bind fun x15=>(gO (decide ((x15.size:Int)>16)) (aJ x15)).bind fun x16=>(gO (decide ((x15.size:Int)>16)) (sslcO x15 8 (x15.size:Int))).bind fun x17=>(gO (decide ((x15.size:Int)>16)) (aJ x17)).bind fun x18=>sel ((decide ((x15.size:Int)>16))&&((bAnd .u64 (bOr .u64 x16 x18) 9259542123273814144)==0)) ((sslcO x15 16 (x15.size:Int)).bind fun x20=>loopK (a8 k12) N0 x20) (k12 x15)) (k12 x10)) ((idxO utf8First x8).bind fun x32=>(idxO utf8Accept (bShr .u8 x32 4)).bind fun x33=>sel ((IntKind.i64.wrap (bAnd .u8 x32 7))==2) ((gO (!(decide ((s3.size:Int)<2))) (sidxO s3 1)).bind fun x35=>(gO (!((decide ((s3.size:Int)<2))||(decide (x35<x33.1)))) (sidxO s3 1)).bind fun x36=>sel (((decide ((s3.size:Int)<2))||(decide (x35<x33.1)))||(decide (x33.2<x36))) (some false) ((sslcO s3 2 (s3.size:Int)).bind fun x38=>k7 x38)) (sel ((IntKind.i64.wrap (bAnd .u8 x32 7))==3) ((gO (!(decide ((s3.size:Int)<3))) (sidxO s3 1)).bind fun x40=>(gO (!((decide ((s3.size:Int)<3))||(decide (x40<x33.1)))) (sidxO s3 1)).bind fun x41=>(gO (!(((decide ((s3.size:Int)<3))||(decide (x40<x33.1)))||(decide (x33.2<x41)))) (sidxO s3 2)).bind fun x42=>(gO (!((((decide ((s3.size:Int)<3))||(decide (x40<x33.1)))||(decide (x33.2<x41)))||(decide (x42<128)))) (sidxO s3 2)).bind fun x43=>sel (((((decide ((s3.size:Int)<3))||(decide (x40<x33.1)))||(decide (x33.2<x41)))||(decide (x42<128)))||(decide (191<x43))) (some false) ((sslcO s3 3 (s3.size:Int)).bind fun x45=>k7 x45)) (sel ((IntKind.i64.wrap (bAnd .u8 x32 7))==4) ((gO (!(decide ((s3.size:Int)<4))) (sidxO s3 1)).bind fun x47=>(gO (!((decide ((s3.size:Int)<4))||(decide (x47<x33.1)))) (sidxO s3 1)).bind fun x48=>(gO (!(((decide ((s3.size:Int)<4))||(decide (x47<x33.1)))||(decide (x33.2<x48)))) (sidxO s3 2)).bind fun x49=>(gO (!((((decide ((s3.size:Int)<4))||(decide (x47<x33.1)))||(decide (x33.2<x48)))||(decide (x49<128)))) (sidxO s3 2)).bind fun x50=>(gO (!(((((decide ((s3.size:Int)<4))||(decide (x47<x33.1)))||(decide (x33.2<x48)))||(decide (x49<128)))||(decide (191<x50)))) (sidxO s3 3)).bind fun x51=>(gO (!((((((decide ((s3.size:Int)<4))||(decide (x47<x33.1)))||(decide (x33.2<x48)))||(decide (x49<128)))||(decide (191<x50)))||(decide (x51<128)))) (sidxO s3 3)).bind fun x52=>sel (((((((decide ((s3.size:Int)<4))||(decide (x47<x33.1)))||(decide (x33.2<x48)))||(decide (x49<128)))||(decide (191<x50)))||(decide (x51<128)))||(decide (191<x52))) (some false) ((sslcO s3 4 (s3.size:Int)).bind fun x54=>k7 x54)) (some false))))) (k2 ())
def bO (p_s:Str):Option Bool:=jn (fun (_s1:Unit)=>some true) fun k2=>loopK (bk k2) N0 p_s
def gS (t:AType):Option AType:=some (AType.mk 4 ([t]))
def iK (self0:AType→AType→Option (AType×Bool)) (a:AType) (b:AType):Option (AType×Bool):=sel (a.Kind != b.Kind) (some ((AType.mk 0 ([]:(List AType))),false)) (sel ((a.Of.length:Int)==0) (some (b,true)) (sel ((b.Of.length:Int)==0) (some (a,true)) ((idxO a.Of 0).bind fun x4=>(idxO b.Of 0).bind fun x5=>(self0 x4 x5).bind fun x6=>sel (!x6.2) (some ((AType.mk 0 ([]:(List AType))),false)) ((gS x6.1).bind fun x8=>some (x8,true)))))
def dT:Nat→AType→AType→Option (AType×Bool)
 | 0,_,_=>none
 | n+1,a,b=>iK (dT n) a b
def dC (k4:(Int×(List AType))→Option (AType×Bool)) (x6:(List AType)) (again8:(Int×Int×(List AType))→Option (AType×Bool)) (s7:Int×Int×(List AType)):Option (AType×Bool):=sel (decide (s7.1<(x6.length:Int))) ((idxO x6 s7.1).bind fun x10=>(dT N0 (AType.mk s7.2.1 s7.2.2) x10).bind fun x11=>sel (!x11.2) (some ((AType.mk 0 ([]:(List AType))),false)) (again8 (IntKind.i64.wrap (s7.1+1),x11.1.Kind,x11.1.Of))) (k4 (s7.2.1,s7.2.2))
def fP (l:(List AType)):Option (AType×Bool):=sel ((l.length:Int)==0) (some ((AType.mk 4 ([]:(List AType))),true)) ((idxO l 0).bind fun x2=>jn (fun (s3:Int×(List AType))=>(gS (AType.mk s3.1 s3.2)).bind fun x5=>some (x5,true)) fun k4=>(slcO l 1 (l.length:Int)).bind fun x6=>loopK (dC k4 x6) N0 (0,x2.Kind,x2.Of))
def bN (self0:AValue→Int→Int→Option (AType×Int×Int)) (v:AValue) (depth:Int) (k12:((List AType)×Int)→Option (AType×Int×Int)) (again16:((List AType)×Int×Int)→Option (AType×Int×Int)) (s15:(List AType)×Int×Int):Option (AType×Int×Int):=sel (decide (s15.2.1<(v.L.length:Int))) ((idxO v.L s15.2.1).bind fun x18=>(self0 x18 (IntKind.i64.wrap (depth+1)) s15.2.2).bind fun x19=>sel (x19.2.1 != 0) (some ((AType.mk 0 ([]:(List AType))),x19.2.1,x19.2.2)) ((appO s15.1 ([x19.1])).bind fun x21=>again16 (x21,IntKind.i64.wrap (s15.2.1+1),x19.2.2))) (k12 (s15.1,s15.2.2))
def cV (self0:AValue→Int→Int→Option (AType×Int×Int)) (v:AValue) (depth:Int) (p_n:Int):Option (AType×Int×Int):=sel ((v.Kind==4)&&(decide (depth≥16))) (some ((AType.mk 0 ([]:(List AType))),8,p_n)) ((jE v).bind fun x2=>sel (!x2) (some ((AType.mk 0 ([]:(List AType))),9,IntKind.i64.wrap (p_n+1))) (jn (fun (s4:Bool)=>sel s4 (some ((AType.mk 0 ([]:(List AType))),1,IntKind.i64.wrap (p_n+1))) (sel (((decide ((v.S.size:Int)>2000))||(decide ((v.L.length:Int)>100)))||(decide ((IntKind.i64.wrap (p_n+1))>1000))) (some ((AType.mk 0 ([]:(List AType))),2,IntKind.i64.wrap (p_n+1))) ((bO v.S).bind fun x8=>sel (!x8) (some ((AType.mk 0 ([]:(List AType))),3,IntKind.i64.wrap (p_n+1))) (sel (v.Kind != 4) (some ((AType.mk v.Kind ([]:(List AType))),0,IntKind.i64.wrap (p_n+1))) (jn (fun (s11:(List AType)×Int)=>(fP s11.1).bind fun x13=>sel (!x13.2) (some ((AType.mk 0 ([]:(List AType))),5,s11.2)) (some (x13.1,0,s11.2))) fun k12=>loopK (bN self0 v depth k12) N0 (([]:(List AType)),0,IntKind.i64.wrap (p_n+1))))))) fun k5=>(gO (v.Kind==1) (fb v.N)).bind fun x22=>sel ((v.Kind==1)&&(!x22)) (k5 ((v.Kind==1)&&(!x22))) (k5 (((v.Kind==2)&&(v.N != 0))&&(v.N != 1)))))
def cv:Nat→AValue→Int→Int→Option (AType×Int×Int)
 | 0,_,_,_=>none
 | n+1,v,depth,p_n=>cV (cv n) v depth p_n
def fc (self0:AType→Option AType) (t:AType):Option AType:=sel ((t.Of.length:Int)==0) (some (AType.mk t.Kind ([]:(List AType)))) ((idxO t.Of 0).bind fun x2=>(self0 x2).bind fun x3=>(gS x3).bind fun x4=>some x4)
def dA:Nat→AType→Option AType
 | 0,_=>none
 | n+1,t=>fc (dA n) t
def iL (v:AValue):Option (AType×Int):=(cv N0 v 0 0).bind fun x1=>sel (x1.2.1 != 0) (some ((AType.mk 0 ([]:(List AType))),x1.2.1)) ((dA N0 x1.1).bind fun x3=>some (x3,0))
def fF (v:AValue):Option Int:=(iL v).bind fun x1=>some x1.2
end Go.Proofs.YtfoigppmcelgfaaGreatDoor
end
section
namespace Go.Proofs.YtfoigppmcelgfaaGreatDoor
open Go Go.E2
def dZ (l:(List Attr)) (k2:Unit→Option Int) (again4:Int→Option Int) (s3:Int):Option Int:=sel (decide (s3<(l.length:Int))) ((idxO l s3).bind fun x6=>(kB x6.Name).bind fun x7=>sel (!x7) (some 4) ((gO (decide (s3>0)) (idxO l (IntKind.i64.wrap (s3 - 1)))).bind fun x9=>sel ((decide (s3>0))&&(!(Op.bytesLess x9.Name.toList x6.Name.toList))) (some 10) ((fF x6.Value).bind fun x11=>sel (x11 != 0) (some x11) (again4 (IntKind.i64.wrap (s3+1)))))) (k2 ())
def eP (l:(List Attr)):Option Int:=jn (fun (_s1:Unit)=>some 0) fun k2=>loopK (dZ l k2) N0 0
def c9 (x8:Action) (k16:Unit→Option Int) (again18:Int→Option Int) (s17:Int):Option Int:=sel (decide (s17<(x8.Args.length:Int))) ((idxO x8.Args s17).bind fun x20=>(fF x20).bind fun x21=>sel (x21 != 0) (some x21) (again18 (IntKind.i64.wrap (s17+1)))) (k16 ())
def fW (l:(List Action)) (k2:Unit→Option Int) (again4:Int→Option Int) (s3:Int):Option Int:=sel (decide (s3<(l.length:Int))) (jn (fun (_s6:Unit)=>again4 (IntKind.i64.wrap (s3+1))) fun k7=>(idxO l s3).bind fun x8=>(kB x8.Event).bind fun x9=>(gO (!(!x9)) (kB x8.Handler)).bind fun x10=>sel ((!x9)||(!x10)) (some 4) ((gO (decide (s3>0)) (idxO l (IntKind.i64.wrap (s3 - 1)))).bind fun x12=>sel ((decide (s3>0))&&(!(Op.bytesLess x12.Event.toList x8.Event.toList))) (some 10) (sel ((decide ((x8.Instance.size:Int)>400))||(decide ((x8.Args.length:Int)>100))) (some 2) (jn (fun (_s15:Unit)=>k7 ()) fun k16=>loopK (c9 x8 k16) N0 0)))) (k2 ())
def iE (l:(List Action)):Option Int:=jn (fun (_s1:Unit)=>some 0) fun k2=>loopK (fW l k2) N0 0
def de (self0:View→Int→Int→Option (Int×Int)) (v:View) (depth:Int) (k14:Int→Option (Int×Int)) (again16:(Int×Int)→Option (Int×Int)) (s15:Int×Int):Option (Int×Int):=sel (decide (s15.1<(v.Kids.length:Int))) ((idxO v.Kids s15.1).bind fun x18=>(self0 x18 (IntKind.i64.wrap (depth+1)) s15.2).bind fun x19=>sel (x19.1 != 0) (some (x19.1,x19.2)) (again16 (IntKind.i64.wrap (s15.1+1),x19.2))) (k14 s15.2)
def iq (v:View) (p_n:Int) (k12:Unit→Option (Int×Int)) (again22:(Int×(List (Str×Bool)))→Option (Int×Int)) (s21:Int×(List (Str×Bool))):Option (Int×Int):=sel (decide (s21.1<(v.Kids.length:Int))) ((idxO v.Kids s21.1).bind fun x24=>(gO (!(x24.Key.toList==(ByteArray.mk #[]).toList)) (mgetO s21.2 x24.Key false)).bind fun x25=>sel ((!(x24.Key.toList==(ByteArray.mk #[]).toList))&&x25.1) (some (6,IntKind.i64.wrap (p_n+1))) (again22 (IntKind.i64.wrap (s21.1+1),msetL s21.2 x24.Key true))) (k12 ())
def eK (self0:View→Int→Int→Option (Int×Int)) (v:View) (depth:Int) (p_n:Int):Option (Int×Int):=sel (decide (depth>16)) (some (8,IntKind.i64.wrap (p_n+1))) (sel (decide ((IntKind.i64.wrap (p_n+1))>400)) (some (2,IntKind.i64.wrap (p_n+1))) (sel ((decide (v.Kind<1))||(decide (v.Kind>13))) (some (9,IntKind.i64.wrap (p_n+1))) ((nL v.Key).bind fun x4=>sel (!x4) (some (4,IntKind.i64.wrap (p_n+1))) (sel (((decide ((v.Attrs.length:Int)>24))||(decide ((v.Actions.length:Int)>24)))||(decide ((v.Kids.length:Int)>100))) (some (2,IntKind.i64.wrap (p_n+1))) ((eP v.Attrs).bind fun x7=>sel (x7 != 0) (some (x7,IntKind.i64.wrap (p_n+1))) ((iE v.Actions).bind fun x9=>sel (x9 != 0) (some (x9,IntKind.i64.wrap (p_n+1))) (jn (fun (_s11:Unit)=>jn (fun (s13:Int)=>some (0,s13)) fun k14=>loopK (de self0 v depth k14) N0 (0,IntKind.i64.wrap (p_n+1))) fun k12=>loopK (iq v p_n k12) N0 (0,([]:(List (Str×Bool)))))))))))
def ec:Nat→View→Int→Int→Option (Int×Int)
 | 0,_,_,_=>none
 | n+1,v,depth,p_n=>eK (ec n) v depth p_n
def eg (v:View):Option Int:=(ec N0 v 1 0).bind fun x1=>some x1.1
def iD (_self0:AValue→Option AValue) (self1:(List AValue)→Option (List AValue)) (v:AValue):Option AValue:=(self1 v.L).bind fun x1=>some (AValue.mk v.Kind v.N v.S x1)
def em (self0:AValue→Option AValue) (l:(List AValue)) (k2:(List AValue)→Option (List AValue)) (again4:((List AValue)×Int)→Option (List AValue)) (s3:(List AValue)×Int):Option (List AValue):=sel (decide (s3.2<(l.length:Int))) ((idxO l s3.2).bind fun x6=>(self0 x6).bind fun x7=>(appO s3.1 ([x7])).bind fun x8=>again4 (x8,IntKind.i64.wrap (s3.2+1))) (k2 s3.1)
def go (self0:AValue→Option AValue) (_self1:(List AValue)→Option (List AValue)) (l:(List AValue)):Option (List AValue):=jn (fun (s1:(List AValue))=>some s1) fun k2=>loopK (em self0 l k2) N0 (([]:(List AValue)),0)
mutual
def dD:Nat→AValue→Option AValue
 | 0,_=>none
 | n+1,v=>iD (dD n) (fI n) v
def fI:Nat→(List AValue)→Option (List AValue)
 | 0,_=>none
 | n+1,l=>go (dD n) (fI n) l
end
def g8 (acts:(List Action)) (k4:(List Action)→Option ((List Attr)×(List Action))) (again6:((List Action)×Int)→Option ((List Attr)×(List Action))) (s5:(List Action)×Int):Option ((List Attr)×(List Action)):=sel (decide (s5.2<(acts.length:Int))) ((idxO acts s5.2).bind fun x8=>(fI N0 x8.Args).bind fun x9=>(appO s5.1 ([(Action.mk x8.Event x8.Instance x8.Handler x9)])).bind fun x10=>again6 (x10,IntKind.i64.wrap (s5.2+1))) (k4 s5.1)
def gZ (attrs:(List Attr)) (k2:(List Attr)→Option ((List Attr)×(List Action))) (again12:((List Attr)×Int)→Option ((List Attr)×(List Action))) (s11:(List Attr)×Int):Option ((List Attr)×(List Action)):=sel (decide (s11.2<(attrs.length:Int))) ((idxO attrs s11.2).bind fun x14=>(dD N0 x14.Value).bind fun x15=>(appO s11.1 ([(Attr.mk x14.Name x15)])).bind fun x16=>again12 (x16,IntKind.i64.wrap (s11.2+1))) (k2 s11.1)
def ji (attrs:(List Attr)) (acts:(List Action)):Option ((List Attr)×(List Action)):=jn (fun (s1:(List Attr))=>jn (fun (s3:(List Action))=>some (s1,s3)) fun k4=>loopK (g8 acts k4) N0 (([]:(List Action)),0)) fun k2=>loopK (gZ attrs k2) N0 (([]:(List Attr)),0)
def fw (self0:(List (Int×Node))→Int→Option (List Int)) (nodes:(List (Int×Node))) (k2:(List Int)→Option (List Int)) (x3:Node×Bool) (again5:((List Int)×Int)→Option (List Int)) (s4:(List Int)×Int):Option (List Int):=sel (decide (s4.2<(x3.1.Kids.length:Int))) ((idxO x3.1.Kids s4.2).bind fun x7=>(self0 nodes x7).bind fun x8=>(appO s4.1 x8).bind fun x9=>again5 (x9,IntKind.i64.wrap (s4.2+1))) (k2 s4.1)
def eN (self0:(List (Int×Node))→Int→Option (List Int)) (nodes:(List (Int×Node))) (id:Int):Option (List Int):=jn (fun (s1:(List Int))=>some s1) fun k2=>(mgetO nodes id (Node.mk 0 0 0 ByteArray.empty ([]:(List Attr)) ([]:(List Action)) ([]:(List Int)))).bind fun x3=>loopK (fw self0 nodes k2 x3) N0 ([id],0)
def ef:Nat→(List (Int×Node))→Int→Option (List Int)
 | 0,_,_=>none
 | n+1,nodes,id=>eN (ef n) nodes id
def ff (s2:(List (Int×Node))) (x15:Node) (k17:(List (Int×Bool))→Option ((List (Int×Node))×Bool)) (again19:(Int×(List (Int×Bool)))→Option ((List (Int×Node))×Bool)) (s18:Int×(List (Int×Bool))):Option ((List (Int×Node))×Bool):=sel (decide (s18.1<(x15.Kids.length:Int))) ((idxO x15.Kids s18.1).bind fun x21=>(mgetO s2 x21 (Node.mk 0 0 0 ByteArray.empty ([]:(List Attr)) ([]:(List Action)) ([]:(List Int)))).bind fun x22=>(gO (!((!x22.2)||(x22.1.Parent != x15.ID))) (mgetO s18.2 x21 false)).bind fun x23=>sel (((!x22.2)||(x22.1.Parent != x15.ID))||x23.1) (some (([]:(List (Int×Node))),false)) (again19 (IntKind.i64.wrap (s18.1+1),msetL s18.2 x21 true))) (k17 s18.2)
def gq (t:Tree) (s2:(List (Int×Node))) (k7:(List (Int×Bool))→Option ((List (Int×Node))×Bool)) (again11:(Int×(List (Int×Bool)))→Option ((List (Int×Node))×Bool)) (s10:Int×(List (Int×Bool))):Option ((List (Int×Node))×Bool):=sel (decide (s10.1<(t.Nodes.length:Int))) (jn (fun (s13:(List (Int×Bool)))=>again11 (IntKind.i64.wrap (s10.1+1),s13)) fun k14=>(idxO t.Nodes s10.1).bind fun x15=>jn (fun (s16:(List (Int×Bool)))=>k14 s16) fun k17=>loopK (ff s2 x15 k17) N0 (0,s10.2)) (k7 s10.2)
def gp (t:Tree) (k3:(List (Int×Node))→Option ((List (Int×Node))×Bool)) (again26:(Int×Int×(List (Int×Node)))→Option ((List (Int×Node))×Bool)) (s25:Int×Int×(List (Int×Node))):Option ((List (Int×Node))×Bool):=sel (decide (s25.2.1<(t.Nodes.length:Int))) ((idxO t.Nodes s25.2.1).bind fun x28=>sel (((decide (x28.ID≤s25.1))||(decide (x28.ID≥t.Next)))||((x28.Parent==0) != (x28.ID==t.Root))) (some (([]:(List (Int×Node))),false)) (again26 (x28.ID,IntKind.i64.wrap (s25.2.1+1),msetL s25.2.2 x28.ID x28))) (k3 s25.2.2)
def kI (t:Tree):Option ((List (Int×Node))×Bool):=sel ((((decide (t.Next<2))||(decide (t.Next>1099511627776)))||(decide ((t.Nodes.length:Int)<1)))||(decide ((t.Nodes.length:Int)>400))) (some (([]:(List (Int×Node))),false)) (jn (fun (s2:(List (Int×Node)))=>(mgetO s2 t.Root (Node.mk 0 0 0 ByteArray.empty ([]:(List Attr)) ([]:(List Action)) ([]:(List Int)))).bind fun x4=>sel (!x4.2) (some (([]:(List (Int×Node))),false)) (jn (fun (s6:(List (Int×Bool)))=>sel ((s6.length:Int) != (s2.length:Int)) (some (([]:(List (Int×Node))),false)) ((ef N0 s2 t.Root).bind fun x9=>some (s2,(x9.length:Int)==(s2.length:Int)))) fun k7=>loopK (gq t s2 k7) N0 (0,msetL ([]:(List (Int×Bool))) t.Root true))) fun k3=>loopK (gp t k3) N0 (0,0,([]:(List (Int×Node)))))
def eO (self0:(List (Int×Node))→Int→Option View) (nodes:(List (Int×Node))) (x1:Node×Bool) (k3:(List View)→Option View) (again5:(Int×(List View))→Option View) (s4:Int×(List View)):Option View:=sel (decide (s4.1<(x1.1.Kids.length:Int))) ((idxO x1.1.Kids s4.1).bind fun x7=>(self0 nodes x7).bind fun x8=>(appO s4.2 ([x8])).bind fun x9=>again5 (IntKind.i64.wrap (s4.1+1),x9)) (k3 s4.2)
def dU (self0:(List (Int×Node))→Int→Option View) (nodes:(List (Int×Node))) (id:Int):Option View:=(mgetO nodes id (Node.mk 0 0 0 ByteArray.empty ([]:(List Attr)) ([]:(List Action)) ([]:(List Int)))).bind fun x1=>jn (fun (s2:(List View))=>some (View.mk x1.1.Kind x1.1.Key x1.1.Attrs x1.1.Actions s2)) fun k3=>loopK (eO self0 nodes x1 k3) N0 (0,([]:(List View)))
def ep:Nat→(List (Int×Node))→Int→Option View
 | 0,_,_=>none
 | n+1,nodes,id=>dU (ep n) nodes id
def dE (t:Tree):Option ((List (Int×Node))×View×Int):=(kI t).bind fun x1=>sel (!x1.2) (some (([]:(List (Int×Node))),(View.mk 0 ByteArray.empty ([]:(List Attr)) ([]:(List Action)) ([]:(List View))),12)) ((ep N0 x1.1 t.Root).bind fun x3=>(eg x3).bind fun x4=>some (x1.1,x3,x4))
def kK (t:Tree):Option Int:=(dE t).bind fun x1=>some x1.2.2
def eM (t:Tree):Option ((List (Int×Node))×Bool):=(dE t).bind fun x1=>some (x1.1,x1.2.2==0)
end Go.Proofs.YtfoigppmcelgfaaGreatDoor
end
section
namespace Go.Proofs.YtfoigppmcelgfaaGreatDoor
open Go Go.E2
structure Rect where
 X:Int
 Y:Int
 W:Int
 H:Int
deriving Inhabited
def Rect.cs (x:Rect):List Go.E2.D:=[dI x.X,dI x.Y,dI x.W,dI x.H]
structure Styled where
 ID:Int
 Style:(Nat→Int)
deriving Inhabited
def Styled.cs (x:Styled):List Go.E2.D:=[dI x.ID,dI (x.Style 0),dI (x.Style 1),dI (x.Style 2),dI (x.Style 3),dI (x.Style 4),dI (x.Style 5),dI (x.Style 6),dI (x.Style 7),dI (x.Style 8),dI (x.Style 9),dI (x.Style 10),dI (x.Style 11),dI (x.Style 12),dI (x.Style 13),dI (x.Style 14),dI (x.Style 15),dI (x.Style 16),dI (x.Style 17),dI (x.Style 18),dI (x.Style 19),dI (x.Style 20),dI (x.Style 21)]
structure Offset where
 ID:Int
 Y:Int
deriving Inhabited
def Offset.cs (x:Offset):List Go.E2.D:=[dI x.ID,dI x.Y]
structure FocusState where
 Focused:Int
 Visible:Bool
 Past:(List Int)
deriving Inhabited
def FocusState.cs (x:FocusState):List Go.E2.D:=[dI x.Focused,dB x.Visible,.sl (List.map (eInt .i64) x.Past)]
structure Glyph where
 ID:Int
 Form:Int
 From:Int
 To:Int
 X:Int
 Advance:Int
 Font:Int
 Size:Int
deriving Inhabited
def Glyph.cs (x:Glyph):List Go.E2.D:=[dI x.ID,dI x.Form,dI x.From,dI x.To,dI x.X,dI x.Advance,dI x.Font,dI x.Size]
structure Line where
 From:Int
 To:Int
 Level:Int
 X:Int
 Y:Int
 Width:Int
 Ascent:Int
 Descent:Int
 Height:Int
 Glyphs:(List Glyph)
deriving Inhabited
def Line.cs (x:Line):List Go.E2.D:=[dI x.From,dI x.To,dI x.Level,dI x.X,dI x.Y,dI x.Width,dI x.Ascent,dI x.Descent,dI x.Height,.sl (List.map Glyph.cs x.Glyphs)]
structure Box where
 ID:Int
 Rect:Rect
 Baseline:Int
 Lines:(List Line)
deriving Inhabited
def Box.cs (x:Box):List Go.E2.D:=[dI x.ID,dI x.Rect.X,dI x.Rect.Y,dI x.Rect.W,dI x.Rect.H,dI x.Baseline,.sl (List.map Line.cs x.Lines)]
def cA (prop:Int):Option Bool:=some ((decide (prop≥0))&&(decide (prop<22)))
def bX (prop:Int) (p_n:Int):Option Bool:=(cA prop).bind fun x1=>(gO x1 (idxO styProps prop)).bind fun x2=>(gO (x1&&(decide (p_n≥x2.2.1))) (idxO styProps prop)).bind fun x3=>some ((x1&&(decide (p_n≥x2.2.1)))&&(decide (p_n≤x3.2.2.1)))
def kj  : Option (Nat→Int):=some (upd (upd (upd (upd (upd (upd (upd (upd (fun _=>0) 1 (-1)) 2 16) 5 1) 6 3) 11 1) 12 (-1)) 14 1048576) 16 1048576)
end Go.Proofs.YtfoigppmcelgfaaGreatDoor
end
section
namespace Go.Proofs.YtfoigppmcelgfaaGreatDoor
open Go Go.E2
def f9 (l:(List Attr)) (name:Str) (k2:Unit→Option (AValue×Bool)) (again4:Int→Option (AValue×Bool)) (s3:Int):Option (AValue×Bool):=sel (decide (s3<(l.length:Int))) ((idxO l s3).bind fun x6=>sel (x6.Name.toList==name.toList) ((dD N0 x6.Value).bind fun x8=>some (x8,true)) (again4 (IntKind.i64.wrap (s3+1)))) (k2 ())
def lw (l:(List Attr)) (name:Str):Option (AValue×Bool):=jn (fun (_s1:Unit)=>some ((AValue.mk 0 0 ByteArray.empty ([]:(List AValue))),false)) fun k2=>loopK (f9 l name k2) N0 0
def iF (l:(List Attr)) (name:Str) (other:Int):Option Int:=(lw l name).bind fun x1=>sel (x1.1.Kind==1) (some x1.1.N) (some other)
def gr (l:(List Attr)) (name:Str):Option Bool:=(lw l name).bind fun x1=>some ((x1.1.Kind==2)&&(x1.1.N==1))
def fm (l:(List Attr)) (name:Str) (k2:Unit→Option (AValue×Bool)) (again4:Int→Option (AValue×Bool)) (s3:Int):Option (AValue×Bool):=sel (decide (s3<(l.length:Int))) ((idxO l s3).bind fun x6=>sel (x6.Name.toList==name.toList) ((idxO l s3).bind fun x8=>some (x8.Value,true)) (again4 (IntKind.i64.wrap (s3+1)))) (k2 ())
def jQ (l:(List Attr)) (name:Str):Option (AValue×Bool):=jn (fun (_s1:Unit)=>some ((AValue.mk 0 0 ByteArray.empty ([]:(List AValue))),false)) fun k2=>loopK (fm l name k2) N0 0
def gh (l:(List Attr)) (name:Str) (other:Int):Option Int:=(jQ l name).bind fun x1=>sel (x1.1.Kind != 1) (some other) (some x1.1.N)
def dJ (l:(List Attr)) (name:Str):Option Bool:=(jQ l name).bind fun x1=>some ((x1.1.Kind==2)&&(x1.1.N==1))
end Go.Proofs.YtfoigppmcelgfaaGreatDoor
end
section
namespace Go.Proofs.YtfoigppmcelgfaaGreatDoor
open Go Go.E2
def cu (kind:Int):Option Bool:=some ((((kind==2)||(kind==4))||(kind==7))||(kind==9))
def cd (kind:Int):Option Bool:=some ((kind==5)||(kind==13))
def bU (p_n:Node) (p_s:Styled):Option Bool:=some (p_n.ID==p_s.ID)
def aW (p_s1:(List Node)) (p_s2:(List Styled)) (k3:Unit→Option Bool) (again5:Int→Option Bool) (s4:Int):Option Bool:=sel (decide (s4<(p_s1.length:Int))) ((idxO p_s1 s4).bind fun x7=>(idxO p_s2 s4).bind fun x8=>(bU x7 x8).bind fun x9=>sel (!x9) (some false) (again5 (IntKind.i64.wrap (s4+1)))) (k3 ())
def aX (p_s1:(List Node)) (p_s2:(List Styled)):Option Bool:=sel ((p_s1.length:Int) != (p_s2.length:Int)) (some false) (jn (fun (_s2:Unit)=>some true) fun k3=>loopK (aW p_s1 p_s2 k3) N0 0)
def bv (t:Tree) (st:(List Styled)):Option Bool:=(aX t.Nodes st).bind fun x1=>some x1
def b9 (x8:Styled) (k10:Unit→Option Bool) (again12:Int→Option Bool) (s11:Int):Option Bool:=sel (decide (s11<22)) ((ixO 22 s11).bind fun x14=>(bX s11 (x8.Style x14)).bind fun x15=>sel (!x15) (some false) (again12 (IntKind.i64.wrap (s11+1)))) (k10 ())
def b8 (st:(List Styled)) (k2:Unit→Option Bool) (again4:Int→Option Bool) (s3:Int):Option Bool:=sel (decide (s3<(st.length:Int))) (jn (fun (_s6:Unit)=>again4 (IntKind.i64.wrap (s3+1))) fun k7=>(idxO st s3).bind fun x8=>jn (fun (_s9:Unit)=>k7 ()) fun k10=>loopK (b9 x8 k10) N0 0) (k2 ())
def bu (st:(List Styled)):Option Bool:=jn (fun (_s1:Unit)=>some true) fun k2=>loopK (b8 st k2) N0 0
structure Advance where
 From:Int
 To:Int
 Width:Int
deriving Inhabited
def Advance.cs (x:Advance):List Go.E2.D:=[.v (.int .i32 x.From),.v (.int .i32 x.To),dI x.Width]
structure Kern where
 A:Int
 B:Int
 D:Int
deriving Inhabited
def Kern.cs (x:Kern):List Go.E2.D:=[.v (.int .i32 x.A),.v (.int .i32 x.B),dI x.D]
structure Ligature where
 A:Int
 B:Int
 Glyph:Int
 Width:Int
deriving Inhabited
def Ligature.cs (x:Ligature):List Go.E2.D:=[.v (.int .i32 x.A),.v (.int .i32 x.B),dI x.Glyph,dI x.Width]
structure Font where
 Units:Int
 Ascent:Int
 Descent:Int
 Gap:Int
 Default:Int
 Advances:(List Advance)
 Kerns:(List Kern)
 Ligatures:(List Ligature)
deriving Inhabited
def Font.cs (x:Font):List Go.E2.D:=[dI x.Units,dI x.Ascent,dI x.Descent,dI x.Gap,dI x.Default,.sl (List.map Advance.cs x.Advances),.sl (List.map Kern.cs x.Kerns),.sl (List.map Ligature.cs x.Ligatures)]
structure layout_scene where
 t:Tree
 fonts:(List Font)
 nodes:(List (Int×Node))
 style:(List (Int×(Nat→Int)))
 kids:(List (Int×Nat))
 shown:(List Int)
 least:(List (Int×Int))
 most:(List (Int×Int))
 tall:(List ((Int×Int)×Int))
 first:(List ((Int×Int)×Int))
deriving Inhabited
def layout_scene.cs (x:layout_scene):List Go.E2.D:=[dI x.t.Root,dI x.t.Next,.sl (List.map Node.cs x.t.Nodes),.sl (List.map Font.cs x.fonts),.mp true (encM (kInt .i64) Node.cs x.nodes),.mp true (encM (kInt .i64) (eArr 22 (dInt .i64)) x.style),.mp false (encM (kInt .i64) (eJ 1) x.kids),.sl (List.map (eInt .i64) x.shown),.mp false (encM (kInt .i64) (eInt .i64) x.least),.mp false (encM (kInt .i64) (eInt .i64) x.most),.mp false (encM (kPair .i64) (eInt .i64) x.tall),.mp false (encM (kPair .i64) (eInt .i64) x.first)]
def a5 (p_x:layout_scene) (id:Int):Option (Bool×layout_scene):=(mgetO p_x.style id (fun _=>0)).bind fun x1=>(gO (!((x1.1 5)==0)) (mgetO p_x.nodes id (Node.mk 0 0 0 ByteArray.empty ([]:(List Attr)) ([]:(List Action)) ([]:(List Int))))).bind fun x2=>(gO (!((x1.1 5)==0)) (gr x2.1.Attrs (ByteArray.mk #[104,105,100,100,101,110]))).bind fun x3=>some (((x1.1 5)==0)||x3,p_x)
def bL (self0:layout_scene→Int→Option layout_scene) (id:Int) (x2:Node×Bool) (again7:(Int×Int×Int×(List Node)×(List Font)×(List (Int×Node))×(List (Int×(Nat→Int)))×(List (Int×Nat))×(List Int)×(List (Int×Int))×(List (Int×Int))×(List ((Int×Int)×Int))×(List ((Int×Int)×Int)))→Option layout_scene) (s6:Int×Int×Int×(List Node)×(List Font)×(List (Int×Node))×(List (Int×(Nat→Int)))×(List (Int×Nat))×(List Int)×(List (Int×Int))×(List (Int×Int))×(List ((Int×Int)×Int))×(List ((Int×Int)×Int))):Option layout_scene:=sel (decide (s6.1<(x2.1.Kids.length:Int))) (jn (fun (s9:Int×Int×(List Node)×(List Font)×(List (Int×Node))×(List (Int×(Nat→Int)))×(List (Int×Nat))×(List Int)×(List (Int×Int))×(List (Int×Int))×(List ((Int×Int)×Int))×(List ((Int×Int)×Int)))=>again7 (IntKind.i64.wrap (s6.1+1),s9.1,s9.2.1,s9.2.2.1,s9.2.2.2.1,s9.2.2.2.2.1,s9.2.2.2.2.2.1,s9.2.2.2.2.2.2.1,s9.2.2.2.2.2.2.2.1,s9.2.2.2.2.2.2.2.2.1,s9.2.2.2.2.2.2.2.2.2.1,s9.2.2.2.2.2.2.2.2.2.2.1,s9.2.2.2.2.2.2.2.2.2.2.2)) fun k10=>(idxO x2.1.Kids s6.1).bind fun x11=>(a5 (layout_scene.mk (Tree.mk s6.2.1 s6.2.2.1 s6.2.2.2.1) s6.2.2.2.2.1 s6.2.2.2.2.2.1 s6.2.2.2.2.2.2.1 s6.2.2.2.2.2.2.2.1 s6.2.2.2.2.2.2.2.2.1 s6.2.2.2.2.2.2.2.2.2.1 s6.2.2.2.2.2.2.2.2.2.2.1 s6.2.2.2.2.2.2.2.2.2.2.2.1 s6.2.2.2.2.2.2.2.2.2.2.2.2) x11).bind fun x12=>sel (!x12.1) ((mgetO x12.2.kids id 0).bind fun x14=>(jappO x14.1 ([x11]).length).bind fun x15=>(self0 (layout_scene.mk x12.2.t x12.2.fonts x12.2.nodes x12.2.style (msetL x12.2.kids id x15) x12.2.shown x12.2.least x12.2.most x12.2.tall x12.2.first) x11).bind fun x16=>k10 (x16.t.Root,x16.t.Next,x16.t.Nodes,x16.fonts,x16.nodes,x16.style,x16.kids,x16.shown,x16.least,x16.most,x16.tall,x16.first)) (k10 (x12.2.t.Root,x12.2.t.Next,x12.2.t.Nodes,x12.2.fonts,x12.2.nodes,x12.2.style,x12.2.kids,x12.2.shown,x12.2.least,x12.2.most,x12.2.tall,x12.2.first))) (some (layout_scene.mk (Tree.mk s6.2.1 s6.2.2.1 s6.2.2.2.1) s6.2.2.2.2.1 s6.2.2.2.2.2.1 s6.2.2.2.2.2.2.1 s6.2.2.2.2.2.2.2.1 s6.2.2.2.2.2.2.2.2.1 s6.2.2.2.2.2.2.2.2.2.1 s6.2.2.2.2.2.2.2.2.2.2.1 s6.2.2.2.2.2.2.2.2.2.2.2.1 s6.2.2.2.2.2.2.2.2.2.2.2.2))
def bi (self0:layout_scene→Int→Option layout_scene) (p_x:layout_scene) (id:Int):Option layout_scene:=(appO p_x.shown ([id])).bind fun x1=>(mgetO p_x.nodes id (Node.mk 0 0 0 ByteArray.empty ([]:(List Attr)) ([]:(List Action)) ([]:(List Int)))).bind fun x2=>(cu x2.1.Kind).bind fun x3=>(gO (!x3) (cd x2.1.Kind)).bind fun x4=>sel (x3||x4) (some (layout_scene.mk p_x.t p_x.fonts p_x.nodes p_x.style p_x.kids x1 p_x.least p_x.most p_x.tall p_x.first)) (loopK (bL self0 id x2) N0 (0,p_x.t.Root,p_x.t.Next,p_x.t.Nodes,p_x.fonts,p_x.nodes,p_x.style,p_x.kids,x1,p_x.least,p_x.most,p_x.tall,p_x.first))
def be:Nat→layout_scene→Int→Option layout_scene
 | 0,_,_=>none
 | n+1,p_x,id=>bi (be n) p_x id
def cg (t:Tree) (st:(List Styled)) (k2:((List (Int×Node))×(List (Int×(Nat→Int))))→Option layout_scene) (again9:(Int×(List (Int×Node))×(List (Int×(Nat→Int))))→Option layout_scene) (s8:Int×(List (Int×Node))×(List (Int×(Nat→Int)))):Option layout_scene:=sel (decide (s8.1<(t.Nodes.length:Int))) ((idxO t.Nodes s8.1).bind fun x11=>(idxO st s8.1).bind fun x12=>(mgetO s8.2.1 x11.ID (Node.mk 0 0 0 ByteArray.empty ([]:(List Attr)) ([]:(List Action)) ([]:(List Int)))).bind fun _x13=>(mgetO s8.2.2 x11.ID (fun _=>0)).bind fun _x14=>again9 (IntKind.i64.wrap (s8.1+1),msetL s8.2.1 x11.ID x11,msetL s8.2.2 x11.ID x12.Style)) (k2 (s8.2.1,s8.2.2))
def bD (t:Tree) (st:(List Styled)) (fonts:(List Font)):Option layout_scene:=jn (fun (s1:(List (Int×Node))×(List (Int×(Nat→Int))))=>jn (fun (s3:Int×Int×(List Node)×(List Font)×(List (Int×Node))×(List (Int×(Nat→Int)))×(List (Int×Nat))×(List Int)×(List (Int×Int))×(List (Int×Int))×(List ((Int×Int)×Int))×(List ((Int×Int)×Int)))=>some (layout_scene.mk (Tree.mk s3.1 s3.2.1 s3.2.2.1) s3.2.2.2.1 s3.2.2.2.2.1 s3.2.2.2.2.2.1 s3.2.2.2.2.2.2.1 s3.2.2.2.2.2.2.2.1 s3.2.2.2.2.2.2.2.2.1 s3.2.2.2.2.2.2.2.2.2.1 s3.2.2.2.2.2.2.2.2.2.2.1 s3.2.2.2.2.2.2.2.2.2.2.2)) fun k4=>(a5 (layout_scene.mk t fonts s1.1 s1.2 ([]:(List (Int×Nat))) ([]:(List Int)) ([]:(List (Int×Int))) ([]:(List (Int×Int))) ([]:(List ((Int×Int)×Int))) ([]:(List ((Int×Int)×Int)))) t.Root).bind fun x5=>sel (!x5.1) ((be N0 x5.2 t.Root).bind fun x7=>k4 (x7.t.Root,x7.t.Next,x7.t.Nodes,x7.fonts,x7.nodes,x7.style,x7.kids,x7.shown,x7.least,x7.most,x7.tall,x7.first)) (k4 (x5.2.t.Root,x5.2.t.Next,x5.2.t.Nodes,x5.2.fonts,x5.2.nodes,x5.2.style,x5.2.kids,x5.2.shown,x5.2.least,x5.2.most,x5.2.tall,x5.2.first))) fun k2=>loopK (cg t st k2) N0 (0,([]:(List (Int×Node))),([]:(List (Int×(Nat→Int)))))
def cc (t:Tree) (st:(List Styled)):Option (List Int):=(kK t).bind fun x1=>(gO (!(x1 != 0)) (bv t st)).bind fun x2=>(gO (!((x1 != 0)||(!x2))) (bu st)).bind fun x3=>sel (((x1 != 0)||(!x2))||(!x3)) (some ([]:(List Int))) ((bD t st ([]:(List Font))).bind fun x5=>some x5.shown)
end Go.Proofs.YtfoigppmcelgfaaGreatDoor
end
section
namespace Go.Proofs.YtfoigppmcelgfaaGreatDoor
open Go Go.E2
def ch (s:(List Int)):Option (List Int):=appO [] s
def jI (t:Tree) (id:Int) (k2:Unit→Option (Node×Bool)) (again4:Int→Option (Node×Bool)) (s3:Int):Option (Node×Bool):=sel (decide (s3<(t.Nodes.length:Int))) ((idxO t.Nodes s3).bind fun x6=>sel (x6.ID != id) (again4 (IntKind.i64.wrap (s3+1))) ((ji x6.Attrs x6.Actions).bind fun x8=>(ch x6.Kids).bind fun x9=>some ((Node.mk x6.ID x6.Parent x6.Kind x6.Key x8.1 x8.2 x9),true))) (k2 ())
def jk (t:Tree) (id:Int):Option (Node×Bool):=jn (fun (_s1:Unit)=>some ((Node.mk 0 0 0 ByteArray.empty ([]:(List Attr)) ([]:(List Action)) ([]:(List Int))),false)) fun k2=>loopK (jI t id k2) N0 0
def iS (t:Tree):Option (List Int):=(eM t).bind fun x1=>sel (!x1.2) (some ([]:(List Int))) ((ef N0 x1.1 t.Root).bind fun x3=>some x3)
end Go.Proofs.YtfoigppmcelgfaaGreatDoor
end
section
namespace Go.Proofs.YtfoigppmcelgfaaGreatDoor
open Go Go.E2
structure focus_sight where
 order:(List Int)
 nodes:(List (Int×Node))
 visible:(List (Int×Bool))
 disabled:(List (Int×Bool))
deriving Inhabited
def focus_sight.cs (x:focus_sight):List Go.E2.D:=[.sl (List.map (eInt .i64) x.order),.mp true (encM (kInt .i64) Node.cs x.nodes),.mp false (encM (kInt .i64) eBool x.visible),.mp false (encM (kInt .i64) eBool x.disabled)]
def jY (x1:(List Int)) (s3:(List (Int×Node))) (k10:(List (Int×Bool))→Option focus_sight) (again12:(Int×(List (Int×Bool)))→Option focus_sight) (s11:Int×(List (Int×Bool))):Option focus_sight:=sel (decide (s11.1<(x1.length:Int))) ((idxO x1 s11.1).bind fun x14=>(mgetO s3 x14 (Node.mk 0 0 0 ByteArray.empty ([]:(List Attr)) ([]:(List Action)) ([]:(List Int)))).bind fun x15=>(mgetO s11.2 x15.1.Parent false).bind fun x16=>(gO (!x16.1) (gr x15.1.Attrs (ByteArray.mk #[100,105,115,97,98,108,101,100]))).bind fun x17=>again12 (IntKind.i64.wrap (s11.1+1),msetL s11.2 x14 (x16.1||x17))) (k10 s11.2)
def jX (st:(List Styled)) (s5:(List (Int×Bool))) (k8:(List (Int×Bool))→Option focus_sight) (again19:(Int×(List (Int×Bool)))→Option focus_sight) (s18:Int×(List (Int×Bool))):Option focus_sight:=sel (decide (s18.1<(st.length:Int))) ((idxO st s18.1).bind fun x21=>(mgetO s5 x21.ID false).bind fun x22=>again19 (IntKind.i64.wrap (s18.1+1),msetL s18.2 x21.ID (x22.1&&((x21.Style 21)==0)))) (k8 s18.2)
def jW (k6:(List (Int×Bool))→Option focus_sight) (x23:(List Int)) (again25:(Int×(List (Int×Bool)))→Option focus_sight) (s24:Int×(List (Int×Bool))):Option focus_sight:=sel (decide (s24.1<(x23.length:Int))) ((idxO x23 s24.1).bind fun x27=>again25 (IntKind.i64.wrap (s24.1+1),msetL s24.2 x27 true)) (k6 s24.2)
def jV (t:Tree) (k4:(List (Int×Node))→Option focus_sight) (again29:(Int×(List (Int×Node)))→Option focus_sight) (s28:Int×(List (Int×Node))):Option focus_sight:=sel (decide (s28.1<(t.Nodes.length:Int))) ((idxO t.Nodes s28.1).bind fun x31=>again29 (IntKind.i64.wrap (s28.1+1),msetL s28.2 x31.ID x31)) (k4 s28.2)
def jA (t:Tree) (st:(List Styled)):Option focus_sight:=(iS t).bind fun x1=>sel ((x1.length:Int)==0) (some (focus_sight.mk x1 ([]:(List (Int×Node))) ([]:(List (Int×Bool))) ([]:(List (Int×Bool))))) (jn (fun (s3:(List (Int×Node)))=>jn (fun (s5:(List (Int×Bool)))=>jn (fun (s7:(List (Int×Bool)))=>jn (fun (s9:(List (Int×Bool)))=>some (focus_sight.mk x1 s3 s7 s9)) fun k10=>loopK (jY x1 s3 k10) N0 (0,([]:(List (Int×Bool))))) fun k8=>loopK (jX st s5 k8) N0 (0,([]:(List (Int×Bool))))) fun k6=>(cc t st).bind fun x23=>loopK (jW k6 x23) N0 (0,([]:(List (Int×Bool))))) fun k4=>loopK (jV t k4) N0 (0,([]:(List (Int×Node)))))
def bA (p_s:focus_sight) (k6:Unit→Option Int) (again8:Int→Option Int) (s7:Int):Option Int:=sel (decide (s7≥0)) ((idxO p_s.order s7).bind fun x10=>(mgetO p_s.nodes x10 (Node.mk 0 0 0 ByteArray.empty ([]:(List Attr)) ([]:(List Action)) ([]:(List Int)))).bind fun x11=>(gO (x11.1.Kind==12) (mgetO p_s.visible x10 false)).bind fun x12=>sel ((x11.1.Kind==12)&&x12.1) (some x10) (again8 (IntKind.i64.wrap (s7 - 1)))) (k6 ())
def cN (p_s:focus_sight):Option Int:=jn (fun (_s1:Unit)=>sel ((p_s.order.length:Int)==0) (some 0) ((idxO p_s.order 0).bind fun x4=>some x4)) fun k2=>jn (fun (_s5:Unit)=>k2 ()) fun k6=>loopK (bA p_s k6) N0 (IntKind.i64.wrap ((p_s.order.length:Int) - 1))
def dL (self0:focus_sight→Int→Option (List Int)) (p_s:focus_sight) (k2:(List Int)→Option (List Int)) (x3:Node×Bool) (again5:((List Int)×Int)→Option (List Int)) (s4:(List Int)×Int):Option (List Int):=sel (decide (s4.2<(x3.1.Kids.length:Int))) ((idxO x3.1.Kids s4.2).bind fun x7=>(self0 p_s x7).bind fun x8=>(appO s4.1 x8).bind fun x9=>again5 (x9,IntKind.i64.wrap (s4.2+1))) (k2 s4.1)
def dd (self0:focus_sight→Int→Option (List Int)) (p_s:focus_sight) (id:Int):Option (List Int):=jn (fun (s1:(List Int))=>some s1) fun k2=>(mgetO p_s.nodes id (Node.mk 0 0 0 ByteArray.empty ([]:(List Attr)) ([]:(List Action)) ([]:(List Int)))).bind fun x3=>loopK (dL self0 p_s k2 x3) N0 ([id],0)
def cO:Nat→focus_sight→Int→Option (List Int)
 | 0,_,_=>none
 | n+1,p_s,id=>dd (cO n) p_s id
def fE (a:Action):Option Bool:=some (a.Event.toList==(ByteArray.mk #[112,114,101,115,115]).toList)
def cE (p_s:(List Action)) (k2:Unit→Option Int) (again4:Int→Option Int) (s3:Int):Option Int:=sel (decide (s3<(p_s.length:Int))) ((idxO p_s s3).bind fun x6=>(fE x6).bind fun x7=>sel x7 (some s3) (again4 (IntKind.i64.wrap (s3+1)))) (k2 ())
def di (p_s:(List Action)):Option Int:=jn (fun (_s1:Unit)=>some (-1)) fun k2=>loopK (cE p_s k2) N0 0
def bw (p_s:(List Action)):Option Bool:=(di p_s).bind fun x1=>some (decide (x1≥0))
def eE (p_n:Node):Option Bool:=jn (fun (s1:Bool)=>sel s1 (some true) ((gO (!((p_n.Kind==4)||(p_n.Kind==13))) (bw p_n.Actions)).bind fun x4=>some ((!((p_n.Kind==4)||(p_n.Kind==13)))&&x4))) fun k2=>sel (p_n.Kind==3) (k2 (p_n.Kind==3)) (sel (p_n.Kind==6) (k2 (p_n.Kind==6)) (k2 (p_n.Kind==7)))
def cH (p_s:focus_sight) (id:Int):Option Bool:=(mgetO p_s.nodes id (Node.mk 0 0 0 ByteArray.empty ([]:(List Attr)) ([]:(List Action)) ([]:(List Int)))).bind fun x1=>(mgetO p_s.visible id false).bind fun x2=>(gO (!(!x2.1)) (mgetO p_s.disabled id false)).bind fun x3=>sel ((!x2.1)||x3.1) (some false) ((eE x1.1).bind fun x5=>(gO (!((x5||(x1.1.Kind==4))||(x1.1.Kind==13))) (gr x1.1.Attrs (ByteArray.mk #[102,111,99,117,115,97,98,108,101]))).bind fun x6=>some (((x5||(x1.1.Kind==4))||(x1.1.Kind==13))||x6))
def d8 (x1:focus_sight) (k4:(List Int)→Option (List Int)) (x6:(List Int)) (again8:((List Int)×Int)→Option (List Int)) (s7:(List Int)×Int):Option (List Int):=sel (decide (s7.2<(x6.length:Int))) (jn (fun (s10:(List Int))=>again8 (s10,IntKind.i64.wrap (s7.2+1))) fun k11=>(idxO x6 s7.2).bind fun x12=>(cH x1 x12).bind fun x13=>sel x13 ((appO s7.1 ([x12])).bind fun x15=>k11 x15) (k11 s7.1)) (k4 s7.1)
def db (t:Tree) (st:(List Styled)):Option (List Int):=(jA t st).bind fun x1=>sel ((x1.order.length:Int)==0) (some ([]:(List Int))) (jn (fun (s3:(List Int))=>some s3) fun k4=>(cN x1).bind fun x5=>(cO N0 x1 x5).bind fun x6=>loopK (d8 x1 k4 x6) N0 (([]:List Int),0))
def io (t:Tree) (st:(List Styled)):Option Int:=(jA t st).bind fun x1=>(cN x1).bind fun x2=>some x2
end Go.Proofs.YtfoigppmcelgfaaGreatDoor
end
section
namespace Go.Proofs.YtfoigppmcelgfaaGreatDoor
open Go Go.E2
def dM (p_x:Int):Option Bool:=some (p_x != p_x)
def cW (p_x:Int) (y:Int):Option Int:=(dM p_x).bind fun x1=>(dM y).bind fun x2=>sel x1 (sel x2 (some 0) (some (-1))) (sel x2 (some 1) (sel (decide (p_x<y)) (some (-1)) (sel (decide (p_x>y)) (some 1) (some 0))))
def gn (id:Int) (c0:Tree):Option Int:=(jk c0 id).bind fun x1=>(iF x1.1.Attrs (ByteArray.mk #[116,97,98]) 0).bind fun x2=>some (mxI x2 0)
def eF (a:Int) (b:Int) (c1:Tree):Option Int:=(gn a c1).bind fun x1=>(gn b c1).bind fun x2=>sel ((x1==0)||(x2==0)) ((cW x2 x1).bind fun x4=>some x4) ((cW x1 x2).bind fun x5=>some x5)
def cx (a:Int) (cmp_1:Tree) (k9:(List Int)→Option (List Int)) (again11:(Int×(List Int))→Option (List Int)) (s10:Int×(List Int)):Option (List Int):=(gO (decide (s10.1>a)) (ixO s10.2.length s10.1)).bind fun x12=>(gO (decide (s10.1>a)) (s10.2[x12]?)).bind fun x13=>(gO (decide (s10.1>a)) (ixO s10.2.length (IntKind.i64.wrap (s10.1 - 1)))).bind fun x14=>(gO (decide (s10.1>a)) (s10.2[x14]?)).bind fun x15=>(gO (decide (s10.1>a)) (eF x13 x15 cmp_1)).bind fun x16=>sel ((decide (s10.1>a))&&(decide (x16<0))) ((ixO s10.2.length (IntKind.i64.wrap (s10.1 - 1))).bind fun x18=>(s10.2[x18]?).bind fun x19=>(ixO s10.2.length s10.1).bind fun x20=>(s10.2[x20]?).bind fun x21=>(ixO s10.2.length s10.1).bind fun x22=>(ixO (List.set s10.2 x22 x19).length (IntKind.i64.wrap (s10.1 - 1))).bind fun x23=>again11 (IntKind.i64.wrap (s10.1 - 1),List.set (List.set s10.2 x22 x19) x23 x21)) (k9 s10.2)
def cw (a:Int) (b:Int) (cmp_1:Tree) (k2:(List Int)→Option (List Int)) (again4:(Int×(List Int))→Option (List Int)) (s3:Int×(List Int)):Option (List Int):=sel (decide (s3.1<b)) (jn (fun (s6:(List Int))=>again4 (IntKind.i64.wrap (s3.1+1),s6)) fun k7=>jn (fun (s8:(List Int))=>k7 s8) fun k9=>loopK (cx a cmp_1 k9) N0 (s3.1,s3.2)) (k2 s3.2)
def aQ (data:(List Int)) (a:Int) (b:Int) (cmp_1:Tree):Option (List Int):=jn (fun (s1:(List Int))=>some s1) fun k2=>loopK (cw a b cmp_1 k2) N0 (IntKind.i64.wrap (a+1),data)
def dl (p_n:Int) (s6:Int) (k12:Unit→Option (List Int)) (_again17:Unit→Option (List Int)) (_s16:Unit):Option (List Int):=sel (decide ((IntKind.i64.wrap (2*s6))≤p_n)) ((none:Option (List Int))) (k12 ())
def bm (p_n:Int) (k5:Unit→Option (List Int)) (again7:Int→Option (List Int)) (s6:Int):Option (List Int):=sel (decide (s6<p_n)) (jn (fun (_s9:Unit)=>again7 (IntKind.i64.wrap (s6*2))) fun k10=>jn (fun (_s11:Unit)=>jn (fun (_s13:Unit)=>k10 ()) fun k14=>sel (decide ((IntKind.i64.wrap (0+s6))<p_n)) ((none:Option (List Int))) (k14 ())) fun k12=>loopK (dl p_n s6 k12) N0 ()) (k5 ())
def aT (p_n:Int) (cmp_1:Tree) (k2:(Int×(List Int))→Option (List Int)) (again20:(Int×Int×(List Int))→Option (List Int)) (s19:Int×Int×(List Int)):Option (List Int):=sel (decide (s19.2.1≤p_n)) ((aQ s19.2.2 s19.1 s19.2.1 cmp_1).bind fun x22=>again20 (s19.2.1,IntKind.i64.wrap (s19.2.1+20),x22)) (k2 (s19.1,s19.2.2))
def ce (data:(List Int)) (p_n:Int) (cmp_1:Tree):Option (List Int):=jn (fun (s1:Int×(List Int))=>(aQ s1.2 s1.1 p_n cmp_1).bind fun x3=>jn (fun (_s4:Unit)=>some x3) fun k5=>loopK (bm p_n k5) N0 20) fun k2=>loopK (aT p_n cmp_1 k2) N0 (0,20,data)
def aZ (p_x:(List Int)) (cmp_1:Tree):Option (List Int):=(ce p_x (p_x.length:Int) cmp_1).bind fun x1=>some x1
def d7 (t:Tree) (st:(List Styled)):Option (List Int):=(db t st).bind fun x1=>(aZ x1 t).bind fun x2=>some x2
end Go.Proofs.YtfoigppmcelgfaaGreatDoor
end
section
namespace Go.Proofs.YtfoigppmcelgfaaGreatDoor
open Go Go.E2
def eC (p_x:Int) (c0:Int):Option Bool:=some (p_x==c0)
def hE (p_s:(List Int)) (f_0:Int) (k2:Unit→Option (Int×(List Int))) (again4:Int→Option (Int×(List Int))) (s3:Int):Option (Int×(List Int)):=sel (decide (s3<(p_s.length:Int))) ((ixO p_s.length s3).bind fun x6=>(p_s[x6]?).bind fun x7=>(eC x7 f_0).bind fun x8=>sel x8 (some (s3,p_s)) (again4 (IntKind.i64.wrap (s3+1)))) (k2 ())
def gz (p_s:(List Int)) (f_0:Int):Option (Int×(List Int)):=jn (fun (_s1:Unit)=>some ((-1),p_s)) fun k2=>loopK (hE p_s f_0 k2) N0 0
def gB (del_0:Int) (k4:(Int×(List Int))→Option (List Int)) (again8:(Int×Int×(List Int))→Option (List Int)) (s7:Int×Int×(List Int)):Option (List Int):=sel (decide (s7.2.1<(s7.2.2.length:Int))) (jn (fun (s10:Int×(List Int))=>again8 (s10.1,IntKind.i64.wrap (s7.2.1+1),s10.2)) fun k11=>(ixO s7.2.2.length s7.2.1).bind fun x12=>(s7.2.2[x12]?).bind fun x13=>(eC x13 del_0).bind fun x14=>sel (!x14) ((ixO s7.2.2.length s7.1).bind fun x16=>k11 (IntKind.i64.wrap (s7.1+1),List.set s7.2.2 x16 x13)) (k11 (s7.1,s7.2.2))) (k4 (s7.1,s7.2.2))
def fS (p_s:(List Int)) (del_0:Int):Option (List Int):=(gz p_s del_0).bind fun x1=>sel (x1.1==(-1)) (some x1.2) (jn (fun (s3:Int×(List Int))=>(ixO (s3.2.length+1) s3.1).bind fun x5=>(ixO ((List.take x5 s3.2++List.replicate (s3.2.length - x5) 0).length+1) s3.1).bind fun x6=>some (List.take x6 (List.take x5 s3.2++List.replicate (s3.2.length - x5) 0))) fun k4=>loopK (gB del_0 k4) N0 (x1.1,IntKind.i64.wrap (x1.1+1),x1.2))
def bn (s:(List Int)):Option (List Int):=appO [] s
def eD (l:(List Int)) (id:Int):Option (List Int):=(bn l).bind fun x1=>(fS x1 id).bind fun x2=>some x2
def fp (past:(List Int)) (id:Int):Option (List Int):=(eD past id).bind fun x1=>(appO x1 ([id])).bind fun x2=>(slcO x2 (mxI 0 (IntKind.i64.wrap ((x2.length:Int) - 16))) (x2.length:Int)).bind fun x3=>some x3
def i8 (id:Int) (c0:Tree):Option Bool:=(jk c0 id).bind fun x1=>some x1.2
def i7 (id:Int) (c1:Tree):Option Bool:=(i8 id c1).bind fun x1=>some (!x1)
def gA (p_s:(List Int)) (f_1:Tree) (k2:Unit→Option (Int×(List Int))) (again4:Int→Option (Int×(List Int))) (s3:Int):Option (Int×(List Int)):=sel (decide (s3<(p_s.length:Int))) ((ixO p_s.length s3).bind fun x6=>(p_s[x6]?).bind fun x7=>(i7 x7 f_1).bind fun x8=>sel x8 (some (s3,p_s)) (again4 (IntKind.i64.wrap (s3+1)))) (k2 ())
def fR (p_s:(List Int)) (f_1:Tree):Option (Int×(List Int)):=jn (fun (_s1:Unit)=>some ((-1),p_s)) fun k2=>loopK (gA p_s f_1 k2) N0 0
def fT (del_1:Tree) (k4:(Int×(List Int))→Option (List Int)) (again8:(Int×Int×(List Int))→Option (List Int)) (s7:Int×Int×(List Int)):Option (List Int):=sel (decide (s7.2.1<(s7.2.2.length:Int))) (jn (fun (s10:Int×(List Int))=>again8 (s10.1,IntKind.i64.wrap (s7.2.1+1),s10.2)) fun k11=>(ixO s7.2.2.length s7.2.1).bind fun x12=>(s7.2.2[x12]?).bind fun x13=>(i7 x13 del_1).bind fun x14=>sel (!x14) ((ixO s7.2.2.length s7.1).bind fun x16=>k11 (IntKind.i64.wrap (s7.1+1),List.set s7.2.2 x16 x13)) (k11 (s7.1,s7.2.2))) (k4 (s7.1,s7.2.2))
def fi (p_s:(List Int)) (del_1:Tree):Option (List Int):=(fR p_s del_1).bind fun x1=>sel (x1.1==(-1)) (some x1.2) (jn (fun (s3:Int×(List Int))=>(ixO (s3.2.length+1) s3.1).bind fun x5=>(ixO ((List.take x5 s3.2++List.replicate (s3.2.length - x5) 0).length+1) s3.1).bind fun x6=>some (List.take x6 (List.take x5 s3.2++List.replicate (s3.2.length - x5) 0))) fun k4=>loopK (fT del_1 k4) N0 (x1.1,IntKind.i64.wrap (x1.1+1),x1.2))
def bp (p_s:(List Int)) (v:Int) (k2:Unit→Option Int) (again4:Int→Option Int) (s3:Int):Option Int:=sel (decide (s3<(p_s.length:Int))) ((idxO p_s s3).bind fun x6=>sel (v==x6) (some s3) (again4 (IntKind.i64.wrap (s3+1)))) (k2 ())
def bg (p_s:(List Int)) (v:Int):Option Int:=jn (fun (_s1:Unit)=>some (-1)) fun k2=>loopK (bp p_s v k2) N0 0
def bV (p_s:(List Int)) (v:Int):Option Bool:=(bg p_s v).bind fun x1=>some (decide (x1≥0))
def jB (id:Int) (c0:(List Int)):Option Bool:=(bV c0 id).bind fun x1=>some x1
def n9 (candidates:(List Int)) (x11:(List Int)) (k13:Unit→Option Int) (again15:Int→Option Int) (s14:Int):Option Int:=sel (decide (s14≥0)) ((idxO x11 s14).bind fun x17=>(jB x17 candidates).bind fun x18=>sel x18 (some x17) (again15 (IntKind.i64.wrap (s14 - 1)))) (k13 ())
def n8 (candidates:(List Int)) (k10:Unit→Option Int) (x22:(List Int)) (again24:Int→Option Int) (s23:Int):Option Int:=sel (decide (s23<(x22.length:Int))) ((idxO x22 s23).bind fun x26=>(jB x26 candidates).bind fun x27=>sel x27 (some x26) (again24 (IntKind.i64.wrap (s23+1)))) (k10 ())
def n7 (past:(List Int)) (candidates:(List Int)) (k30:Unit→Option Int) (again32:Int→Option Int) (s31:Int):Option Int:=sel (decide (s31≥0)) ((idxO past s31).bind fun x34=>(jB x34 candidates).bind fun x35=>sel x35 (some x34) (again32 (IntKind.i64.wrap (s31 - 1)))) (k30 ())
def rG (order:(List Int)) (past:(List Int)) (candidates:(List Int)) (now:(List Int)) (lost:Int):Option Int:=jn (fun (_s1:Unit)=>jn (fun (_s3:Unit)=>sel (decide ((now.length:Int)>0)) ((idxO now 0).bind fun x6=>some x6) (some 0)) fun k4=>(bg order lost).bind fun x7=>sel (decide (x7≥0)) (jn (fun (_s9:Unit)=>(slcO order 0 x7).bind fun x11=>jn (fun (_s12:Unit)=>k4 ()) fun k13=>loopK (n9 candidates x11 k13) N0 (IntKind.i64.wrap ((x11.length:Int) - 1))) fun k10=>(slcO order (IntKind.i64.wrap (x7+1)) (order.length:Int)).bind fun x22=>loopK (n8 candidates k10 x22) N0 0) (k4 ())) fun k2=>jn (fun (_s29:Unit)=>k2 ()) fun k30=>loopK (n7 past candidates k30) N0 (IntKind.i64.wrap ((past.length:Int) - 1))
def lp (old:Tree) (t:Tree) (oldStyles:(List Styled)) (st:(List Styled)) (f:FocusState):Option FocusState:=(bn f.Past).bind fun x1=>(fi x1 t).bind fun x2=>(db t st).bind fun x3=>(gO (!(f.Focused==0)) (bV x3 f.Focused)).bind fun x4=>sel ((f.Focused==0)||x4) (some (FocusState.mk f.Focused f.Visible x2)) ((d7 old oldStyles).bind fun x6=>(d7 t st).bind fun x7=>(rG x6 x2 x3 x7 f.Focused).bind fun x8=>(eD x2 x8).bind fun x9=>jn (fun (s10:(List Int))=>(slcO s10 (mxI 0 (IntKind.i64.wrap ((s10.length:Int) - 16))) (s10.length:Int)).bind fun x12=>some (FocusState.mk x8 f.Visible x12)) fun k11=>(i8 f.Focused t).bind fun x13=>sel x13 ((fp x9 f.Focused).bind fun x15=>k11 x15) (k11 x9))
def oa (f:FocusState) (id:Int) (visible:Bool):Option FocusState:=(bn f.Past).bind fun x1=>sel (id==f.Focused) (some (FocusState.mk id visible x1)) ((eD x1 id).bind fun x3=>jn (fun (s4:(List Int))=>(slcO s4 (mxI 0 (IntKind.i64.wrap ((s4.length:Int) - 16))) (s4.length:Int)).bind fun x6=>some (FocusState.mk id visible x6)) fun k5=>sel (f.Focused != 0) ((fp x3 f.Focused).bind fun x8=>k5 x8) ((eD x3 0).bind fun x9=>k5 x9))
def i9 (t:Tree) (st:(List Styled)) (f:FocusState) (back:Bool):Option Int:=(d7 t st).bind fun x1=>(bg x1 f.Focused).bind fun x2=>sel ((x1.length:Int)==0) (some 0) (sel ((decide (x2<0))&&back) ((idxO x1 (IntKind.i64.wrap ((x1.length:Int) - 1))).bind fun x5=>some x5) (sel (decide (x2<0)) ((idxO x1 0).bind fun x7=>some x7) (sel back ((nzO (x1.length:Int) ((IntKind.i64.wrap ((IntKind.i64.wrap (x2+(x1.length:Int))) - 1)).tmod (x1.length:Int))).bind fun x9=>(idxO x1 x9).bind fun x10=>some x10) ((nzO (x1.length:Int) ((IntKind.i64.wrap (x2+1)).tmod (x1.length:Int))).bind fun x11=>(idxO x1 x11).bind fun x12=>some x12))))
end Go.Proofs.YtfoigppmcelgfaaGreatDoor
end
section
namespace Go.Proofs.YtfoigppmcelgfaaGreatDoor
open Go Go.E2
def gj (self0:AType→AType→Option (AType×Bool)) (a:AType) (b:AType):Option (AType×Bool):=sel (a.Kind != b.Kind) (some ((AType.mk 0 ([]:(List AType))),false)) (sel ((a.Of.length:Int)==0) (some (b,true)) (sel ((b.Of.length:Int)==0) (some (a,true)) ((idxO a.Of 0).bind fun x4=>(idxO b.Of 0).bind fun x5=>(self0 x4 x5).bind fun x6=>sel (!x6.2) (some ((AType.mk 0 ([]:(List AType))),false)) (some ((AType.mk a.Kind ([x6.1])),true)))))
def cR:Nat→AType→AType→Option (AType×Bool)
 | 0,_,_=>none
 | n+1,a,b=>gj (cR n) a b
def bT (self0:AValue→Int→Int→Option (AType×Int×Int)) (v:AValue) (depth:Int) (k8:(Int×Bool×(List AType))→Option (AType×Int×Int)) (again11:(Int×Bool×Int×(List AType))→Option (AType×Int×Int)) (s10:Int×Bool×Int×(List AType)):Option (AType×Int×Int):=sel (decide (s10.2.2.1<(v.L.length:Int))) (jn (fun (s13:Int×Bool×(List AType))=>again11 (s13.1,s13.2.1,IntKind.i64.wrap (s10.2.2.1+1),s13.2.2)) fun k14=>(idxO v.L s10.2.2.1).bind fun x15=>(self0 x15 (IntKind.i64.wrap (depth+1)) s10.1).bind fun x16=>sel (x16.2.2 != 0) (some ((AType.mk 0 ([]:(List AType))),x16.2.1,x16.2.2)) (sel (!s10.2.1) (k14 (x16.2.1,s10.2.1,s10.2.2.2)) (sel ((s10.2.2.2.length:Int)==0) (k14 (x16.2.1,s10.2.1,[x16.1])) ((idxO s10.2.2.2 0).bind fun x20=>(cR N0 x20 x16.1).bind fun x21=>k14 (x16.2.1,x21.2,[x21.1]))))) (k8 (s10.1,s10.2.1,s10.2.2.2))
def gL (self0:AValue→Int→Int→Option (AType×Int×Int)) (v:AValue) (depth:Int) (met:Int):Option (AType×Int×Int):=sel ((v.Kind==4)&&(decide (depth>16))) (some ((AType.mk 0 ([]:(List AType))),IntKind.i64.wrap (met+1),8)) (sel (((((decide (v.Kind<1))||(decide (v.Kind>4)))||(((v.N != 0)&&(v.Kind != 1))&&(v.Kind != 2)))||((!(v.S.toList==(ByteArray.mk #[]).toList))&&(v.Kind != 3)))||((decide ((v.L.length:Int)>0))&&(!(v.Kind==4)))) (some ((AType.mk 0 ([]:(List AType))),IntKind.i64.wrap (met+1),9)) (sel (((v.Kind==1)&&((decide (v.N<(-1099511627776)))||(decide (v.N>1099511627776))))||(((v.Kind==2)&&(v.N != 0))&&(v.N != 1))) (some ((AType.mk 0 ([]:(List AType))),IntKind.i64.wrap (met+1),1)) (sel (((decide ((v.S.size:Int)>2000))||(decide ((v.L.length:Int)>100)))||(decide ((IntKind.i64.wrap (met+1))>1000))) (some ((AType.mk 0 ([]:(List AType))),IntKind.i64.wrap (met+1),2)) ((lc v.S).bind fun x5=>sel (!x5) (some ((AType.mk 0 ([]:(List AType))),IntKind.i64.wrap (met+1),3)) (jn (fun (s7:Int×Bool×(List AType))=>sel (!s7.2.1) (some ((AType.mk 0 ([]:(List AType))),s7.1,5)) (some ((AType.mk v.Kind s7.2.2),s7.1,0))) fun k8=>loopK (bT self0 v depth k8) N0 (IntKind.i64.wrap (met+1),true,0,([]:(List AType))))))))
def gM:Nat→AValue→Int→Int→Option (AType×Int×Int)
 | 0,_,_,_=>none
 | n+1,v,depth,met=>gL (gM n) v depth met
def jR (v:AValue):Option (AType×Int):=(gM N0 v 1 0).bind fun x1=>some (x1.1,x1.2.2)
def gN (v:AValue):Option Int:=(jR v).bind fun x1=>some x1.2
end Go.Proofs.YtfoigppmcelgfaaGreatDoor
end
section
namespace Go.Proofs.YtfoigppmcelgfaaGreatDoor
open Go Go.E2
def du (self0:View→Int→Int→Option (Int×Int)) (v:View) (depth:Int) (k14:Int→Option (Int×Int)) (again16:(Int×Int)→Option (Int×Int)) (s15:Int×Int):Option (Int×Int):=sel (decide (s15.2<(v.Kids.length:Int))) ((idxO v.Kids s15.2).bind fun x18=>(self0 x18 (IntKind.i64.wrap (depth+1)) s15.1).bind fun x19=>sel (x19.2 != 0) (some (x19.1,x19.2)) (again16 (x19.1,IntKind.i64.wrap (s15.2+1)))) (k14 s15.1)
def dt (v:View) (met:Int) (s21:Int) (k27:Unit→Option (Int×Int)) (again29:Int→Option (Int×Int)) (s28:Int):Option (Int×Int):=sel (decide (s28<s21)) ((idxO v.Kids s21).bind fun x31=>(gO (!(x31.Key.toList==(ByteArray.mk #[]).toList)) (idxO v.Kids s21)).bind fun x32=>(gO (!(x31.Key.toList==(ByteArray.mk #[]).toList)) (idxO v.Kids s28)).bind fun x33=>sel ((!(x31.Key.toList==(ByteArray.mk #[]).toList))&&(x32.Key.toList==x33.Key.toList)) (some (IntKind.i64.wrap (met+1),6)) (again29 (IntKind.i64.wrap (s28+1)))) (k27 ())
def dr (v:View) (met:Int) (k12:Unit→Option (Int×Int)) (again22:Int→Option (Int×Int)) (s21:Int):Option (Int×Int):=sel (decide (s21<(v.Kids.length:Int))) (jn (fun (_s24:Unit)=>again22 (IntKind.i64.wrap (s21+1))) fun k25=>jn (fun (_s26:Unit)=>k25 ()) fun k27=>loopK (dt v met s21 k27) N0 0) (k12 ())
def cq (met:Int) (x40:Action) (k48:Unit→Option (Int×Int)) (again50:Int→Option (Int×Int)) (s49:Int):Option (Int×Int):=sel (decide (s49<(x40.Args.length:Int))) ((idxO x40.Args s49).bind fun x52=>(gN x52).bind fun x53=>sel (x53 != 0) (some (IntKind.i64.wrap (met+1),x53)) (again50 (IntKind.i64.wrap (s49+1)))) (k48 ())
def dq (v:View) (met:Int) (k10:Unit→Option (Int×Int)) (again36:Int→Option (Int×Int)) (s35:Int):Option (Int×Int):=sel (decide (s35<(v.Actions.length:Int))) (jn (fun (_s38:Unit)=>again36 (IntKind.i64.wrap (s35+1))) fun k39=>(idxO v.Actions s35).bind fun x40=>(i5 x40.Event).bind fun x41=>(gO (!(!x41)) (i5 x40.Handler)).bind fun x42=>sel ((!x41)||(!x42)) (some (IntKind.i64.wrap (met+1),4)) ((gO (decide (s35>0)) (idxO v.Actions (IntKind.i64.wrap (s35 - 1)))).bind fun x44=>sel ((decide (s35>0))&&(Op.bytesLess x40.Event.toList x44.Event.toList||x40.Event.toList==x44.Event.toList)) (some (IntKind.i64.wrap (met+1),10)) (sel ((decide ((x40.Instance.size:Int)>400))||(decide ((x40.Args.length:Int)>100))) (some (IntKind.i64.wrap (met+1),2)) (jn (fun (_s47:Unit)=>k39 ()) fun k48=>loopK (cq met x40 k48) N0 0)))) (k10 ())
def dn (v:View) (met:Int) (k8:Unit→Option (Int×Int)) (again56:Int→Option (Int×Int)) (s55:Int):Option (Int×Int):=sel (decide (s55<(v.Attrs.length:Int))) ((idxO v.Attrs s55).bind fun x58=>(i5 x58.Name).bind fun x59=>sel (!x59) (some (IntKind.i64.wrap (met+1),4)) ((gO (decide (s55>0)) (idxO v.Attrs s55)).bind fun x61=>(gO (decide (s55>0)) (idxO v.Attrs (IntKind.i64.wrap (s55 - 1)))).bind fun x62=>sel ((decide (s55>0))&&(Op.bytesLess x61.Name.toList x62.Name.toList||x61.Name.toList==x62.Name.toList)) (some (IntKind.i64.wrap (met+1),10)) ((idxO v.Attrs s55).bind fun x64=>(gN x64.Value).bind fun x65=>sel (x65 != 0) (some (IntKind.i64.wrap (met+1),x65)) (again56 (IntKind.i64.wrap (s55+1)))))) (k8 ())
def dX (self0:View→Int→Int→Option (Int×Int)) (v:View) (depth:Int) (met:Int):Option (Int×Int):=sel (decide (depth>16)) (some (IntKind.i64.wrap (met+1),8)) (sel (decide ((IntKind.i64.wrap (met+1))>400)) (some (IntKind.i64.wrap (met+1),2)) (sel ((decide (v.Kind<1))||(decide (v.Kind>13))) (some (IntKind.i64.wrap (met+1),9)) ((mX v.Key).bind fun x4=>sel (!x4) (some (IntKind.i64.wrap (met+1),4)) (sel (((decide ((v.Attrs.length:Int)>24))||(decide ((v.Actions.length:Int)>24)))||(decide ((v.Kids.length:Int)>100))) (some (IntKind.i64.wrap (met+1),2)) (jn (fun (_s7:Unit)=>jn (fun (_s9:Unit)=>jn (fun (_s11:Unit)=>jn (fun (s13:Int)=>some (s13,0)) fun k14=>loopK (du self0 v depth k14) N0 (IntKind.i64.wrap (met+1),0)) fun k12=>loopK (dr v met k12) N0 0) fun k10=>loopK (dq v met k10) N0 0) fun k8=>loopK (dn v met k8) N0 0)))))
def ew:Nat→View→Int→Int→Option (Int×Int)
 | 0,_,_,_=>none
 | n+1,v,depth,met=>dX (ew n) v depth met
def dv (v:View):Option Int:=(ew N0 v 1 0).bind fun x1=>some x1.2
def ia (t:Tree) (id:Int) (k2:Unit→Option Int) (again4:Int→Option Int) (s3:Int):Option Int:=sel (decide (s3<(t.Nodes.length:Int))) ((idxO t.Nodes s3).bind fun x6=>sel (x6.ID==id) (some s3) (again4 (IntKind.i64.wrap (s3+1)))) (k2 ())
def eY (t:Tree) (id:Int):Option Int:=jn (fun (_s1:Unit)=>some (-1)) fun k2=>loopK (ia t id k2) N0 0
def hZ (t:Tree) (id:Int):Option Node:=(eY t id).bind fun x1=>sel (decide (x1<0)) (some (Node.mk 0 0 0 ByteArray.empty ([]:(List Attr)) ([]:(List Action)) ([]:(List Int)))) ((idxO t.Nodes x1).bind fun x3=>some x3)
def hP (self0:Tree→Int→(List Int)→Option (List Int)) (t:Tree) (x2:Node) (k4:(List Int)→Option (List Int)) (again6:((List Int)×Int)→Option (List Int)) (s5:(List Int)×Int):Option (List Int):=sel (decide (s5.2<(x2.Kids.length:Int))) ((idxO x2.Kids s5.2).bind fun x8=>(self0 t x8 s5.1).bind fun x9=>again6 (x9,IntKind.i64.wrap (s5.2+1))) (k4 s5.1)
def gI (self0:Tree→Int→(List Int)→Option (List Int)) (t:Tree) (id:Int) (l:(List Int)):Option (List Int):=(appO l ([id])).bind fun x1=>(hZ t id).bind fun x2=>jn (fun (s3:(List Int))=>some s3) fun k4=>loopK (hP self0 t x2 k4) N0 (x1,0)
def gJ:Nat→Tree→Int→(List Int)→Option (List Int)
 | 0,_,_,_=>none
 | n+1,t,id,l=>gI (gJ n) t id l
def eW (x15:Node) (s20:Int×Int) (k30:Unit→Option Bool) (again32:Int→Option Bool) (s31:Int):Option Bool:=sel (decide (s31<s20.2)) ((idxO x15.Kids s31).bind fun x34=>(idxO x15.Kids s20.2).bind fun x35=>sel (x34==x35) (some false) (again32 (IntKind.i64.wrap (s31+1)))) (k30 ())
def dH (t:Tree) (x15:Node) (k19:Int→Option Bool) (again21:(Int×Int)→Option Bool) (s20:Int×Int):Option Bool:=sel (decide (s20.2<(x15.Kids.length:Int))) (jn (fun (_s23:Unit)=>again21 (IntKind.i64.wrap (s20.1+1),IntKind.i64.wrap (s20.2+1))) fun k24=>(idxO x15.Kids s20.2).bind fun x25=>(eY t x25).bind fun x26=>(gO (!(decide (x26<0))) (idxO t.Nodes x26)).bind fun x27=>sel ((decide (x26<0))||(x27.Parent != x15.ID)) (some false) (jn (fun (_s29:Unit)=>k24 ()) fun k30=>loopK (eW x15 s20 k30) N0 0)) (k19 s20.1)
def eV (t:Tree) (x4:Int) (k7:Int→Option Bool) (again11:(Int×Int)→Option Bool) (s10:Int×Int):Option Bool:=sel (decide (s10.2<(t.Nodes.length:Int))) (jn (fun (s13:Int)=>again11 (s13,IntKind.i64.wrap (s10.2+1))) fun k14=>(idxO t.Nodes s10.2).bind fun x15=>sel ((x15.Parent==0) != (s10.2==x4)) (some false) (sel (decide ((x15.Kids.length:Int)>(t.Nodes.length:Int))) (some false) (jn (fun (s18:Int)=>k14 s18) fun k19=>loopK (dH t x15 k19) N0 (s10.1,0)))) (k7 s10.1)
def eU (t:Tree) (k3:Unit→Option Bool) (again38:(Int×Int)→Option Bool) (s37:Int×Int):Option Bool:=sel (decide (s37.2<(t.Nodes.length:Int))) ((idxO t.Nodes s37.2).bind fun x40=>(gO (!(decide (x40.ID≤s37.1))) (idxO t.Nodes s37.2)).bind fun x41=>sel ((decide (x40.ID≤s37.1))||(decide (x41.ID≥t.Next))) (some false) ((idxO t.Nodes s37.2).bind fun x43=>again38 (x43.ID,IntKind.i64.wrap (s37.2+1)))) (k3 ())
def iI (t:Tree):Option Bool:=sel ((((decide (t.Next<2))||(decide (t.Next>1099511627776)))||(decide ((t.Nodes.length:Int)<1)))||(decide ((t.Nodes.length:Int)>400))) (some false) (jn (fun (_s2:Unit)=>(eY t t.Root).bind fun x4=>sel (decide (x4<0)) (some false) (jn (fun (s6:Int)=>sel (s6 != (IntKind.i64.wrap ((t.Nodes.length:Int) - 1))) (some false) ((gJ N0 t t.Root ([]:(List Int))).bind fun x9=>some ((x9.length:Int)==(t.Nodes.length:Int)))) fun k7=>loopK (eV t x4 k7) N0 (0,0))) fun k3=>loopK (eU t k3) N0 (0,0))
def eX (self0:Tree→Int→Option View) (t:Tree) (x1:Node) (k3:(List View)→Option View) (again5:(Int×(List View))→Option View) (s4:Int×(List View)):Option View:=sel (decide (s4.1<(x1.Kids.length:Int))) ((idxO x1.Kids s4.1).bind fun x7=>(self0 t x7).bind fun x8=>(appO s4.2 ([x8])).bind fun x9=>again5 (IntKind.i64.wrap (s4.1+1),x9)) (k3 s4.2)
def dY (self0:Tree→Int→Option View) (t:Tree) (id:Int):Option View:=(hZ t id).bind fun x1=>jn (fun (s2:(List View))=>some (View.mk x1.Kind x1.Key x1.Attrs x1.Actions s2)) fun k3=>loopK (eX self0 t x1 k3) N0 (0,([]:(List View)))
def ez:Nat→Tree→Int→Option View
 | 0,_,_=>none
 | n+1,t,id=>dY (ez n) t id
def dw (t:Tree):Option Int:=(iI t).bind fun x1=>sel (!x1) (some 12) ((ez N0 t t.Root).bind fun x3=>(dv x3).bind fun x4=>some x4)
def gK (t:Tree):Option (List Int):=(dw t).bind fun x1=>sel (x1 != 0) (some ([]:(List Int))) ((gJ N0 t t.Root ([]:(List Int))).bind fun x3=>some x3)
end Go.Proofs.YtfoigppmcelgfaaGreatDoor
end
section
namespace Go.Proofs.YtfoigppmcelgfaaGreatDoor
open Go Go.E2
def lX (self0:View→Int→Tree→Option Tree) (v:View) (t:Tree) (k3:((List Int)×Int×Int×(List Node))→Option Tree) (again7:((List Int)×Int×Int×Int×(List Node))→Option Tree) (s6:(List Int)×Int×Int×Int×(List Node)):Option Tree:=sel (decide (s6.2.1<(v.Kids.length:Int))) ((appO s6.1 ([s6.2.2.2.1])).bind fun x9=>(idxO v.Kids s6.2.1).bind fun x10=>(self0 x10 t.Next (Tree.mk s6.2.2.1 s6.2.2.2.1 s6.2.2.2.2)).bind fun x11=>again7 (x9,IntKind.i64.wrap (s6.2.1+1),x11.Root,x11.Next,x11.Nodes)) (k3 (s6.1,s6.2.2.1,s6.2.2.2.1,s6.2.2.2.2))
def kk (self0:View→Int→Tree→Option Tree) (v:View) (parent:Int) (t:Tree):Option Tree:=(appO t.Nodes ([(Node.mk t.Next parent v.Kind v.Key v.Attrs v.Actions ([]:(List Int)))])).bind fun x1=>jn (fun (s2:(List Int)×Int×Int×(List Node))=>(ixO s2.2.2.2.length (t.Nodes.length:Int)).bind fun x4=>(s2.2.2.2[x4]?).bind fun x5=>some (Tree.mk s2.2.1 s2.2.2.1 (List.set s2.2.2.2 x4 (Node.mk x5.ID x5.Parent x5.Kind x5.Key x5.Attrs x5.Actions s2.1)))) fun k3=>loopK (lX self0 v t k3) N0 (([]:(List Int)),0,t.Root,IntKind.i64.wrap (t.Next+1),x1)
def la:Nat→View→Int→Tree→Option Tree
 | 0,_,_,_=>none
 | n+1,v,parent,t=>kk (la n) v parent t
def lb (v:View) (next:Int):Option (Tree×Int):=(dv v).bind fun x1=>sel (x1 != 0) (some ((Tree.mk 0 0 ([]:(List Node))),x1)) (sel ((decide (next<1))||(decide (next>1099511627376))) (some ((Tree.mk 0 0 ([]:(List Node))),1)) ((la N0 v 0 (Tree.mk next next ([]:(List Node)))).bind fun x4=>some (x4,0)))
end Go.Proofs.YtfoigppmcelgfaaGreatDoor
end
section
namespace Go.Proofs.YtfoigppmcelgfaaGreatDoor
open Go Go.E2
def lg (t:Tree) (k2:(List Styled)→Option (List Styled)) (again4:((List Styled)×Int)→Option (List Styled)) (s3:(List Styled)×Int):Option (List Styled):=sel (decide (s3.2<(t.Nodes.length:Int))) ((idxO t.Nodes s3.2).bind fun x6=>(kj).bind fun x7=>(appO s3.1 ([(Styled.mk x6.ID x7)])).bind fun x8=>again4 (x8,IntKind.i64.wrap (s3.2+1))) (k2 s3.1)
def gm (t:Tree):Option (List Styled):=jn (fun (s1:(List Styled))=>some s1) fun k2=>loopK (lg t k2) N0 (([]:(List Styled)),0)
def jz  : Option Bool:=(lb (View.mk 1 ByteArray.empty ([]:(List Attr)) ([]:(List Action)) ([(View.mk 3 (ByteArray.mk #[98]) ([]:(List Attr)) ([]:(List Action)) ([]:(List View)))])) 1).bind fun x1=>(lb (View.mk 1 ByteArray.empty ([]:(List Attr)) ([]:(List Action)) ([(View.mk 3 (ByteArray.mk #[98]) ([]:(List Attr)) ([]:(List Action)) ([]:(List View))),(View.mk 12 (ByteArray.mk #[100]) ([]:(List Attr)) ([]:(List Action)) ([(View.mk 4 ByteArray.empty ([]:(List Attr)) ([]:(List Action)) ([]:(List View)))]))])) 1).bind fun x2=>(gm x1.1).bind fun x3=>(gm x2.1).bind fun x4=>(lp x1.1 x2.1 x3 x4 (FocusState.mk 2 false ([]:(List Int)))).bind fun x5=>(gm x2.1).bind fun x6=>(gm x1.1).bind fun x7=>(lp x2.1 x1.1 x6 x7 x5).bind fun x8=>(gO ((x5.Focused==4)&&((x5.Past.length:Int)==1)) (idxO x5.Past 0)).bind fun x9=>some ((((x5.Focused==4)&&((x5.Past.length:Int)==1))&&(x9==2))&&(x8.Focused==2))
end Go.Proofs.YtfoigppmcelgfaaGreatDoor
end
section
namespace Go.Proofs.YtfoigppmcelgfaaGreatDoor
open Go Go.E2
structure widgetryref29_Facts where
 T:Tree
 St:(List Styled)
 Order:(List Int)
 Seen:(List Int)
deriving Inhabited
def widgetryref29_Facts.cs (x:widgetryref29_Facts):List Go.E2.D:=[dI x.T.Root,dI x.T.Next,.sl (List.map Node.cs x.T.Nodes),.sl (List.map Styled.cs x.St),.sl (List.map (eInt .i64) x.Order),.sl (List.map (eInt .i64) x.Seen)]
def cj (t:Tree) (id:Int):Option (Node×Bool):=(eY t id).bind fun x1=>sel (decide (x1<0)) (some ((Node.mk 0 0 0 ByteArray.empty ([]:(List Attr)) ([]:(List Action)) ([]:(List Int))),false)) ((hZ t id).bind fun x3=>some (x3,true))
def f5 (p_n:Node) (event:Str) (k2:Unit→Option (Action×Bool)) (again4:Int→Option (Action×Bool)) (s3:Int):Option (Action×Bool):=sel (decide (s3<(p_n.Actions.length:Int))) ((idxO p_n.Actions s3).bind fun x6=>sel (x6.Event.toList==event.toList) ((idxO p_n.Actions s3).bind fun x8=>some (x8,true)) (again4 (IntKind.i64.wrap (s3+1)))) (k2 ())
def jM (p_n:Node) (event:Str):Option (Action×Bool):=jn (fun (_s1:Unit)=>some ((Action.mk ByteArray.empty ByteArray.empty ByteArray.empty ([]:(List AValue))),false)) fun k2=>loopK (f5 p_n event k2) N0 0
def kZ (l:(List Int)) (p_n:Int) (k2:Unit→Option Bool) (again4:Int→Option Bool) (s3:Int):Option Bool:=sel (decide (s3<(l.length:Int))) ((idxO l s3).bind fun x6=>sel (x6==p_n) (some true) (again4 (IntKind.i64.wrap (s3+1)))) (k2 ())
def qh (l:(List Int)) (p_n:Int):Option Bool:=jn (fun (_s1:Unit)=>some false) fun k2=>loopK (kZ l p_n k2) N0 0
def iY (prop:Int) (p_n:Int):Option Bool:=jn (fun (s1:Int×Int)=>some ((((decide (prop≥0))&&(decide (prop<22)))&&(decide (p_n≥s1.1)))&&(decide (p_n≤s1.2)))) fun k2=>sel (prop==0) (k2 (0,16777215)) (sel (prop==1) (k2 ((-1),16777215)) (sel (prop==2) (k2 (1,1000)) (sel (prop==3) (k2 (0,7)) (jn (fun (s7:Bool)=>sel s7 (k2 (0,1)) (jn (fun (s10:Bool)=>sel s10 (k2 (0,4)) (sel (prop==7) (k2 (0,3)) (sel (prop==8) (k2 (0,2)) (jn (fun (s15:Bool)=>sel s15 (k2 (0,1000)) (sel (prop==12) (k2 ((-1),1048576)) (k2 (0,1048576)))) fun k16=>sel (prop==10) (k16 (prop==10)) (k16 (prop==11)))))) fun k11=>sel (prop==5) (k11 (prop==5)) (k11 (prop==6)))) fun k8=>sel (prop==4) (k8 (prop==4)) (k8 (prop==21))))))
def iZ (l:(List Styled)) (id:Int) (k2:Unit→Option (Nat→Int)) (again4:Int→Option (Nat→Int)) (s3:Int):Option (Nat→Int):=sel (decide (s3<(l.length:Int))) ((idxO l s3).bind fun x6=>sel (x6.ID==id) ((idxO l s3).bind fun x8=>some x8.Style) (again4 (IntKind.i64.wrap (s3+1)))) (k2 ())
def jO (l:(List Styled)) (id:Int):Option (Nat→Int):=jn (fun (_s1:Unit)=>some (fun _=>0)) fun k2=>loopK (iZ l id k2) N0 0
def eT (t:Tree) (l:(List Styled)) (k3:Unit→Option Bool) (again5:Int→Option Bool) (s4:Int):Option Bool:=sel (decide (s4<(l.length:Int))) ((idxO l s4).bind fun x7=>(idxO t.Nodes s4).bind fun x8=>sel (x7.ID != x8.ID) (some false) (again5 (IntKind.i64.wrap (s4+1)))) (k3 ())
def fL (t:Tree) (l:(List Styled)):Option Bool:=sel ((l.length:Int) != (t.Nodes.length:Int)) (some false) (jn (fun (_s2:Unit)=>some true) fun k3=>loopK (eT t l k3) N0 0)
def fl (kind:Int):Option Bool:=some ((((kind==2)||(kind==4))||(kind==7))||(kind==9))
def gg (kind:Int):Option Bool:=some ((kind==5)||(kind==13))
def f7 (st:(List Styled)) (s5:Int) (k11:Unit→Option Int) (again13:Int→Option Int) (s12:Int):Option Int:=sel (decide (s12<22)) ((idxO st s5).bind fun x15=>(ixO 22 s12).bind fun x16=>(iY s12 (x15.Style x16)).bind fun x17=>sel (!x17) (some 1) (again13 (IntKind.i64.wrap (s12+1)))) (k11 ())
def f6 (st:(List Styled)) (k4:Unit→Option Int) (again6:Int→Option Int) (s5:Int):Option Int:=sel (decide (s5<(st.length:Int))) (jn (fun (_s8:Unit)=>again6 (IntKind.i64.wrap (s5+1))) fun k9=>jn (fun (_s10:Unit)=>k9 ()) fun k11=>loopK (f7 st s5 k11) N0 0) (k4 ())
def gf (t:Tree) (st:(List Styled)):Option Int:=(fL t st).bind fun x1=>sel (!x1) (some 7) (jn (fun (_s3:Unit)=>some 0) fun k4=>loopK (f6 st k4) N0 0)
def cZ (self0:Tree→(List Styled)→Int→(List Int)→Option (List Int)) (t:Tree) (st:(List Styled)) (x1:Node) (k10:(List Int)→Option (List Int)) (again12:((List Int)×Int)→Option (List Int)) (s11:(List Int)×Int):Option (List Int):=sel (decide (s11.2<(x1.Kids.length:Int))) ((idxO x1.Kids s11.2).bind fun x14=>(self0 t st x14 s11.1).bind fun x15=>again12 (x15,IntKind.i64.wrap (s11.2+1))) (k10 s11.1)
def gG (self0:Tree→(List Styled)→Int→(List Int)→Option (List Int)) (t:Tree) (st:(List Styled)) (id:Int) (l:(List Int)):Option (List Int):=(hZ t id).bind fun x1=>(jO st id).bind fun x2=>(gO (!((x2 5)==0)) (dJ x1.Attrs (ByteArray.mk #[104,105,100,100,101,110]))).bind fun x3=>sel (((x2 5)==0)||x3) (some l) ((appO l ([id])).bind fun x5=>(fl x1.Kind).bind fun x6=>(gO (!x6) (gg x1.Kind)).bind fun x7=>sel (x6||x7) (some x5) (jn (fun (s9:(List Int))=>some s9) fun k10=>loopK (cZ self0 t st x1 k10) N0 (x5,0)))
def cT:Nat→Tree→(List Styled)→Int→(List Int)→Option (List Int)
 | 0,_,_,_,_=>none
 | n+1,t,st,id,l=>gG (cT n) t st id l
def gH (t:Tree) (st:(List Styled)):Option (List Int):=(dw t).bind fun x1=>(gO (!(x1 != 0)) (gf t st)).bind fun x2=>sel ((x1 != 0)||(x2 != 0)) (some ([]:(List Int))) ((cT N0 t st t.Root ([]:(List Int))).bind fun x4=>some x4)
def iX (st:(List Styled)) (x2:(List Int)) (k4:(List Int)→Option widgetryref29_Facts) (again6:(Int×(List Int))→Option widgetryref29_Facts) (s5:Int×(List Int)):Option widgetryref29_Facts:=sel (decide (s5.1<(x2.length:Int))) (jn (fun (s8:(List Int))=>again6 (IntKind.i64.wrap (s5.1+1),s8)) fun k9=>(idxO x2 s5.1).bind fun x10=>(jO st x10).bind fun x11=>sel ((x11 21)==0) ((idxO x2 s5.1).bind fun x13=>(appO s5.2 ([x13])).bind fun x14=>k9 x14) (k9 s5.2)) (k4 s5.2)
def hO (t:Tree) (st:(List Styled)):Option widgetryref29_Facts:=(gK t).bind fun x1=>(gH t st).bind fun x2=>jn (fun (s3:(List Int))=>some (widgetryref29_Facts.mk t st x1 s3)) fun k4=>loopK (iX st x2 k4) N0 (0,([]:(List Int)))
def aN (f:widgetryref29_Facts) (k3:(List Int)→Option (List Int)) (again6:((List Int)×Int×Int×Int×Str×(List Attr)×(List Action)×(List Int)×Bool)→Option (List Int)) (s5:(List Int)×Int×Int×Int×Str×(List Attr)×(List Action)×(List Int)×Bool):Option (List Int):=sel s5.2.2.2.2.2.2.2.2 ((appO ([s5.2.1]) s5.1).bind fun x8=>(cj f.T s5.2.2.1).bind fun x9=>again6 (x8,x9.1.ID,x9.1.Parent,x9.1.Kind,x9.1.Key,x9.1.Attrs,x9.1.Actions,x9.1.Kids,x9.2)) (k3 s5.1)
def cM (f:widgetryref29_Facts) (id:Int):Option (List Int):=sel ((f.Order.length:Int)==0) (some ([]:(List Int))) (jn (fun (s2:(List Int))=>some s2) fun k3=>(cj f.T id).bind fun x4=>loopK (aN f k3) N0 (([]:(List Int)),x4.1.ID,x4.1.Parent,x4.1.Kind,x4.1.Key,x4.1.Attrs,x4.1.Actions,x4.1.Kids,x4.2))
def cF (f:widgetryref29_Facts) (x1:(List Int)) (k3:Unit→Option Bool) (again5:Int→Option Bool) (s4:Int):Option Bool:=sel (decide (s4<(x1.length:Int))) ((idxO x1 s4).bind fun x7=>(cj f.T x7).bind fun x8=>(dJ x8.1.Attrs (ByteArray.mk #[100,105,115,97,98,108,101,100])).bind fun x9=>sel x9 (some true) (again5 (IntKind.i64.wrap (s4+1)))) (k3 ())
def bE (f:widgetryref29_Facts) (id:Int):Option Bool:=(cM f id).bind fun x1=>jn (fun (_s2:Unit)=>some false) fun k3=>loopK (cF f x1 k3) N0 0
def jN (p_n:Node) (event:Str):Option Bool:=(jM p_n event).bind fun x1=>some x1.2
def dG (p_n:Node):Option Bool:=sel (((p_n.Kind==3)||(p_n.Kind==6))||(p_n.Kind==7)) (some true) ((gO ((p_n.Kind != 4)&&(p_n.Kind != 13)) (jN p_n (ByteArray.mk #[112,114,101,115,115]))).bind fun x2=>some (((p_n.Kind != 4)&&(p_n.Kind != 13))&&x2))
def jd (l:(List Int)) (p_n:Int):Option Bool:=(qh l p_n).bind fun x1=>some x1
def fZ (f:widgetryref29_Facts) (k4:Int→Option Int) (again6:(Int×Int)→Option Int) (s5:Int×Int):Option Int:=sel (decide (s5.2<(f.Order.length:Int))) (jn (fun (s8:Int)=>again6 (s8,IntKind.i64.wrap (s5.2+1))) fun k9=>(idxO f.Order s5.2).bind fun x10=>(cj f.T x10).bind fun x11=>(gO (x11.1.Kind==12) (jd f.Seen x11.1.ID)).bind fun x12=>sel ((x11.1.Kind==12)&&x12) (k9 x11.1.ID) (k9 s5.1)) (k4 s5.1)
def fk (f:widgetryref29_Facts):Option Int:=sel ((f.Order.length:Int)==0) (some 0) ((idxO f.Order 0).bind fun x2=>jn (fun (s3:Int)=>some s3) fun k4=>loopK (fZ f k4) N0 (x2,0))
def fK (t:Tree) (st:(List Styled)):Option Int:=(hO t st).bind fun x1=>(fk x1).bind fun x2=>some x2
def eu (f:widgetryref29_Facts) (id:Int):Option Bool:=(fk f).bind fun x1=>(gO (x1 != 0) (cM f id)).bind fun x2=>(gO (x1 != 0) (jd x2 x1)).bind fun x3=>some ((x1 != 0)&&x3)
def eS (f:widgetryref29_Facts) (k2:(List Int)→Option (List Int)) (again4:((List Int)×Int)→Option (List Int)) (s3:(List Int)×Int):Option (List Int):=sel (decide (s3.2<(f.Order.length:Int))) (jn (fun (s6:(List Int))=>again4 (s6,IntKind.i64.wrap (s3.2+1))) fun k7=>(idxO f.Order s3.2).bind fun x8=>(cj f.T x8).bind fun x9=>(dG x9.1).bind fun x10=>(gO (!((x10||(x9.1.Kind==4))||(x9.1.Kind==13))) (dJ x9.1.Attrs (ByteArray.mk #[102,111,99,117,115,97,98,108,101]))).bind fun x11=>(gO (((x10||(x9.1.Kind==4))||(x9.1.Kind==13))||x11) (jd f.Seen x9.1.ID)).bind fun x12=>(gO ((((x10||(x9.1.Kind==4))||(x9.1.Kind==13))||x11)&&x12) (bE f x9.1.ID)).bind fun x13=>(gO (((((x10||(x9.1.Kind==4))||(x9.1.Kind==13))||x11)&&x12)&&(!x13)) (eu f x9.1.ID)).bind fun x14=>sel ((((((x10||(x9.1.Kind==4))||(x9.1.Kind==13))||x11)&&x12)&&(!x13))&&x14) ((appO s3.1 ([x9.1.ID])).bind fun x16=>k7 x16) (k7 s3.1)) (k2 s3.1)
def gb (f:widgetryref29_Facts):Option (List Int):=jn (fun (s1:(List Int))=>some s1) fun k2=>loopK (eS f k2) N0 (([]:(List Int)),0)
def hG (t:Tree) (id:Int):Option Int:=(cj t id).bind fun x1=>(gh x1.1.Attrs (ByteArray.mk #[116,97,98]) 0).bind fun x2=>sel (decide (x2≤0)) (some 1099511627777) (some x2)
def cm (f:widgetryref29_Facts) (x1:(List Int)) (s4:(List Int)×Int) (k10:Int→Option (List Int)) (again17:Int→Option (List Int)) (s16:Int):Option (List Int):=(gO (decide (s16>0)) (idxO s4.1 (IntKind.i64.wrap (s16 - 1)))).bind fun x18=>(gO (decide (s16>0)) (hG f.T x18)).bind fun x19=>(gO (decide (s16>0)) (idxO x1 s4.2)).bind fun x20=>(gO (decide (s16>0)) (hG f.T x20)).bind fun x21=>sel ((decide (s16>0))&&(decide (x19>x21))) (again17 (IntKind.i64.wrap (s16 - 1))) (k10 s16)
def fC (f:widgetryref29_Facts) (x1:(List Int)) (k3:(List Int)→Option (List Int)) (again5:((List Int)×Int)→Option (List Int)) (s4:(List Int)×Int):Option (List Int):=sel (decide (s4.2<(x1.length:Int))) (jn (fun (s7:(List Int))=>again5 (s7,IntKind.i64.wrap (s4.2+1))) fun k8=>jn (fun (s9:Int)=>(slcO s4.1 0 s9).bind fun x11=>(idxO x1 s4.2).bind fun x12=>(slcO s4.1 s9 (s4.1.length:Int)).bind fun x13=>(appO ([x12]) x13).bind fun x14=>(appO x11 x14).bind fun x15=>k8 x15) fun k10=>loopK (cm f x1 s4 k10) N0 (s4.1.length:Int)) (k3 s4.1)
def ej (f:widgetryref29_Facts):Option (List Int):=(gb f).bind fun x1=>jn (fun (s2:(List Int))=>some s2) fun k3=>loopK (fC f x1 k3) N0 (([]:(List Int)),0)
def dW (t:Tree) (st:(List Styled)):Option (List Int):=(hO t st).bind fun x1=>(ej x1).bind fun x2=>some x2
def hH (l:(List Int)) (p_n:Int) (k2:Unit→Option Int) (again4:Int→Option Int) (s3:Int):Option Int:=sel (decide (s3<(l.length:Int))) ((idxO l s3).bind fun x6=>sel (x6==p_n) (some s3) (again4 (IntKind.i64.wrap (s3+1)))) (k2 ())
def jq (l:(List Int)) (p_n:Int):Option Int:=jn (fun (_s1:Unit)=>some (-1)) fun k2=>loopK (hH l p_n k2) N0 0
def f4 (t:Tree) (st:(List Styled)) (f:FocusState) (back:Bool):Option Int:=(dW t st).bind fun x1=>sel ((x1.length:Int)==0) (some 0) ((jq x1 f.Focused).bind fun x3=>sel ((decide (x3<0))&&back) ((idxO x1 (IntKind.i64.wrap ((x1.length:Int) - 1))).bind fun x5=>some x5) (sel (decide (x3<0)) ((idxO x1 0).bind fun x7=>some x7) (sel back ((nzO (x1.length:Int) ((IntKind.i64.wrap ((IntKind.i64.wrap (x3+(x1.length:Int))) - 1)).tmod (x1.length:Int))).bind fun x9=>(idxO x1 x9).bind fun x10=>some x10) ((nzO (x1.length:Int) ((IntKind.i64.wrap (x3+1)).tmod (x1.length:Int))).bind fun x11=>(idxO x1 x11).bind fun x12=>some x12))))
def fB (l:(List Int)) (p_n:Int) (k2:(List Int)→Option (List Int)) (again4:((List Int)×Int)→Option (List Int)) (s3:(List Int)×Int):Option (List Int):=sel (decide (s3.2<(l.length:Int))) (jn (fun (s6:(List Int))=>again4 (s6,IntKind.i64.wrap (s3.2+1))) fun k7=>(idxO l s3.2).bind fun x8=>sel (x8 != p_n) ((idxO l s3.2).bind fun x10=>(appO s3.1 ([x10])).bind fun x11=>k7 x11) (k7 s3.1)) (k2 s3.1)
def fj (l:(List Int)) (p_n:Int):Option (List Int):=jn (fun (s1:(List Int))=>some s1) fun k2=>loopK (fB l p_n k2) N0 (([]:(List Int)),0)
def kY (f:FocusState) (id:Int) (keep:Bool):Option FocusState:=(fj f.Past id).bind fun x1=>(fj x1 f.Focused).bind fun x2=>jn (fun (s3:(List Int))=>jn (fun (s5:(List Int))=>some (FocusState.mk id f.Visible s5)) fun k6=>sel (decide ((s3.length:Int)>16)) ((slcO s3 (IntKind.i64.wrap ((s3.length:Int) - 16)) (s3.length:Int)).bind fun x8=>k6 x8) (k6 s3)) fun k4=>sel ((f.Focused != 0)&&keep) ((appO x2 ([f.Focused])).bind fun x10=>k4 x10) (k4 x2)
def mU (f:FocusState) (id:Int) (visible:Bool):Option FocusState:=jn (fun (s1:Int×Bool×(List Int))=>some (FocusState.mk s1.1 visible s1.2.2)) fun k2=>sel (id != f.Focused) ((kY f id true).bind fun x4=>k2 (x4.Focused,x4.Visible,x4.Past)) (k2 (f.Focused,f.Visible,f.Past))
def hI (a:FocusState) (b:FocusState) (k3:Unit→Option Bool) (again5:Int→Option Bool) (s4:Int):Option Bool:=sel (decide (s4<(a.Past.length:Int))) ((idxO a.Past s4).bind fun x7=>(idxO b.Past s4).bind fun x8=>sel (x7 != x8) (some false) (again5 (IntKind.i64.wrap (s4+1)))) (k3 ())
def jr (a:FocusState) (b:FocusState):Option Bool:=sel (((a.Focused != b.Focused)||(a.Visible != b.Visible))||((a.Past.length:Int) != (b.Past.length:Int))) (some false) (jn (fun (_s2:Unit)=>some true) fun k3=>loopK (hI a b k3) N0 0)
def e8 (a:(List Int)) (b:(List Int)) (k3:Unit→Option Bool) (again5:Int→Option Bool) (s4:Int):Option Bool:=sel (decide (s4<(a.length:Int))) ((idxO a s4).bind fun x7=>(idxO b s4).bind fun x8=>sel (x7 != x8) (some false) (again5 (IntKind.i64.wrap (s4+1)))) (k3 ())
def eA (a:(List Int)) (b:(List Int)):Option Bool:=sel ((a.length:Int) != (b.length:Int)) (some false) (jn (fun (_s2:Unit)=>some true) fun k3=>loopK (e8 a b k3) N0 0)
def cU (t:Tree) (k3:Unit→Option Bool) (again17:Int→Option Bool) (s16:Int):Option Bool:=sel (decide (s16<(t.Nodes.length:Int))) ((idxO t.Nodes s16).bind fun x19=>(gO (!(decide ((x19.Kids.length:Int)>20))) (idxO t.Nodes s16)).bind fun x20=>(gO (!((decide ((x19.Kids.length:Int)>20))||(decide ((x20.Attrs.length:Int)>20)))) (idxO t.Nodes s16)).bind fun x21=>sel (((decide ((x19.Kids.length:Int)>20))||(decide ((x20.Attrs.length:Int)>20)))||(decide ((x21.Actions.length:Int)>20))) (some true) (again17 (IntKind.i64.wrap (s16+1)))) (k3 ())
def ij (f:FocusState) (id:Int) (visible:Bool) (t:Tree) (st:(List Styled)):Option Bool:=sel (((decide ((f.Past.length:Int)>60))||(decide ((t.Nodes.length:Int)>20)))||(decide ((st.length:Int)>20))) (some true) (jn (fun (_s2:Unit)=>(oa f id visible).bind fun x4=>(mU f id visible).bind fun x5=>(jr x4 x5).bind fun x6=>sel (!x6) (some false) ((io t st).bind fun x8=>(fK t st).bind fun x9=>(gO (x8==x9) (d7 t st)).bind fun x10=>(gO (x8==x9) (dW t st)).bind fun x11=>(gO (x8==x9) (eA x10 x11)).bind fun x12=>(gO ((x8==x9)&&x12) (i9 t st f visible)).bind fun x13=>(gO ((x8==x9)&&x12) (f4 t st f visible)).bind fun x14=>(gO (((x8==x9)&&x12)&&(x13==x14)) jz).bind fun x15=>some ((((x8==x9)&&x12)&&(x13==x14))&&x15))) fun k3=>loopK (cU t k3) N0 0)
end Go.Proofs.YtfoigppmcelgfaaGreatDoor
end

/-
  Part 2 of the texts under the law HitOrder: the calculus, the plain functions, their walks, plain facts.
-/
import Derived.Test.YtfoigppmcelgfaaDoorHitOrderB1
import Derived.KernelRfl
import Derived.ProofKit
import Derived.OpenShut
import Derived.ShutString
import Derived.ChangeOld
import Derived.Below
import Derived.Carry
import Derived.Test.YtfoigppmcelgfaaDoorProg
section
namespace Go.E2
variable {P : Program} {C : Ctx} {F : FS} {ops : Array Oper} {dst : Nat} {op : Op} {ty : TypeId} {pos : String} {after : Array Edge}
def isStr (P : Program) (t : TypeId) : Bool:=match P.underlying t with
 | some .string=>true
 | _=>false
theorem isStr_run {t : TypeId} (h : isStr P t = true) (w : World) : (underlying t).run P w = .ok .string w:=by
 unfold isStr at h
 split at h
 ·rename_i hu;simp [underlying,program,Sem.run,hu]
 ·cases h
theorem sidx_run {t : TypeId} {s : Str} {k : IntKind} {i n : Int} (h : sidxO s i = some n) (ht : isStr P t = true) (w : World) : (Instr.index t (.string s) (.int k i)).run P w = .ok (.int .u8 n) w:=by
 unfold sidxO at h
 split at h
 ·rename_i h0
  cases hb : s[i.toNat]? with
  | none=>rw [hb] at h;cases h
  | some b =>
   rw [hb] at h
   simp only [Option.map_some,Option.some.injEq] at h
   subst h
   unfold Instr.index
   have hk : (asIntOf (.int k i)).run P w = .ok (k,i) w:=rfl
   rw [run_bind_ok hk]
   simp only
   rw [run_bind_ok (isStr_run ht w)]
   simp only [h0,if_true,hb]
   rfl
 ·cases h
theorem triSIdx {t : TypeId} {x i : Operand} {s : Str} {k : IntKind} {n m : Int} (h : sidxO s n = some m) (hx : rdV F x = some (.string s)) (hi : rdV F i = some (.int k n)) (ht : isStr P t = true) (hs : sideOk F true [x,i]) (hn : Nat.blt dst C.n = true) :
  TriL P C ops ⟨some dst,.index t x i,ty,pos,after,none⟩ ⟨slotsOf [x,i],[],[dst],[]⟩ [(dst,.s (.c (.d (.v (.int .u8 m)))))] [] F:=by
 refine ⟨⟨rfl,rfl⟩,fun F' hS=>?_⟩
 have h1:=opnd_same hS.1
 refine Tri.quiet (x:=.c (.d (.v (.int .u8 m)))) rfl rfl hn (fun ρ M a' w hr=>⟨_,?_,Rep.v _⟩)
 have hR:=reads_of hr rfl (sideOk_same h1 hs)
 unfold execOp
 simp only
 rw [rdV_eval hR (by simp) ((rdV_same (h1 x (by simp))).trans hx),rdV_eval hR (by simp) ((rdV_same (h1 i (by simp))).trans hi)]
 exact bind_value (sidx_run h ht w)
theorem triSIdxG {t : TypeId} {x i : Operand} {s : Str} {k : IntKind} {n m : Int} {gk : Nat} {want g : Bool} (h : g = true → sidxO s n = some m) (hb : guardB F ops gk want = some g) (hx : rdV F x = some (.string s)) (hi : rdV F i = some (.int k n)) (ht : isStr P t = true) (hs : sideOk F g [x,i]) (hn : Nat.blt dst C.n = true) :
  TriL P C ops ⟨some dst,.index t x i,ty,pos,after,some (gk,want)⟩ ⟨gSlot ops gk ++ slotsOf [x,i],[],[dst],[]⟩ [(dst,.gd g (.c (.d (.v (.int .u8 m)))))] [] F:=by
 refine ⟨⟨rfl,rfl⟩,fun F' hS=>?_⟩
 have h1:=opnd_same (F:=F) (F':=F') (xs:=[x,i]) (fun t ht=>hS.1 t (by simp [ht]))
 refine Tri.quietG (x:=.c (.d (.v (.int .u8 m)))) rfl ((guardB_same (fun t ht=>hS.1 t (by simp [ht]))).trans hb) rfl hn (fun hg ρ M a' w hr=>⟨_,?_,Rep.v _⟩)
 have hR:=reads_of hr hg (sideOk_same h1 hs)
 unfold execOp
 simp only
 rw [rdV_eval hR (by simp) ((rdV_same (h1 x (by simp))).trans hx),rdV_eval hR (by simp) ((rdV_same (h1 i (by simp))).trans hi)]
 exact bind_value (sidx_run (h hg) ht w)
theorem sslc_run {t : TypeId} {s u : Str} {lo hi : Int} (h : sslcO s lo hi = some u) (ht : isStr P t = true) {ol oh : Option Value} (hl : Bnd ol 0 lo) (hh : Bnd oh s.size hi) (w : World) : (Instr.sliceAt t (.string s) ol oh none).run P w = .ok (.string u) w:=by
 unfold sslcO at h
 split at h
 ·rename_i hc
  cases h
  obtain ⟨h0,h1,h2⟩:=hc
  have hb : (Instr.sliceBounds false s.size s.size ol oh none).run P w = .ok (lo.toNat,hi.toNat,s.size) w:=by
   unfold Instr.sliceBounds
   simp only [pure_bind]
   rcases hh with ⟨rfl,rfl⟩ | ⟨k,rfl⟩
   ·rcases hl with ⟨rfl,rfl⟩ | ⟨k',rfl⟩
    ·simp only [Int.toNat_natCast,Int.toNat_zero];rfl
    ·simp only
     rw [run_bind_ok (sliceBound_run h0 (by omega) w)]
     simp only [Int.toNat_natCast];rfl
   ·simp only
    rw [run_bind_ok (sliceBound_run (by omega) (by omega) w)]
    rcases hl with ⟨rfl,rfl⟩ | ⟨k',rfl⟩
    ·rfl
    ·simp only
     rw [run_bind_ok (sliceBound_run h0 (by omega) w)]
     rfl
  have hu:=isStr_run ht w
  unfold Instr.sliceAt
  rw [run_bind_ok hu]
  simp only
  unfold Instr.slice
  rw [run_bind_ok hu]
  simp only [Option.isSome_none,Bool.false_eq_true,if_false]
  rw [run_bind_ok hb]
  rfl
 ·cases h
theorem triSSlc {t : TypeId} {x : Operand} {s u : Str} {lo hi : Int} {l h : Option Operand} {vl vh : Option Value} (hr : sslcO s lo hi = some u) (hx : rdV F x = some (.string s)) (hl : rdO F l = some vl) (hh : rdO F h = some vh) (bl : Bnd vl 0 lo) (bh : Bnd vh s.size hi) (ht : isStr P t = true) (hs : sideOk F true ([x] ++ l.toList ++ h.toList)) (hd : Nat.blt dst C.n = true) :
  TriL P C ops ⟨some dst,.slice t x l h none,ty,pos,after,none⟩ ⟨slotsOf ([x] ++ l.toList ++ h.toList),[],[dst],[]⟩ [(dst,.s (.c (.d (.v (.string u)))))] [] F:=by
 refine ⟨⟨rfl,rfl⟩,fun F' hS=>?_⟩
 have h1:=opnd_same hS.1
 refine Tri.quiet (x:=.c (.d (.v (.string u)))) rfl rfl hd (fun ρ M a w hr'=>⟨_,?_,Rep.v _⟩)
 have hR:=reads_of hr' rfl (sideOk_same h1 hs)
 unfold execOp
 simp only
 rw [rdV_eval hR (by simp) ((rdV_same (h1 x (by simp))).trans hx),rdO_eval hR (fun y hy=>by simp [hy]) ((rdO_same (fun y hy=>h1 y (by simp [hy]))).trans hl),rdO_eval hR (fun y hy=>by simp [hy]) ((rdO_same (fun y hy=>h1 y (by simp [hy]))).trans hh)]
 exact bind_value (sslc_run hr ht bl bh w)
theorem triSSlcG {t : TypeId} {x : Operand} {s u : Str} {lo hi : Int} {l h : Option Operand} {vl vh : Option Value} {gk : Nat} {want g : Bool} (hr : g = true → sslcO s lo hi = some u) (hb : guardB F ops gk want = some g) (hx : rdV F x = some (.string s)) (hl : rdO F l = some vl) (hh : rdO F h = some vh) (bl : Bnd vl 0 lo) (bh : Bnd vh s.size hi) (ht : isStr P t = true) (hs : sideOk F g ([x] ++ l.toList ++ h.toList)) (hd : Nat.blt dst C.n = true) :
  TriL P C ops ⟨some dst,.slice t x l h none,ty,pos,after,some (gk,want)⟩ ⟨gSlot ops gk ++ slotsOf ([x] ++ l.toList ++ h.toList),[],[dst],[]⟩ [(dst,.gd g (.c (.d (.v (.string u)))))] [] F:=by
 refine ⟨⟨rfl,rfl⟩,fun F' hS=>?_⟩
 have h1:=opnd_same (F:=F) (F':=F') (xs:=[x] ++ l.toList ++ h.toList) (fun t ht=>hS.1 t (by simp only [List.mem_append];exact .inr ht))
 refine Tri.quietG (x:=.c (.d (.v (.string u)))) rfl ((guardB_same (fun t ht=>hS.1 t (by simp only [List.mem_append];exact .inl ht))).trans hb) rfl hd (fun hg ρ M a w hr'=>⟨_,?_,Rep.v _⟩)
 have hR:=reads_of hr' hg (sideOk_same h1 hs)
 unfold execOp
 simp only
 rw [rdV_eval hR (by simp) ((rdV_same (h1 x (by simp))).trans hx),rdO_eval hR (fun y hy=>by simp [hy]) ((rdO_same (fun y hy=>h1 y (by simp [hy]))).trans hl),rdO_eval hR (fun y hy=>by simp [hy]) ((rdO_same (fun y hy=>h1 y (by simp [hy]))).trans hh)]
 exact bind_value (sslc_run (hr hg) ht bl bh w)
theorem runesFrom_eq (s : Str) : ∀ (n i : Nat) (acc : Array Value),Conv.runesFrom s n i acc = acc ++ ((runesF s n i).map fun r=>Value.int .i32 r).toArray
 | 0,i,acc=>by simp [Conv.runesFrom,runesF]
 | n + 1,i,acc=>by
  unfold Conv.runesFrom runesF
  split
  ·show Conv.runesFrom s n (i + (Utf8.decode s i).2) (acc.push (Value.int IntKind.i32 (Int.ofNat (Utf8.decode s i).1))) = _
   rw [runesFrom_eq s n]
   apply Array.ext'
   simp
  ·simp
theorem RelW.allocM' {bl : Nat → Option Ob} {ρ : Env} {M : Mem} {w : World} {vs : List Value} {t : TypeId} {d : Nat} (h : RelW C bl ρ M w) (n : Nat) (hn : n ≤ vs.length) : RelW C bl ρ (M.put w.heap.size 0 (vs.take n)) (World.alloc { w with drawn:=d } (.cells vs.toArray t)) :=
 (h.drew d).allocM n hn
def runeSl (P : Program) (s d : TypeId) : Bool:=match P.underlying s with
 | some .string=>match P.underlying d with
  | some (.slice e)=>match P.underlying e with
   | some (.int .i32)=>true
   | _=>false
  | _=>false
 | _=>false
theorem triRunes {s d : TypeId} {x : Operand} {u : Str} (hx : rdV F x = some (.string u)) (ht : runeSl P s d = true) (hs : sideOk F true [x]) (hd : Nat.blt dst C.n = true) :
  TriL P C ops ⟨some dst,.convert s d x,ty,pos,after,none⟩ ⟨slotsOf [x],[],[dst],[]⟩ [(dst,.s (.c (.d (.sl (List.map (eInt .i32) (runes u))))))] [] F:=by
 refine ⟨⟨rfl,rfl⟩,fun F' hS=>?_⟩
 have h1:=opnd_same hS.1
 refine Tri.val [] rfl rfl hd (fun _ h=>by cases h) (fun k hk=>by rw [over_nil];exact hk) (fun _ h=>by cases h) (fun ρ M a w hr=>?_)
 have hR:=reads_of hr rfl (sideOk_same h1 hs)
 have ex:=rdV_eval hR (by simp) ((rdV_same (h1 x (by simp))).trans hx)
 unfold runeSl at ht
 split at ht
 ·rename_i hu1
  split at ht
  ·rename_i e hu2
   split at ht
   ·rename_i hu3
    let vs : List Value:=(runes u).map fun r=>Value.int .i32 r
    let q : Question:=.appendCap vs.length 0 e
    let cap:=q.cut (w.tape w.drawn q)
    have hcap : vs.length ≤ cap:=by simp [cap,q,Question.cut]
    let all : List Value:=vs ++ List.replicate (cap - vs.length) (.int .i32 0)
    have hrun : (convert s d (.string u)).run P w = .ok (.slice (some ⟨w.heap.size,0,none⟩) vs.length cap) (World.alloc { w with drawn:=w.drawn + 1 } (.cells all.toArray e)):=by
     unfold convert
     have r1 : (underlying s).run P w = .ok .string w:=by simp [underlying,program,Sem.run,hu1]
     have r2 : (underlying d).run P w = .ok (.slice e) w:=by simp [underlying,program,Sem.run,hu2]
     have r3 : (underlying e).run P w = .ok (.int .i32) w:=by simp [underlying,program,Sem.run,hu3]
     rw [run_bind_ok r1,run_bind_ok r2]
     simp only
     rw [run_bind_ok r3]
     simp only [Conv.stringToRunes]
     have e1 : Conv.runesFrom u u.size 0 #[] = vs.toArray:=by rw [runesFrom_eq];simp [vs,runes]
     rw [e1]
     simp only [List.size_toArray]
     have e2 : vs.toArray ++ Array.replicate (cap - vs.length) (Value.int .i32 0) = all.toArray:=by apply Array.ext';simp [all]
     have hch : ∀ (K : Nat → Sem Value),(choose q >>= K).run P w = (K cap).run P { w with drawn:=w.drawn + 1 }:=fun K=>by simp [choose,Sem.run,Question.forced,bind,Sem.bind,q,cap]
     rw [hch,e2]
     rfl
    have hno:=hr.heap.mem.none (Nat.le_refl w.heap.size)
    have hle : M.le (M.put w.heap.size 0 (all.take vs.length)):=Mem.put_le (fun o _=>hno.1 o)
    have htk : all.take vs.length = vs:=by simp [all]
    refine ⟨.slice (some ⟨w.heap.size,0,none⟩) vs.length cap,World.alloc { w with drawn:=w.drawn + 1 } (.cells all.toArray e),M.put w.heap.size 0 (all.take vs.length),fun _=>undef,?_,hle,fun ρ' h0 _=>⟨?_,by rw [over_nil];exact h0.heap.allocM' vs.length (by simp [all])⟩⟩
    ·unfold execOp
     simp only
     rw [ex]
     exact bind_value hrun
    ·show Rep _ _ _
     have hl : vs.length = (List.map (eInt .i32) (runes u)).length:=by simp [vs]
     rw [hl]
     refine Rep.ofFlat (sz:=1) (vs:=vs) (by rw [← hl];exact hcap) (rows_map (enc:=eInt .i32) (fun _=>rfl) _) ?_ (fun k v hk=>?_)
     ·have key : ∀ l : List Int,RepsD (M.put w.heap.size 0 (all.take (List.map (eInt .i32) (runes u)).length)) (List.map (eInt .i32) l).flatten (l.map fun r=>Value.int .i32 r):=by
       intro l
       induction l with
       | nil=>trivial
       | cons y r ih=>exact ⟨Rep.v _,ih⟩
      exact key (runes u)
     ·have:=Mem.put_at (M:=M) (b:=w.heap.size) (off:=0) (vs:=all.take (List.map (eInt .i32) (runes u)).length) (k:=k) (u:=v) (by rw [← hl,htk];exact hk)
      exact this
   ·cases ht
  ·cases ht
 ·cases ht
def slStr (P : Program) (k : IntKind) (s d : TypeId) : Bool:=match P.underlying d with
 | some .string=>match P.underlying s with
  | some (.slice e)=>match P.underlying e with
   | some (.int k')=>decide (k' = k)
   | _=>false
  | _=>false
 | _=>false
theorem loadSl_run {k : IntKind} {M : Mem} {w : World} {L : List Int} {v : Value} (hv : Rep M (.sl (L.map (eInt k))) v) (hm : InW M w) : (∃ c,v = .slice none 0 c ∧ L = []) ∨ ∃ a c,v = .slice (some a) L.length c ∧ (loadCells a L.length).run P w = .ok ((L.map fun n=>Value.int k n).toArray) w:=by
 have key : ∀ l : List Int,∀ vs,RepsD M (l.map (eInt k)).flatten vs → vs = l.map fun n=>Value.int k n:=by
  intro l
  induction l with
  | nil=>intro vs h;cases vs with
   | nil=>rfl
   | cons _ _=>exact h.elim
  | cons x r ih =>
   intro vs h
   cases vs with
   | nil=>exact h.elim
   | cons u us=>rw [Rep.v_inv h.1,ih us h.2];rfl
 by_cases hL : L = []
 ·subst hL
  obtain ⟨a,c,rfl⟩:=hv.sl_cases
  cases a with
  | none=>exact .inl ⟨c,rfl,rfl⟩
  | some a=>exact .inr ⟨a,c,rfl,rfl⟩
 ·obtain ⟨b,off,cap,sz,vs,rfl,hc,hrow,hrep,hm'⟩:=hv.flat (by simpa using hL)
  refine .inr ⟨_,cap,by rw [List.length_map],?_⟩
  have e:=key L vs hrep
  subst e
  have:=loadCells_run (P:=P) (w:=w) (b:=b) (off:=off) (L.map fun n=>Value.int k n) (fun j v hj=>hm.cell _ _ _ (hm' j v hj))
  rwa [List.length_map] at this
theorem forIn_run {k : IntKind} {f : Value → ByteArray → Sem (ForInStep ByteArray)} {g : ByteArray → Int → ByteArray} (hf : ∀ n r,f (.int k n) r = pure (ForInStep.yield (g r n))) (w : World) : ∀ (l : List Int) (s : ByteArray),(forIn (m:=Sem) ((l.map fun n=>Value.int k n).toArray) s f).run P w = .ok (l.foldl g s) w:=by
 intro l
 induction l with
 | nil=>intro s;rfl
 | cons n r ih =>
  intro s
  rw [← Array.forIn_toList]
  simp only [List.map_cons,List.forIn_cons]
  rw [hf]
  simp only [pure_bind,List.foldl_cons]
  have:=ih (g s n)
  rw [← Array.forIn_toList] at this
  exact this
theorem ofRunes_run {M : Mem} {w : World} {L : List Int} {v : Value} (hv : Rep M (.sl (L.map (eInt .i32))) v) (hm : InW M w) : (Conv.runesToString v).run P w = .ok (.string (ofRunes L)) w:=by
 rcases loadSl_run (P:=P) hv hm with ⟨c,rfl,rfl⟩ | ⟨a,c,rfl,h⟩
 ·rfl
 ·unfold Conv.runesToString
  simp only
  rw [run_bind_ok h]
  rw [run_bind_ok (forIn_run (P:=P) (k:=.i32) (g:=fun s n=>s ++ Utf8.encode n) (fun _ _=>rfl) w L _)]
  rfl
theorem slStr_run {k : IntKind} {s d : TypeId} (h : slStr P k s d = true) : ∃ e,(∀ w : World,(underlying s).run P w = .ok (.slice e) w) ∧ (∀ w : World,(underlying d).run P w = .ok .string w) ∧ (∀ w : World,(underlying e).run P w = .ok (.int k) w):=by
 unfold slStr at h
 split at h
 ·rename_i h1
  split at h
  ·rename_i e h2
   split at h
   ·rename_i k' h3
    have:=of_decide_eq_true h
    subst this
    exact ⟨e,fun w=>by simp [underlying,program,Sem.run,h2],fun w=>by simp [underlying,program,Sem.run,h1],fun w=>by simp [underlying,program,Sem.run,h3]⟩
   ·cases h
  ·cases h
 ·cases h
theorem convR_run {s d : TypeId} (h : slStr P .i32 s d = true) {M : Mem} {w : World} {L : List Int} {v : Value} (hv : Rep M (.sl (L.map (eInt .i32))) v) (hm : InW M w) : (convert s d v).run P w = .ok (.string (ofRunes L)) w:=by
 obtain ⟨e,r1,r2,r3⟩:=slStr_run h
 have hb:=ofRunes_run (P:=P) hv hm
 obtain ⟨a,c,rfl⟩:=hv.sl_cases
 unfold convert
 rw [run_bind_ok (r1 w),run_bind_ok (r2 w)]
 simp only
 rw [run_bind_ok (r3 w)]
 exact hb
theorem triOfRunes {s d : TypeId} {x : Operand} {L : List Int} (hx : rdS F x = some (L.map (eInt .i32))) (ht : slStr P .i32 s d = true) (hs : sideOk F true [x]) (hd : Nat.blt dst C.n = true) :
  TriL P C ops ⟨some dst,.convert s d x,ty,pos,after,none⟩ ⟨slotsOf [x],[],[dst],[]⟩ [(dst,.s (.c (.d (.v (.string (ofRunes L))))))] [] F:=by
 refine ⟨⟨rfl,rfl⟩,fun F' hS=>?_⟩
 have h1:=opnd_same hS.1
 refine Tri.quiet (x:=.c (.d (.v (.string (ofRunes L))))) rfl rfl hd (fun ρ M a w hr=>⟨_,?_,Rep.v _⟩)
 have hR:=reads_of hr rfl (sideOk_same h1 hs)
 exact bind_value (convR_run ht (rdS_rep hR (by simp) ((rdS_same (h1 x (by simp))).trans hx)) hr.heap.mem)
def eArr {α : Type} (n : Nat) (e1 : α → D) (a : Nat → α) : List D:=(List.range n).map fun i=>e1 (a i)
def arrC {α : Type} (n : Nat) (e1 : α → D) (a : Nat → α) : List Cell:=(List.range n).map fun i=>.d (e1 (a i))
def upd {α : Type} (a : Nat → α) (k : Nat) (x : α) : Nat → α:=fun i=>if i = k then x else a i
theorem arrC_len {α : Type} (n : Nat) (e1 : α → D) (a : Nat → α) : (arrC n e1 a).length = n:=by simp [arrC]
theorem arr_get {α : Type} {n : Nat} {e1 : α → D} {a : Nat → α} {pre post : List Cell} {p k : Nat} (hp : pre.length = p) (hk : k < n) : (pre ++ (arrC n e1 a ++ post))[p + k]? = some (.d (e1 (a k))):=by
 subst hp
 rw [List.getElem?_append_right (by omega),show pre.length + k - pre.length = k by omega,List.getElem?_append_left (by rw [arrC_len];exact hk)]
 simp [arrC,hk]
theorem appendV_run {α : Type} {enc : α → List D} {L X R : List α} {M : Mem} {w : World} {x : Value} {ts tx e sz : Nat} {ρ : Env} {bl : Nat → Option Ob} {j j' : Nat} (ht : slInfo P ts = some (e,sz)) (hx' : isSl P tx = true) (hby : bytesOk P e = true) (hsz : allR sz enc) (hone : ∀ x,rowOne (enc x) = true)
  (happ : appO L X = some R) (hx : Rep M (.sl (X.map enc)) x) (hrw : RelW C bl ρ M w) (hj : bl j = some (.vec sz (L.map enc))) :
  ∃ u w',(Builtin.append_ #[ts,tx] ty #[ρ j,x]).run P w = .ok u w' ∧ ∀ ρ' bl',RelW C bl ρ' M w → ρ' j' = u → (∀ k o,bl' k = some o → o = .dead ∨ (k = j' ∧ o = .vec sz (R.map enc)) ∨ (bl k = some o ∧ k ≠ j)) → ρ' j = ρ j → RelW C bl' ρ' M w':=by
 obtain ⟨hlen,rfl⟩:=appO_spec happ
 obtain ⟨hu,inf,hinf,hisz⟩:=slInfo_spec ht
 obtain ⟨sa,scap,e1,hcap,hvx⟩:=vec_flat (hrw.inv j _ hj)
 obtain ⟨xa,xcap,rfl⟩:=hx.sl_cases
 simp only [List.length_map] at hx ⊢
 obtain ⟨news,hn1,hn2⟩:=firstCells_run (P:=P) (w:=w) hx (rows_map hsz X) hrw.mem
 simp only [List.length_map] at hn1
 have hnl : news.length = X.length * sz:=by rw [hn2.len,flatten_len (rows_map hsz X),List.length_map]
 obtain ⟨e',htt⟩ : ∃ e',(underlying tx).run P w = .ok (.slice e') w:=by
  unfold isSl at hx'
  split at hx'
  ·rename_i e' hu'
   exact ⟨e',by simp [underlying,program,Sem.run,hu']⟩
  ·cases hx'
 have hLX : (L ++ X).length = L.length + X.length:=by simp
 have hflat : ((L ++ X).map enc).flatten = (L.map enc).flatten ++ (X.map enc).flatten:=by rw [List.map_append,List.flatten_append]
 have hmul : (L.length + X.length) * sz = L.length * sz + X.length * sz:=Nat.add_mul ..
 rw [e1]
 by_cases hfit : L.length + X.length ≤ scap
 ·by_cases hcap0 : 0 < scap
  ·obtain ⟨b,off,arr,ty',vs,rfl,hb,hroom,hnone,hvs,hvc⟩:=hvx hcap0
   have hvl : vs.length = L.length * sz:=by rw [hvs.len,flatten_len (rows_map hsz L),List.length_map]
   have hroom' : off + (L.length + X.length) * sz ≤ arr.size:=Nat.le_trans (Nat.add_le_add_left (Nat.mul_le_mul_right sz hfit) off) hroom
   obtain ⟨w',q1,q2,q3,q4,q5,q6,q7⟩:=storeCells_run (P:=P) (b:=b) (off:=off + L.length * sz) (ty:=ty') news 0 w arr hb (rowOne_rep (rowOne_flat hone X) hn2) (by omega)
   rw [Nat.add_zero] at q2
   refine ⟨.slice (some ⟨b,off,none⟩) (L.length + X.length) scap,w',?_,fun ρ' bl' hr' hρ' hbl hρj=>?_⟩
   ·unfold Builtin.append_
    simp only [List.getElem?_toArray,List.getElem?_cons_zero,List.getElem?_cons_succ]
    rw [run_bind_ok (slInfo_under ht w)]
    simp only
    rw [run_bind_ok (slInfo_size ht w)]
    simp only [pure_bind]
    rw [run_bind_ok htt]
    simp only [Bool.false_eq_true,if_false,Builtin.lenOf,pure_bind,Bool.not_false,if_true]
    rw [if_pos hfit,run_bind_ok hn1]
    simp only [add_none]
    rw [run_bind_ok q1]
    rfl
   ·have hρj' : ρ' j = .slice (some ⟨b,off,none⟩) L.length scap:=by first | exact hρj | exact hρj.trans e1
    have hown : (Ob.vec sz (L.map enc)).blkOf (ρ' j) = some b:=by rw [hρj'];simp [Ob.blkOf,hcap0]
    refine hr'.change j' (fun x=>x = b) ?_ ⟨q5,q6,q7,Nat.le_of_eq q4.symm⟩ (fun x _ hx=>q3 x hx) (Mem.le_refl _) (fun _ _ _=>⟨fun _=>rfl,rfl⟩) ?_ (fun k o hk=>?_) (fun x hx=>by rw [hx];exact hr'.noJunk hj hown)
    ·rintro x rfl _
     exact hr'.priv j _ _ hj hown
    ·rintro x (rfl | hx)
     ·exact ⟨fun o v hv=>(by rw [hnone o] at hv;cases hv),fun o ho=>(by rw [hr'.mem.noObj hb] at ho;cases ho)⟩
     ·have:=hr'.mem.none hx
      exact ⟨fun o v hv=>(by rw [this.1 o] at hv;cases hv),fun o ho=>(by rw [this.2] at ho;cases ho)⟩
    ·rcases hbl k o hk with rfl | ⟨rfl,rfl⟩ | ⟨h1,h2⟩
     ·exact .inl rfl
     ·refine .inr (.inr ⟨rfl,?_,fun x hx=>.inl ?_⟩)
      ·rw [hρ',← hLX]
       refine vec_of (vs:=vs ++ news) hsz (by rw [hLX];exact hfit) q2 (by simp [setV_len];exact hroom) hnone (by rw [hflat];exact hvs.append hn2) (fun q u hq=>?_)
       rw [List.getElem?_toArray,setV_get _ _ _ _ (by have : arr.toList.length = arr.size:=Array.length_toList;omega)]
       rcases Nat.lt_or_ge q vs.length with h1 | h1
       ·rw [List.getElem?_append_left h1] at hq
        rw [if_neg (by omega)]
        simpa using hvc q u hq
       ·rw [List.getElem?_append_right h1] at hq
        have h3:=(List.getElem?_eq_some_iff.1 hq).1
        rw [if_pos (by omega),show off + q - (off + L.length * sz) = q - vs.length by omega];exact hq
      ·rw [hρ'] at hx
       simp only [Ob.blkOf,hcap0,if_true,Option.some.injEq] at hx
       exact hx.symm
     ·refine .inr (.inl ⟨h1,fun x hx hS=>?_⟩)
      subst hS
      exact h2 (hr'.dist k j _ _ _ h1 hj hx hown)
  ·have hL : L = []:=List.eq_nil_of_length_eq_zero (by omega)
   have hX : X = []:=List.eq_nil_of_length_eq_zero (by omega)
   subst hL hX
   have hc0 : scap = 0:=by omega
   subst hc0
   have hn0 : news = []:=by apply List.eq_nil_of_length_eq_zero;rw [hnl];simp
   subst hn0
   refine ⟨.slice sa 0 0,w,?_,fun ρ' bl' hr' hρ' hbl hρj=>?_⟩
   ·unfold Builtin.append_
    simp only [List.getElem?_toArray,List.getElem?_cons_zero,List.getElem?_cons_succ]
    rw [run_bind_ok (slInfo_under ht w)]
    simp only
    rw [run_bind_ok (slInfo_size ht w)]
    simp only [pure_bind]
    rw [run_bind_ok htt]
    simp only [Bool.false_eq_true,if_false,Builtin.lenOf,pure_bind,Bool.not_false,if_true]
    rw [if_pos hfit,run_bind_ok hn1]
    cases sa <;> rfl
   ·refine hr'.change j' (fun _=>False) (fun _ h=>h.elim) ⟨rfl,rfl,rfl,Nat.le_refl _⟩ (fun _ _ _=>rfl) (Mem.le_refl _) (fun _ _ _=>⟨fun _=>rfl,rfl⟩) (fun b _=>⟨fun o v hv=>hr'.mem.cell b o v hv,fun o ho=>hr'.mem.obj b o ho⟩) (fun k o hk=>?_)
    rcases hbl k o hk with rfl | ⟨rfl,rfl⟩ | ⟨h1,h2⟩
    ·exact .inl rfl
    ·refine .inr (.inr ⟨rfl,?_,fun x hx=>?_⟩)
     ·rw [hρ']
      exact ⟨sa,0,rfl,Nat.le_refl _,fun i row hi=>by simp at hi,fun h=>absurd h (by omega)⟩
     ·rw [hρ'] at hx
      cases sa with
      | none=>cases hx
      | some a=>simp [Ob.blkOf] at hx
    ·exact .inr (.inl ⟨h1,fun _ _ h=>h⟩)
 ·-- a new row
  have hby' : ∃ zv,inf.zero = some zv ∧ zv.cells.size = inf.size ∧ inf.bytes ≤ 65536:=by
   unfold bytesOk at hby
   rw [hinf] at hby
   simp only at hby
   split at hby
   ·rename_i zv hz
    split at hby
    ·rename_i hq;exact ⟨zv,hz,Nat.eq_of_beq_eq_true hq,Nat.le_of_ble_eq_true hby⟩
    ·cases hby
   ·cases hby
  obtain ⟨zv,hzv,hzsz,hbytes⟩:=hby'
  have hti : ∀ w : World,(typeInfo e).run P w = .ok inf w:=fun w=>by simp [typeInfo,program,Sem.run,hinf]
  have hzr : ∀ w : World,(zeroValue e).run P w = .ok zv w:=fun w=>by simp [zeroValue,typeInfo,program,Sem.run,hinf,hzv]
  have hnc:=nextcap_le (n:=L.length + X.length) (c:=scap) (by omega)
  have hnb : Builtin.nextslicecap (L.length + X.length) scap * inf.bytes ≤ 2 ^ 48:=by
   have h1 : Builtin.nextslicecap (L.length + X.length) scap ≤ 2147483840:=by omega
   exact Nat.le_trans (Nat.mul_le_mul h1 hbytes) (by decide)
  obtain ⟨newCap,hnc2,w1,hw1,hch⟩ : ∃ newCap,L.length + X.length ≤ newCap ∧ ∃ w1 : World,w1 = { w with drawn:=w.drawn + 1 } ∧ ∀ (K : Nat → Sem Value),(choose (.appendCap (L.length + X.length) scap e) >>= K).run P w = (K newCap).run P w1 :=
   ⟨(Question.appendCap (L.length + X.length) scap e).cut (w.tape w.drawn (.appendCap (L.length + X.length) scap e)),by simp [Question.cut],_,rfl,fun K=>by simp [choose,Sem.run,Question.forced,bind,Sem.bind]⟩
  have hin1 : InW M w1:=by subst hw1;exact ⟨hrw.mem.cell,hrw.mem.obj,hrw.mem.junk⟩
  have hold : ∃ olds,(Builtin.firstCells sz L.length (.slice sa L.length scap)).run P w1 = .ok olds.toArray w1 ∧ RepsD M (L.map enc).flatten olds:=by
   by_cases hcap0 : 0 < scap
   ·obtain ⟨b,off,arr,ty',vs,rfl,hb,hroom,hnone,hvs,hvc⟩:=hvx hcap0
    have hvl : vs.length = L.length * sz:=by rw [hvs.len,flatten_len (rows_map hsz L),List.length_map]
    refine ⟨vs,?_,hvs⟩
    show (loadCells ⟨b,off,none⟩ (L.length * sz)).run P w1 = _
    rw [← hvl]
    refine loadCells_run vs (fun i v hi=>?_)
    have:=hvc i v hi
    simp only [World.cell?,hw1,hb]
    simpa using this
   ·have hL : L = []:=List.eq_nil_of_length_eq_zero (by omega)
    subst hL
    refine ⟨[],?_,trivial⟩
    cases sa with
    | none=>rfl
    | some a =>
     show (loadCells a (0 * sz)).run P w1 = _
     rw [Nat.zero_mul];rfl
  obtain ⟨olds,ho3,ho4⟩:=hold
  obtain ⟨news1,hn3,hn4⟩:=firstCells_run (P:=P) (w:=w1) hx (rows_map hsz X) hin1
  simp only [List.length_map] at hn3
  have hol : olds.length = L.length * sz:=by rw [ho4.len,flatten_len (rows_map hsz L),List.length_map]
  have hnl1 : news1.length = X.length * sz:=by rw [hn4.len,flatten_len (rows_map hsz X),List.length_map]
  have hroomr : ∀ n,∀ w : World,(askRoom n).run P w = .ok () w:=fun n w=>by
   unfold askRoom;split <;> rfl
  let rest:=Builtin.zeroCells zv.cells (newCap - (L.length + X.length))
  have hw1h : w1.heap = w.heap:=by rw [hw1]
  refine ⟨.slice (some ⟨w.heap.size,0,none⟩) (L.length + X.length) newCap,w1.alloc (.cells (olds ++ news1 ++ rest.toList).toArray e),?_,fun ρ' bl' hr' hρ' hbl hρj=>?_⟩
  ·unfold Builtin.append_
   simp only [List.getElem?_toArray,List.getElem?_cons_zero,List.getElem?_cons_succ]
   rw [run_bind_ok (slInfo_under ht w)]
   simp only
   rw [run_bind_ok (slInfo_size ht w)]
   simp only [pure_bind]
   rw [run_bind_ok htt]
   simp only [Bool.false_eq_true,if_false,Builtin.lenOf,pure_bind,Bool.not_false,if_true]
   rw [if_neg hfit,run_bind_ok (hti w)]
   rw [if_neg (by
    intro h
    have h1:=h.1
    have h2 : IntKind.i64.max = 9223372036854775807:=by decide
    rw [h2] at h1
    omega)]
   rw [run_bind_ok (hti w)]
   rw [if_neg (by omega),hch]
   rw [run_bind_ok (hti w1),run_bind_ok (hroomr _ w1),run_bind_ok ho3,run_bind_ok hn3,run_bind_ok (hzr w1)]
   have e1 : olds.toArray ++ news1.toArray ++ rest = (olds ++ news1 ++ rest.toList).toArray:=by apply Array.ext';simp
   show (do let y ← newRow e (olds.toArray ++ news1.toArray ++ rest);pure (Value.slice (some y) (L.length + X.length) newCap) : Sem Value).run P w1 = _
   rw [e1,← hw1h]
   rfl
  ·have hr1 : RelW C bl ρ' M w1:=by subst hw1;exact hr'.drew _
   refine hr1.change j' (fun _=>False) (fun _ h=>h.elim) ⟨rfl,rfl,rfl,by rw [alloc_heap];simp⟩ (fun b hb _=>alloc_old hb) (Mem.le_refl _) (fun _ _ _=>⟨fun _=>rfl,rfl⟩) (fun b hb=>?_) (fun k o hk=>?_)
   ·rcases hb with hb | hb
    ·exact hb.elim
    ·have:=hr1.mem.none hb
     exact ⟨fun o v hv=>(by rw [this.1 o] at hv;cases hv),fun o ho=>(by rw [this.2] at ho;cases ho)⟩
   ·rcases hbl k o hk with rfl | ⟨rfl,rfl⟩ | ⟨h1,h2⟩
    ·exact .inl rfl
    ·refine .inr (.inr ⟨rfl,?_,fun x hx=>.inr ?_⟩)
     ·rw [hρ',← hLX,← hw1h]
      refine vec_of (vs:=olds ++ news1) hsz (by rw [hLX];exact hnc2) (alloc_new _ _) ?_ (fun o=>(hin1.none (Nat.le_refl _)).1 o) (by rw [hflat];exact ho4.append hn4) (fun q u hq=>?_)
      ·have hrs : rest.size = (newCap - (L.length + X.length)) * sz:=by simp [rest,Builtin.zeroCells,hzsz,hisz]
       have h5 : newCap * sz = (L.length + X.length) * sz + (newCap - (L.length + X.length)) * sz:=by rw [← Nat.add_mul];congr 1;omega
       simp only [List.size_toArray,List.length_append,Array.length_toList]
       omega
      ·have hql:=(List.getElem?_eq_some_iff.1 hq).1
       rw [Nat.zero_add,List.getElem?_toArray,List.getElem?_append_left hql];exact hq
     ·rw [hρ'] at hx
      simp only [Ob.blkOf] at hx
      split at hx
      ·cases hx;rw [hw1h];exact Nat.le_refl _
      ·cases hx
    ·exact .inr (.inl ⟨h1,fun _ _ h=>h⟩)
theorem triAppV {α : Type} {enc : α → List D} {L X R : List α} {ts tx e sz : Nat} {s x : Operand} {j j' : Nat} (happ : appO L X = some R) (hs : opnd F s = some (.s (.c (.own j)))) (hj : F.bl j = some (.vec sz (L.map enc))) (hx : rdS F x = some (X.map enc)) (ht : slInfo P ts = some (e,sz)) (htx : isSl P tx = true) (hby : bytesOk P e = true) (hsz : allR sz enc) (hone : ∀ x,rowOne (enc x) = true)
  (hsd : sideOk F true [s,x]) (hd : Nat.blt dst C.n = true) (hj' : F.bl j' = none) :
  TriL P C ops ⟨some dst,.call ⟨.builtin .append,#[s,x],#[ts,tx]⟩,ty,pos,after,none⟩ ⟨slotsOf [s,x],[j,j'],[dst],[j',j]⟩ [(dst,.s (.c (.own j')))] [(j',.vec sz (R.map enc)),(j,.dead)] F:=by
 refine ⟨⟨rfl,rfl⟩,fun F' hS=>?_⟩
 have h1:=opnd_same hS.1
 have hs':=(h1 s (by simp)).trans hs
 have hj1 : F'.bl j = some (.vec sz (L.map enc)):=(hS.2 j (by simp)).trans hj
 have hj2 : F'.bl j' = none:=(hS.2 j' (by simp)).trans hj'
 refine Tri.val [j'] rfl rfl hd (fun k hk=>by simp at hk;subst hk;exact hj2) (fun k hk=>dom_over hk) (fun k hk=>by simp at hk;subst hk;simp [over,look]) (fun ρ M a w hr=>?_)
 have hR:=reads_of hr rfl (sideOk_same h1 hsd)
 have es : a.eval s = ρ j:=opnd_rep hr hs'
 have hrx:=rdS_rep hR (by simp) ((rdS_same (h1 x (by simp))).trans hx)
 obtain ⟨u,w',g1,g4⟩:=appendV_run (P:=P) (ty:=ty) (j:=j) (j':=j') ht htx hby hsz hone happ hrx hr.heap hj1
 refine ⟨u,w',M,fun _=>u,?_,Mem.le_refl _,fun ρ' h0 hnv=>⟨(hnv j' (by simp)).symm,?_⟩⟩
 ·unfold execOp
  simp only [resolve,List.map_toArray,List.map_cons,List.map_nil,pure_bind,invoke,es]
  exact bind_value g1
 ·have es' : a.eval s = ρ' j:=opnd_rep h0 hs'
  refine g4 ρ' _ h0.heap (hnv j' (by simp)) (fun k o hk=>?_) (es'.symm.trans es)
  have hk' : over [(j',Ob.vec sz (R.map enc)),(j,Ob.dead)] F'.bl k = some o:=hk
  unfold over at hk'
  rw [look_cons,look_cons] at hk'
  by_cases e1 : j' = k
  ·subst e1;rw [if_pos rfl] at hk';cases hk';exact .inr (.inl ⟨rfl,rfl⟩)
  ·rw [if_neg e1] at hk'
   by_cases e2 : j = k
   ·subst e2;rw [if_pos rfl] at hk';cases hk';exact .inl rfl
   ·rw [if_neg e2] at hk'
    exact .inr (.inr ⟨hk',fun e=>e2 e.symm⟩)
theorem Conv.nilO {sl : List (Nat × AV)} {bl : List (Nat × Ob)} {nx : Nat} (j i jn sz : Nat) (cs cs' : List Cell) (u : TypeId) (nx' : Nat) (hj : look bl j = some (.blk cs u)) (hi : cs[i]? = some (.d (.v (.slice none 0 0)))) (hcs : cs.set i (.tl jn []) = cs') (hn : look bl jn = none) : Conv C ⟨sl,bl,nx⟩ ⟨sl,(j,.blk cs' u) :: (jn,.tail sz) :: bl,nx'⟩:=by
 subst hcs
 intro ρ M a w hr
 have hne : j ≠ jn:=fun e=>by subst e;rw [hj] at hn;cases hn
 refine ⟨fun k=>if k = jn then .slice none 0 0 else ρ k,M,fun ρ' ha=>?_⟩
 have hag : Agree (look bl) ρ ρ':=fun k hk=>by
  have hnk : k ≠ jn:=fun e=>hk (e ▸ hn)
  have:=ha k (by
   show look ((j,_) :: (jn,_) :: bl) k ≠ none
   rw [look_cons];split
   ·simp
   ·rw [look_cons,if_neg (Ne.symm hnk)];exact hk)
  rw [this];exact if_neg hnk
 have hnj : ρ' jn = .slice none 0 0:=by
  have:=ha jn (by show look ((j,_) :: (jn,_) :: bl) jn ≠ none;rw [look_cons,if_neg hne,look_cons,if_pos rfl];simp)
  rw [this];exact if_pos rfl
 have h0:=hr ρ' hag
 refine ⟨h0.defers,h0.size,h0.slots,?_⟩
 -- first the room,then the cell
 have h1 : RelW C (look ((jn,Ob.tail sz) :: bl)) ρ' M w:=by
  refine h0.heap.change jn (fun _=>False) (fun _ h=>h.elim) ⟨rfl,rfl,rfl,Nat.le_refl _⟩ (fun _ _ _=>rfl) (Mem.le_refl _) (fun _ _ _=>⟨fun _=>rfl,rfl⟩) (fun b _=>⟨fun o v hv=>h0.heap.mem.cell b o v hv,fun o ho=>h0.heap.mem.obj b o ho⟩) (fun k ob hk=>?_)
  rw [look_cons] at hk
  split at hk
  ·rename_i e
   subst e
   cases hk
   refine .inr (.inr ⟨rfl,?_,fun b hb=>?_⟩)
   ·rw [hnj];exact ⟨none,0,0,rfl,Nat.le_refl _,fun h=>absurd h (Nat.lt_irrefl _)⟩
   ·rw [hnj] at hb;cases hb
  ·exact .inr (.inl ⟨hk,fun _ _ h=>h⟩)
 have hj1 : look ((jn,Ob.tail sz) :: bl) j = some (.blk cs u):=by rw [look_cons,if_neg (Ne.symm hne)];exact hj
 refine h1.change j (fun b=>b = blockOf (ρ' j)) ?_ ⟨rfl,rfl,rfl,Nat.le_refl _⟩ (fun _ _ _=>rfl) (Mem.le_refl _) (fun _ _ _=>⟨fun _=>rfl,rfl⟩) (fun b _=>⟨fun o v hv=>h1.mem.cell b o v hv,fun o ho=>h1.mem.obj b o ho⟩) (fun k ob hk=>?_) (fun b hb=>h1.noJunk hj1 (by rw [hb];rfl))
 ·rintro b rfl _
  exact h1.priv j _ _ hj1 rfl
 ·have hk' : look ((j,Ob.blk (cs.set i (.tl jn [])) u) :: (jn,Ob.tail sz) :: bl) k = some ob:=hk
  rw [look_cons] at hk'
  split at hk'
  ·rename_i e
   subst e
   cases hk'
   refine .inr (.inr ⟨rfl,?_,fun b hb=>.inl (by cases hb;rfl)⟩)
   obtain ⟨⟨arr,g1,g2⟩,g3⟩:=h1.inv j _ hj1
   refine ⟨⟨arr,g1,?_⟩,g3⟩
   obtain ⟨v,h2,h3⟩:=g2.get i _ hi
   have hv:=Rep.v_inv h3
   have:=Reps.set (ρ:=ρ') (M:=M) (c:=.tl jn []) (v:=v) ⟨by rw [hv,hnj],by rw [hv];exact Rep.nil⟩ i g2
   have e : arr.toList.set i v = arr.toList:=by
    apply List.ext_getElem?
    intro q
    by_cases hq : i = q
    ·subst hq
     rw [List.getElem?_set_self (List.getElem?_eq_some_iff.1 h2).1,h2]
    ·rw [List.getElem?_set_ne hq]
   rw [e] at this
   exact this
  ·rename_i e
   refine .inr (.inl ⟨hk',fun b hb hS=>?_⟩)
   subst hS
   exact e ((h1.dist k j _ _ _ hk' hj1 hb rfl).symm)
theorem Conv.norm {sl : List (Nat × AV)} {bl : List (Nat × Ob)} {nx : Nat} (j : Nat) (cs cs' : List Cell) (u : TypeId) (nx' : Nat) (hj : look bl j = some (.blk cs u)) (hcs : cs.map Cell.norm = cs') : Conv C ⟨sl,bl,nx⟩ ⟨sl,(j,.blk cs' u) :: bl,nx'⟩:=by
 subst hcs
 intro ρ M a w hr
 refine ⟨ρ,M,fun ρ' ha=>?_⟩
 have h0:=hr ρ' (fun k hk=>ha k (by
  show look ((j,_) :: bl) k ≠ none
  rw [look_cons];split
  ·simp
  ·exact hk))
 refine ⟨h0.defers,h0.size,h0.slots,?_⟩
 refine h0.heap.change j (fun b=>b = blockOf (ρ' j)) ?_ ⟨rfl,rfl,rfl,Nat.le_refl _⟩ (fun _ _ _=>rfl) (Mem.le_refl _) (fun _ _ _=>⟨fun _=>rfl,rfl⟩) (fun b _=>⟨fun o v hv=>h0.heap.mem.cell b o v hv,fun o ho=>h0.heap.mem.obj b o ho⟩) (fun k ob hk=>?_) (fun b hb=>h0.heap.noJunk hj (by rw [hb];rfl))
 ·rintro b rfl _
  exact h0.heap.priv j _ _ hj rfl
 ·have hk' : look ((j,Ob.blk (cs.map Cell.norm) u) :: bl) k = some ob:=hk
  rw [look_cons] at hk'
  split at hk'
  ·rename_i e
   subst e
   cases hk'
   refine .inr (.inr ⟨rfl,?_,fun b hb=>.inl (by cases hb;rfl)⟩)
   obtain ⟨⟨arr,g1,g2⟩,g3⟩:=h0.heap.inv j _ hj
   exact ⟨⟨arr,g1,g2.norm⟩,g3⟩
  ·rename_i e
   refine .inr (.inl ⟨hk',fun b hb hS=>?_⟩)
   subst hS
   exact e ((h0.heap.dist k j _ _ _ hk' hj hb rfl).symm)
theorem triFldV {t f o ft j off : Nat} {x : Operand} (ho : fieldOff P t f = some (o,ft)) (hx : opnd F x = some (.s (.c (.vl j off)))) {sz : Nat} {α : Type} {enc : α → List D} {L : List α} (hj : F.bl j = some (.vec sz (L.map enc))) (hL : 0 < L.length) (hd : Nat.blt dst C.n = true) :
  TriL P C ops ⟨some dst,.fieldAddr t x f,ty,pos,after,none⟩ ⟨slotsOf [x],[j],[dst],[]⟩ [(dst,.s (.c (.vl j (off + o))))] [] F:=by
 refine ⟨⟨rfl,rfl⟩,fun F' hS=>?_⟩
 have h1:=opnd_same hS.1
 refine Tri.quiet (x:=.c (.vl j (off + o))) rfl rfl hd (fun ρ M a w hr=>?_)
 have e : a.eval x = vptr ρ j off:=opnd_rep hr ((h1 x (by simp)).trans hx)
 obtain ⟨ad,cap,e1,hc,hx2⟩:=vec_flat (hr.heap.inv j _ ((hS.2 j (by simp)).trans hj))
 obtain ⟨b,o0,arr,ty',vs,rfl,_⟩:=hx2 (by omega)
 have e2 : vptr ρ j off = .pointer (some ⟨b,o0 + off,none⟩):=by unfold vptr;rw [e1]
 refine ⟨.pointer (some ⟨b,o0 + off + o,none⟩),?_,?_⟩
 ·unfold execOp
  simp only
  rw [e,e2]
  exact bind_value (fieldOff_run ho _ _ w)
 ·show _ = vptr ρ j (off + o)
  unfold vptr
  rw [e1,Nat.add_assoc]
def setDs : List D → Nat → List D → List D
 | cs,_,[]=>cs
 | cs,off,x :: r=>setDs (cs.set off x) (off + 1) r
theorem setDs_get : ∀ (us vs : List D) (off k : Nat),off + us.length ≤ vs.length → (setDs vs off us)[k]? = if off ≤ k ∧ k < off + us.length then us[k - off]? else vs[k]?
 | [],vs,off,k,_=>by
  simp only [setDs,List.length_nil,Nat.add_zero]
  rw [if_neg (by omega)]
 | u :: r,vs,off,k,h=>by
  simp only [List.length_cons] at h
  simp only [setDs]
  rw [setDs_get r (vs.set off u) (off + 1) k (by simp;omega)]
  by_cases h1 : off + 1 ≤ k ∧ k < off + 1 + r.length
  ·rw [if_pos h1,if_pos (by simp;omega),show k - off = (k - (off + 1)) + 1 by omega];simp
  ·rw [if_neg h1]
   by_cases h2 : off = k
   ·subst h2
    rw [if_pos (by simp),List.getElem?_set_self (by omega)];simp
   ·rw [if_neg (by simp;omega),List.getElem?_set_ne h2]
theorem triStoreVF {α : Type} {enc : α → List D} {L : List α} {t sz j k fo n : Nat} {b0 : Bool} {x y : Operand} {v : A1} {e0 z : α} {ds : List D} (he : L[k]? = some e0) (hx : opnd F x = some (.s (.c (.vl j (k * sz + fo))))) (hj : F.bl j = some (.vec sz (L.map enc))) (hy : opnd F y = some (.s v)) (hp : plain1 v = true) (hD : rowD v.cells = some ds) (hone : rowOne ds = true) (hz : enc z = setDs (enc e0) fo ds) (hn : ds.length = n) (hfo : fo + n ≤ sz) (hsz : allR sz enc) (ht : tinfo P t = some (n,b0)) :
  TriL P C ops ⟨none,.store t x y,ty,pos,after,none⟩ ⟨slotsOf [x,y],[j],[],[j]⟩ [] [(j,.vec sz ((L.set k z).map enc))] F:=by
 have hk : k < L.length:=(List.getElem?_eq_some_iff.1 he).1
 refine ⟨⟨rfl,rfl⟩,fun F' hS=>?_⟩
 have h1:=opnd_same hS.1
 have hj' : F'.bl j = some (.vec sz (L.map enc)):=(hS.2 j (by simp)).trans hj
 have hx':=(h1 x (by simp)).trans hx
 have hy':=(h1 y (by simp)).trans hy
 refine Tri.eff rfl rfl (fun k hk=>dom_over hk) (fun ρ M a w hr=>?_)
 have ex : a.eval x = vptr ρ j (k * sz + fo):=opnd_rep hr hx'
 have ey : v.rep ρ M (a.eval y):=opnd_rep hr hy'
 obtain ⟨ad,cap,e1,hc,hx2⟩:=vec_flat (hr.heap.inv j _ hj')
 obtain ⟨b,off,arr,ty',vs,rfl,g1,g2,g3,g4,g5⟩:=hx2 (by omega)
 have ex2 : a.eval x = .pointer (some ⟨b,off + (k * sz + fo),none⟩):=by rw [ex];unfold vptr;rw [e1]
 have hcr:=rowD_rep hD (A1.cells_rep hp ey)
 have hlen : (a.eval y).cells.toList.length = n:=by rw [hcr.len];exact hn
 have hvl : vs.length = L.length * sz:=by rw [g4.len,flatten_len (rows_map hsz L),List.length_map]
 have hkk : (k + 1) * sz ≤ cap * sz:=Nat.mul_le_mul_right sz (by omega)
 have hsm : (k + 1) * sz = k * sz + sz:=Nat.succ_mul k sz
 have hkL : (k + 1) * sz ≤ L.length * sz:=Nat.mul_le_mul_right sz (by omega)
 obtain ⟨w',q1,q2,q3,q4,q5,q6,q7⟩:=storeCells_run (P:=P) (b:=b) (off:=off + (k * sz + fo)) (ty:=ty') (a.eval y).cells.toList 0 w arr g1 (rowOne_rep hone hcr) (by omega)
 rw [Nat.add_zero] at q2
 refine ⟨w',M,?_,Mem.le_refl _,fun ρ' h0=>?_⟩
 ·unfold execOp
  simp only [ex2]
  have hsv : (storeVar t ⟨b,off + (k * sz + fo),none⟩ (a.eval y)).run P w = .ok () w':=by
   unfold storeVar
   rw [run_bind_ok (tinfo_size ht w)]
   have hs2 : (a.eval y).cells.size = n:=by simpa using hlen
   rw [if_neg (by simp [hs2])]
   exact q1
  show (do storeVar t ⟨b,off + (k * sz + fo),none⟩ (a.eval y);pure Next.skip : Sem Next).run P w = _
  rw [run_bind_ok hsv]
  rfl
 ·have ex' : a.eval x = vptr ρ' j (k * sz + fo):=opnd_rep h0 hx'
  obtain ⟨ad',cap',e1',hc',hx2'⟩:=vec_flat (h0.heap.inv j _ hj')
  obtain ⟨b',off',arr',ty2,vs',rfl,g1',g2',g3',g4',g5'⟩:=hx2' (by omega)
  have ex2' : a.eval x = .pointer (some ⟨b',off' + (k * sz + fo),none⟩):=by rw [ex'];unfold vptr;rw [e1']
  have eb : b' = b ∧ off' = off:=by
   have:=ex2'.symm.trans ex2
   simp only [Value.pointer.injEq,Option.some.injEq,Addr.mk.injEq] at this
   omega
  obtain ⟨rfl,rfl⟩:=eb
  have ea : arr' = arr ∧ ty2 = ty':=by have:=g1'.symm.trans g1;simpa using this
  obtain ⟨rfl,rfl⟩:=ea
  have hcr':=rowD_rep hD (A1.cells_rep hp (opnd_rep h0 hy' : v.rep ρ' M (a.eval y)))
  have hpos : 0 < cap':=by omega
  have hown : (Ob.vec sz (L.map enc)).blkOf (ρ' j) = some b':=by rw [e1'];simp [Ob.blkOf,hpos]
  refine h0.heap.change j (fun x=>x = b') ?_ ⟨q5,q6,q7,Nat.le_of_eq q4.symm⟩ (fun x _ hx=>q3 x hx) (Mem.le_refl _) (fun _ _ _=>⟨fun _=>rfl,rfl⟩) ?_ ?_ (fun x hx=>by rw [hx];exact h0.heap.noJunk hj' hown)
  ·rintro x rfl _
   exact h0.heap.priv j _ _ hj' hown
  ·rintro x (rfl | hx)
   ·exact ⟨fun o v hv=>(by rw [g3' o] at hv;cases hv),fun o ho=>(by rw [h0.heap.mem.noObj g1'] at ho;cases ho)⟩
   ·have:=h0.heap.mem.none hx
    exact ⟨fun o v hv=>(by rw [this.1 o] at hv;cases hv),fun o ho=>(by rw [this.2] at ho;cases ho)⟩
  ·intro k' ob hk'
   rw [over_one] at hk'
   split at hk'
   ·rename_i e
    subst e
    cases hk'
    refine .inr (.inr ⟨rfl,?_,fun x hx=>.inl (by rw [show (Ob.vec sz ((L.set k z).map enc)).blkOf (ρ' j) = (Ob.vec sz (L.map enc)).blkOf (ρ' j) by rw [e1'];rfl,hown] at hx;cases hx;rfl)⟩)
    rw [e1']
    have hsl : (L.set k z).length = L.length:=by simp
    have hvl' : vs'.length = L.length * sz:=by rw [g4'.len,flatten_len (rows_map hsz L),List.length_map]
    rw [show (Value.slice (some ⟨b',off',none⟩) L.length cap') = .slice (some ⟨b',off',none⟩) (L.set k z).length cap' by rw [hsl]]
    refine vec_of (vs:=setV vs' (k * sz + fo) (a.eval y).cells.toList) hsz (by rw [hsl];exact hc') q2 (by simp [setV_len];exact g2') g3' ?_ (fun q u hq=>?_)
    ·rw [List.map_set]
     refine RepsD.ofGet ?_ (fun i d u hd hu=>?_)
     ·rw [setV_len,hvl',flatten_len (sz:=sz),List.length_set,List.length_map]
      intro row hrow
      rcases List.mem_or_eq_of_mem_set hrow with h | h
      ·exact rows_map hsz L row h
      ·rw [h];exact hsz z
     ·rw [flatten_set k (rows_map hsz L) (hsz z) (by simpa using hk)] at hd
      rw [setV_get _ _ _ _ (by omega),hlen] at hu
      have hold : ∀ d',(L.map enc).flatten[i]? = some d' → vs'[i]? = some u → Rep M d' u:=fun d' h2 h3=>by
       obtain ⟨u2,u3,u4⟩:=g4'.get _ d' h2
       rw [h3] at u3;cases u3;exact u4
      split at hd
      ·rename_i hc2
       rw [hz,setDs_get _ _ _ _ (by rw [hn,hsz];exact hfo),hn] at hd
       split at hd
       ·rename_i hc3
        rw [if_pos (by omega)] at hu
        obtain ⟨u2,u3,u4⟩:=hcr'.get _ d hd
        rw [show i - k * sz - fo = i - (k * sz + fo) by omega] at u3
        rw [hu] at u3;cases u3;exact u4
       ·rename_i hc3
        rw [if_neg (by omega)] at hu
        refine hold d ?_ hu
        have:=flatten_get (rows_map hsz L) k (i - k * sz) (enc e0) (by simp [he]) (by omega)
        rw [show k * sz + (i - k * sz) = i by omega] at this
        rw [this];exact hd
      ·rename_i hc2
       rw [if_neg (by omega)] at hu
       exact hold d hd hu
    ·rw [setV_get _ _ _ _ (by omega),hlen] at hq
     rw [List.getElem?_toArray,setV_get _ _ _ _ (by rw [hlen,Array.length_toList];omega),hlen]
     split at hq
     ·rename_i hc2
      rw [if_pos (by omega),show off' + q - (off' + (k * sz + fo)) = q - (k * sz + fo) by omega];exact hq
     ·rename_i hc2
      rw [if_neg (by omega)]
      simpa using g5' q u hq
   ·rename_i e
    refine .inr (.inl ⟨hk',fun x hx hS'=>?_⟩)
    subst hS'
    exact e ((h0.heap.dist k' j _ _ _ hk' hj' hx hown).symm)
end Go.E2
end
section
namespace Go.E2
open Go.RowKit (Below)
open Go.ChangeShapes Go.WideShapes Go.ChangeAt Go.RowKit
def M1 (W : World) : Mem:=memW ⟨fun _ _=>none,fun _=>none,fun _=>none⟩ W
theorem M1_in (W : World) : InW (M1 W) W:=memW_in ⟨fun _ _ _ h=>(by cases h),fun _ _ h=>(by cases h),fun _ _ h=>(by cases h)⟩
theorem M1_cell {W : World} {b o : Nat} {v : Value} (h : W.cell? ⟨b,o,none⟩ = some v) : (M1 W).cell b o = some v:=by
 simp only [World.cell?] at h
 simp only [M1,memW]
 split at h
 ·rename_i c t f hc;rw [hc];simpa using h
 ·cases h
def RowRep (M : Mem) : List D → List Value → Prop
 | [],[]=>True
 | d :: ds,v :: vs=>Rep M d v ∧ RowRep M ds vs
 | _,_=>False
theorem RowRep.len {M : Mem} : ∀ {ds : List D} {vs : List Value},RowRep M ds vs → ds.length = vs.length
 | [],[],_=>rfl
 | _ :: _,_ :: _,h=>by rw [List.length_cons,List.length_cons,RowRep.len h.2]
 | [],_ :: _,h=>h.elim
 | _ :: _,[],h=>h.elim
theorem RowRep.at {M : Mem} : ∀ {ds : List D} {vs : List Value},RowRep M ds vs → ∀ (j : Nat) d,ds[j]? = some d → ∃ v,vs[j]? = some v ∧ Rep M d v
 | [],[],_,_,_,h=>by cases h
 | _ :: _,_ :: _,h,j,d,hd=>by
  cases j with
  | zero=>cases hd;exact ⟨_,rfl,h.1⟩
  | succ j=>exact RowRep.at h.2 j d hd
 | [],_ :: _,h,_,_,_=>h.elim
 | _ :: _,[],h,_,_,_=>h.elim
theorem RowRep.reps {M : Mem} {ρ : Env} : ∀ {ds : List D} {vs : List Value},RowRep M ds vs → Reps ρ M (ds.map Cell.d) vs
 | [],[],_=>trivial
 | _ :: _,_ :: _,h=>⟨h.1,RowRep.reps h.2⟩
 | [],_ :: _,h=>h.elim
 | _ :: _,[],h=>h.elim
def Rd (k : Nat) (P : Program) (t : TypeId) {α : Type} (e : α → List D) (Q : α → Prop) : Prop :=
 ∀ (H : Type) (enc : TypeId × Value → H) (W : World) (fuel : Nat) (cs : List Value) (x : DataW H × List MemPlace),fuel ≤ k → DataW.trod enc P W 0 (fun _=>true) true fuel t cs = some x → ∃ a,Q a ∧ RowRep (M1 W) (e a) cs
section
variable {P : Program} {t : TypeId} {α β : Type}
theorem Rd.map {k : Nat} {e : α → List D} {e' : β → List D} {Q : α → Prop} {Q' : β → Prop} (h : Rd k P t e Q) (g : α → β) (hg : ∀ a,e' (g a) = e a) (hQ : ∀ a,Q a → Q' (g a)) : Rd k P t e' Q':=fun H enc W fuel cs x hk hx=>by
 obtain ⟨a,h1,h2⟩:=h H enc W fuel cs x hk hx
 exact ⟨g a,hQ a h1,by rw [hg];exact h2⟩
theorem rd_int {m : Nat} {k : IntKind} (hu : P.underlying t = some (.int k)) : Rd m P t (eInt k) (fun n=>(Lit.int k n).wf = true):=fun _ _ _ _ _ _ _ hx=>by
 obtain ⟨n,rfl,_,hw⟩:=DataW.trod_int hu hx
 exact ⟨n,hw,.v _,trivial⟩
theorem add_spot {a : Addr} {n j : Nat} {W : World} {v : Value} (h : W.cell? ((a.add n).add j) = some v) : W.cell? ⟨a.block,a.off + n + j,none⟩ = some v ∧ (n = 0 → j = 0 → a.spot = none):=by
 unfold Addr.add at h
 by_cases hn : n = 0
 ·subst hn
  by_cases hj : j = 0
  ·subst hj
   simp only [if_true] at h
   have hs : a.spot = none:=by
    unfold World.cell? at h
    split at h
    ·split at h
     ·cases h
     ·rename_i _ hs;cases hsp : a.spot with
      | none=>rfl
      | some x=>rw [hsp] at hs;simp at hs
    ·cases h
   obtain ⟨b,o,s⟩:=a
   cases hs
   exact ⟨h,fun _ _=>rfl⟩
  ·simp only [if_true,if_neg hj] at h
   exact ⟨h,fun _ h=>absurd h hj⟩
 ·by_cases hj : j = 0
  ·subst hj
   simp only [if_true,if_neg hn] at h
   exact ⟨h,fun h=>absurd h hn⟩
  ·simp only [if_neg hn,if_neg hj] at h
   exact ⟨h,fun h=>absurd h hn⟩
theorem rd_slice {k : Nat} {e : TypeId} {en : α → List D} {Q : α → Prop} {sz : Nat} (hu : P.underlying t = some (.slice e)) (he : Rd k P e en Q) (hc : P.cellsOf e = sz) (h0 : 0 < sz) (hsz : ∀ a,(en a).length = sz) :
  Rd k P t (eSl en) (fun L=>L.length ≤ maxLen ∧ ∀ a ∈ L,Q a):=fun H enc W fuel cs x hk hx=>by
 rcases DataW.trod_slice hu hx with ⟨rfl,_⟩ | ⟨a,len,cap,elems,rest,n,hfuel,rfl,_,_,hle,hcap,hel,hat,_,_⟩
 ·exact ⟨[],⟨Nat.zero_le _,fun _ h=>by cases h⟩,.nil,trivial⟩
 ·have key : ∀ m,m ≤ len → ∃ L : List α,L.length = m ∧ (∀ x ∈ L,Q x) ∧ ∀ (i : Nat) y,L[i]? = some y → ∃ cs,W.cells? 0 (a.add (i * sz)) sz = some cs ∧ RowRep (M1 W) (en y) cs:=by
   intro m
   induction m with
   | zero=>exact fun _=>⟨[],rfl,fun _ h=>(by cases h),fun _ _ h=>by cases h⟩
   | succ m ih =>
    intro hm
    obtain ⟨L,hl,hq,hL⟩:=ih (by omega)
    have h1:=hat m (by omega)
    rw [hc,List.getElem?_eq_getElem (by omega : m < elems.length)] at h1
    obtain ⟨cs,hcs,h2⟩:=Option.bind_eq_some_iff.1 h1
    obtain ⟨y,hy,hr⟩:=he _ _ _ _ _ _ (by omega) h2
    refine ⟨L ++ [y],by simp [hl],fun x hx=>?_,fun i z hz=>?_⟩
    ·rcases List.mem_append.1 hx with h | h
     ·exact hq x h
     ·simp at h;subst h;exact hy
    ·by_cases hi : i < L.length
     ·rw [List.getElem?_append_left hi] at hz;exact hL i z hz
     ·rw [List.getElem?_append_right (by omega)] at hz
      have : i = m:=by
       have:=(List.getElem?_eq_some_iff.1 hz).1
       simp at this;omega
      subst this
      rw [hl,Nat.sub_self] at hz
      cases hz
      exact ⟨cs,hcs,hr⟩
  obtain ⟨L,hl,hq,hL⟩:=key len (Nat.le_refl _)
  refine ⟨L,⟨by omega,hq⟩,?_,trivial⟩
  cases hL0 : L with
  | nil=>rw [hL0] at hl;simp at hl;subst hl;exact .nil
  | cons y ys =>
   rw [← hL0]
   have cellAt : ∀ (i : Nat) y (j : Nat),L[i]? = some y → j < sz → ∃ v cs,W.cells? 0 (a.add (i * sz)) sz = some cs ∧ cs[j]? = some v ∧ RowRep (M1 W) (en y) cs ∧ W.cell? ⟨a.block,a.off + i * sz + j,none⟩ = some v ∧ (i = 0 → j = 0 → a.spot = none):=by
    intro i y j hy hj
    obtain ⟨cs,h1,h2⟩:=hL i y hy
    have hlen : cs.length = sz:=by rw [← h2.len,hsz]
    have h3:=h1
    unfold World.cells? at h3
    rw [if_pos (Nat.zero_le _)] at h3
    have h4:=mapM_some_get h3 j j (by simp [hj])
    rw [List.getElem?_eq_getElem (by omega : j < cs.length)] at h4
    obtain ⟨h5,h6⟩:=add_spot h4
    exact ⟨_,cs,h1,List.getElem?_eq_getElem (by omega),h2,h5,fun hi hj=>h6 (by rw [hi,Nat.zero_mul]) hj⟩
   have hsp : a.spot = none:=by
    obtain ⟨_,_,_,_,_,_,h⟩:=cellAt 0 y 0 (by rw [hL0];rfl) h0
    exact h rfl rfl
   obtain ⟨b,off,sp⟩:=a
   cases hsp
   have hll : (List.map en L).length = len:=by rw [List.length_map,hl]
   rw [← hll]
   refine .sl (sz:=sz) (f:=fun i j=>((M1 W).cell b (off + i * sz + j)).getD (.bool false)) (by omega) (fun i row hr=>?_) (fun i row j d hi hj=>?_) (fun i row j d hi hj=>?_)
   ·rw [List.getElem?_map] at hr
    obtain ⟨y,_,rfl⟩:=Option.map_eq_some_iff.1 hr
    exact hsz y
   ·rw [List.getElem?_map] at hi
    obtain ⟨y,hy,rfl⟩:=Option.map_eq_some_iff.1 hi
    have hjz : j < sz:=by rw [← hsz y];exact (List.getElem?_eq_some_iff.1 hj).1
    obtain ⟨v,cs,_,_,_,h5,_⟩:=cellAt i y j hy hjz
    rw [M1_cell h5];rfl
   ·rw [List.getElem?_map] at hi
    obtain ⟨y,hy,rfl⟩:=Option.map_eq_some_iff.1 hi
    have hjz : j < sz:=by rw [← hsz y];exact (List.getElem?_eq_some_iff.1 hj).1
    obtain ⟨v,cs,_,h4,h3,h5,_⟩:=cellAt i y j hy hjz
    obtain ⟨u,h6,h7⟩:=h3.at j d hj
    rw [M1_cell h5]
    rw [h4] at h6;cases h6
    exact h7
def oneCell (P : Program) (t : TypeId) : Bool:=match P.underlying t with
 | some (.int _) | some .bool | some .string | some (.slice _)=>true
 | _=>false
theorem oneCell_cells {W : World} {r : Reach} {b0 : Nat} {v : Value} (h : oneCell P t = true) (hv : Value.okWide P W r b0 t v) : v.cells.toList = [v]:=by
 unfold oneCell at h
 split at h
 ·rename_i hu;obtain ⟨n,rfl⟩:=okWide_int hu hv;rfl
 ·rename_i hu;obtain ⟨n,rfl⟩:=okWide_bool hu hv;rfl
 ·rename_i hu;obtain ⟨n,rfl⟩:=okWide_string hu hv;rfl
 ·rename_i hu;obtain ⟨a,n,c,rfl⟩:=okWide_slice hu hv;rfl
 ·cases h
theorem open_one {H : Type} {enc : TypeId × Value → H} {W : World} {r : Reach} {b0 : Nat} {v : Value} {d : DataW H} {p : List MemPlace} {e : α → List D} {Q : α → Prop} (hr : ∀ k,Rd k P t e Q) (h1 : oneCell P t = true) (hv : Value.okWide P W r b0 t v) (h : DataW.Trod enc P W 0 (fun _=>true) true t v d p) :
  ∃ a,Q a ∧ ∀ x,e a = [x] → ∀ ρ,A1.rep ρ (M1 W) (.c (.d x)) v:=by
 obtain ⟨fuel,hf⟩:=h
 obtain ⟨a,qa,ra⟩:=hr fuel _ _ _ _ _ _ (Nat.le_refl _) hf
 rw [oneCell_cells h1 hv] at ra
 exact ⟨a,qa,fun x hx ρ=>by rw [hx] at ra;exact ra.1⟩
theorem law_walk {f : FuncId} {args : List A1} {vs : List Value} {W : World} (h : Con P f args [] (.s (.c (.d (.v (.bool true))))) []) (hT : Tab P (M1 W)) (hr : ∀ ρ,A1.reps ρ (M1 W) args vs) :
  Calls P f vs.toArray W fun e W'=>e = .returned (.bool true) ∧ Below W.heap.size W W':=by
 refine (h (fun _=>.bool false) (M1 W) W (fun _=>False) vs hT (fun ρ' _=>⟨⟨fun j ob h=>(by cases h),fun i j x y b h=>(by cases h),fun j ob b h=>(by cases h),M1_in W,Mem.le_refl _,fun b _ _=>⟨fun _=>rfl,rfl⟩,Kept.refl _ _,fun j hj=>absurd rfl hj,fun b s h=>(by cases h)⟩,hr ρ'⟩)).mono ?_
 rintro e W' ⟨u,ρ1,M',rfl,h2⟩
 obtain ⟨h3,h4⟩:=h2 ρ1 (Agree.refl _ _)
 cases h3
 exact ⟨rfl,h4.kept.below⟩
end
section
variable {H : Type} {enc : TypeId × Value → H} {P : Program} {w : World} {base : Nat} {spare : Nat → Bool} {held : Bool}
theorem trodAll_stays (hl : laidOutB P = true) {W W' : World} (hb : Below W.heap.size W W') : ∀ (ts : List TypeId) (vs : List Value) (ds : List (DataW H)) (ps : List MemPlace),(ts.all fun t=>P.readableRec t && decide (t < P.types.size)) = true →
  DataW.TrodAll enc P W 0 (fun _=>true) true ts vs ds ps → DataW.TrodAll enc P W' 0 (fun b=>decide (b < W.heap.size)) true ts vs ds ps
 | [],vs,ds,ps,_,h=>by
  obtain ⟨rfl,rfl,rfl⟩:=trodAll_nil h
  exact trodAll_mk0
 | t :: ts,vs,ds,ps,ht,h=>by
  obtain ⟨v,vs',d,ds',p,q,rfl,rfl,rfl,h1,h2⟩:=trodAll_cons h
  simp only [List.all_cons,Bool.and_eq_true,decide_eq_true_eq] at ht
  have hlt : ∀ x ∈ p,x.block < W.heap.size:=by obtain ⟨m,hm⟩:=h1;exact DataW.trod_lt m _ _ _ hm
  exact trodAll_cons_mk (Below.trod hl ht.1.1 ht.1.2 h1 hb hlt) (trodAll_stays hl hb ts vs' ds' q ht.2 h2)
theorem law_post {f : Func} {s : ChangeSpec} {W W' : World} {args : Array Value} {ds gs : List (DataW H)} {before : List MemPlace} {tb : TypeId} (hl : laidOutB P = true) (hp : (f.params.toList.all fun t=>P.readableRec t && decide (t < P.types.size)) = true)
  (hr : f.resultTypes = #[tb]) (hub : P.underlying tb = some .bool) (hv : s.vars = []) (hres : (s.fn H ds).results = [.lit (.bool true)]) (hargs : (s.fn H ds).args = ds) (hvars : (s.fn H ds).vars = [])
  (hW : DataW.Whole enc P f.params.toList s.vars false W args.toList ds gs before) (bel : Below W.heap.size W W') : s.post enc P f false true false false W args (.bool true) W':=by
 have hW':=hW
 obtain ⟨p,q,hA,hV,rfl,_,_⟩:=hW
 rw [hv] at hV
 obtain ⟨rfl,rfl⟩:=trodVars_none hV
 refine ⟨ds,[],p ++ [],[],p,[],hW',?_,?_,?_,bel.frame _,fun h=>by cases h⟩
 ·rw [List.append_nil,hres,hr]
  exact trodAll_mk1 (shut_bool hub _)
 ·rw [List.append_nil,hargs]
  exact trodAll_stays hl bel _ _ _ _ hp hA
 ·rw [List.append_nil,hvars,hv]
  rfl
end
end Go.E2
end
section
namespace Go.E2
open Go.ChangeShapes
variable {P : Program} {W : World}
theorem laidVars_mem : ∀ {laid : List (String × DataW Unit)} {ps : List MemPlace} {n : String} {d : DataW Unit},DataW.LaidVars P W laid ps → (n,d) ∈ laid →
  ∃ g t cs fuel p,P.globalNamed n = some g ∧ (P.globals[g]?).map (·.type) = some t ∧ W.var? P n = some cs ∧ DataW.trod (fun _=>()) P W 0 (fun _=>true) false fuel t cs.toList = some (d,p)
 | [],_,_,_,_,hm=>by cases hm
 | (m,e) :: r,ps,n,d,h,hm=>by
  obtain ⟨g,t,cs,fuel,p,q,h1,h2,h3,h4,h5,_⟩:=h
  rcases List.mem_cons.1 hm with e1 | e1
  ·cases e1;exact ⟨g,t,cs,fuel,p,h1,h2,h3,h4⟩
  ·exact laidVars_mem h5 e1
theorem var_cell {n : String} {g : Nat} {cs : Array Value} (hg : P.globalNamed n = some g) (hv : W.var? P n = some cs) {k : Nat} {v : Value} (hk : cs.toList[k]? = some v) : (M1 W).cell g k = some v:=by
 refine M1_cell ?_
 unfold World.var? at hv
 rw [hg] at hv
 simp only [Option.bind_some] at hv
 unfold World.cell?
 simp only
 split at hv
 ·rename_i c e f hh
  cases hv
  rw [hh]
  simpa using hk
 ·cases hv
theorem chunk {cs : List Value} {i sz : Nat} {l : List Value} (h : (cs.drop (i * sz)).take sz = l) {j : Nat} (hj : j < sz) {v : Value} (hv : l[j]? = some v) : cs[i * sz + j]? = some v:=by
 subst h
 rw [List.getElem?_take_of_lt hj,List.getElem?_drop] at hv
 exact hv
theorem tab_first {H : Type} {enc : TypeId × Value → H} {fuel t e : Nat} {cs : List Value} {d : DataW H} {p : List MemPlace} (h : DataW.trod enc P W 0 (fun _=>true) false fuel t cs = some (d,p)) (hu : P.underlying t = some (.array 256 e)) (he : P.underlying e = some (.int .u8)) (hc : P.cellsOf e = 1) (hd : d = .agg (utf8First.map fun n=>.lit (.int .u8 n))) :
  ∀ (k : Nat) x,utf8First[k]? = some x → cs[k]? = some (.int .u8 x):=by
 obtain ⟨xs,m,_,hx,_,hl,hat⟩:=DataW.trod_array hu h
 intro k x hk
 have hkl : k < 256:=by
  have:=(List.getElem?_eq_some_iff.1 hk).1
  have e : utf8First.length = 256:=by decide +kernel
  omega
 have h1:=hat k hkl
 rw [List.getElem?_eq_getElem (by omega)] at h1
 obtain ⟨n,q1,q2,_⟩:=DataW.trod_int he h1
 have h2 : xs.map (·.1) = utf8First.map fun n=>.lit (.int .u8 n):=by
  have:=hx.symm.trans (by rw [hd] : (d,p) = (.agg (utf8First.map fun n=>.lit (.int .u8 n)),p))
  simp only [Prod.mk.injEq,DataW.agg.injEq] at this
  exact this.1
 have h3 : (xs.map (·.1))[k]? = some (.lit (.int .u8 x)):=by rw [h2,List.getElem?_map,hk];rfl
 rw [List.getElem?_map,List.getElem?_eq_getElem (show k < xs.length by omega),q2] at h3
 simp only [Option.map_some,Option.some.injEq,DataW.lit.injEq,Lit.int.injEq,true_and] at h3
 subst h3
 rw [hc] at q1
 have:=chunk q1 (j:=0) (by omega) rfl
 simpa using this
theorem tab_accept {H : Type} {enc : TypeId × Value → H} {fuel t e e1 : Nat} {cs : List Value} {d : DataW H} {p : List MemPlace} {f0 f1 : Field} (h : DataW.trod enc P W 0 (fun _=>true) false fuel t cs = some (d,p)) (hu : P.underlying t = some (.array 16 e)) (he : P.underlying e = some (.struct #[f0,f1])) (hc : P.cellsOf e = 2)
  (t0 : f0.type = e1) (o0 : f0.offset = 0) (t1 : f1.type = e1) (o1 : f1.offset = 1) (he1 : P.underlying e1 = some (.int .u8)) (hc1 : P.cellsOf e1 = 1) (hd : d = .agg (utf8Accept.map fun n=>.agg [.lit (.int .u8 n.1),.lit (.int .u8 n.2)])) :
  ∀ (k : Nat) x,utf8Accept[k]? = some x → cs[k * 2]? = some (.int .u8 x.1) ∧ cs[k * 2 + 1]? = some (.int .u8 x.2):=by
 obtain ⟨xs,m,_,hx,_,hl,hat⟩:=DataW.trod_array hu h
 intro k x hk
 have hkl : k < 16:=by
  have:=(List.getElem?_eq_some_iff.1 hk).1
  have e : utf8Accept.length = 16:=by decide +kernel
  omega
 have h1:=hat k hkl
 rw [List.getElem?_eq_getElem (by omega)] at h1
 obtain ⟨ys,m2,_,g1,g2,g3,g4⟩:=DataW.trod_struct he h1
 have h2 : xs.map (·.1) = utf8Accept.map fun n=>.agg [.lit (.int .u8 n.1),.lit (.int .u8 n.2)]:=by
  have:=hx.symm.trans (by rw [hd] : (d,p) = (.agg (utf8Accept.map fun n=>.agg [.lit (.int .u8 n.1),.lit (.int .u8 n.2)]),p))
  simp only [Prod.mk.injEq,DataW.agg.injEq] at this
  exact this.1
 have h3 : (xs.map (·.1))[k]? = some (.agg [.lit (.int .u8 x.1),.lit (.int .u8 x.2)]):=by rw [h2,List.getElem?_map,hk];rfl
 rw [List.getElem?_map,List.getElem?_eq_getElem (show k < xs.length by omega),g1] at h3
 simp only [Option.map_some,Option.some.injEq,DataW.agg.injEq] at h3
 have r0:=g4 0 f0 rfl
 have r1:=g4 1 f1 rfl
 match ys,h3 with
 | [y0,y1],h3 =>
  simp only [List.map_cons,List.map_nil,List.cons.injEq,and_true] at h3
  rw [t0,o0] at r0
  rw [t1,o1] at r1
  obtain ⟨n0,q0,q0',_⟩:=DataW.trod_int he1 (r0.trans rfl)
  obtain ⟨n1,q1,q1',_⟩:=DataW.trod_int he1 (r1.trans rfl)
  rw [q0',q1'] at h3
  simp only [DataW.lit.injEq,Lit.int.injEq,true_and] at h3
  obtain ⟨e0,e1'⟩:=h3
  subst e0 e1'
  rw [hc1] at q0 q1
  rw [hc] at q0 q1
  have c0:=chunk (cs:=(cs.drop (k * 2)).take 2) (i:=0) (sz:=1) (by simpa using q0) (j:=0) (by omega) rfl
  have c1:=chunk (cs:=(cs.drop (k * 2)).take 2) (i:=1) (sz:=1) q1 (j:=0) (by omega) rfl
  refine ⟨?_,?_⟩
  ·have:=chunk (cs:=cs) (i:=k) (sz:=2) rfl (j:=0) (by omega) (by simpa using c0)
   simpa using this
  ·exact chunk (cs:=cs) (i:=k) (sz:=2) rfl (j:=1) (by omega) (by simpa using c1)
theorem tab_sty {H : Type} {enc : TypeId × Value → H} {fuel t e eb ei : Nat} {cs : List Value} {d : DataW H} {p : List MemPlace} {f0 f1 f2 f3 : Field} (h : DataW.trod enc P W 0 (fun _=>true) false fuel t cs = some (d,p)) (hu : P.underlying t = some (.array 22 e)) (he : P.underlying e = some (.struct #[f0,f1,f2,f3])) (hc : P.cellsOf e = 4)
  (t0 : f0.type = eb) (o0 : f0.offset = 0) (t1 : f1.type = ei) (o1 : f1.offset = 1) (t2 : f2.type = ei) (o2 : f2.offset = 2) (t3 : f3.type = ei) (o3 : f3.offset = 3) (heb : P.underlying eb = some .bool) (hcb : P.cellsOf eb = 1) (hei : P.underlying ei = some (.int .i64)) (hci : P.cellsOf ei = 1)
  (hd : d = .agg (styProps.map fun n=>.agg [.lit (.bool n.1),.lit (.int .i64 n.2.1),.lit (.int .i64 n.2.2.1),.lit (.int .i64 n.2.2.2)])) :
  ∀ (k : Nat) x,styProps[k]? = some x → cs[k * 4]? = some (.bool x.1) ∧ cs[k * 4 + 1]? = some (.int .i64 x.2.1) ∧ cs[k * 4 + 2]? = some (.int .i64 x.2.2.1) ∧ cs[k * 4 + 3]? = some (.int .i64 x.2.2.2):=by
 obtain ⟨xs,m,_,hx,_,hl,hat⟩:=DataW.trod_array hu h
 intro k x hk
 have hkl : k < 22:=by
  have:=(List.getElem?_eq_some_iff.1 hk).1
  have e : styProps.length = 22:=by decide +kernel
  omega
 have h1:=hat k hkl
 rw [List.getElem?_eq_getElem (by omega)] at h1
 obtain ⟨ys,m2,_,g1,g2,g3,g4⟩:=DataW.trod_struct he h1
 have h2 : xs.map (·.1) = styProps.map fun n=>.agg [.lit (.bool n.1),.lit (.int .i64 n.2.1),.lit (.int .i64 n.2.2.1),.lit (.int .i64 n.2.2.2)]:=by
  have:=hx.symm.trans (by rw [hd] : (d,p) = (.agg (styProps.map fun n=>.agg [.lit (.bool n.1),.lit (.int .i64 n.2.1),.lit (.int .i64 n.2.2.1),.lit (.int .i64 n.2.2.2)]),p))
  simp only [Prod.mk.injEq,DataW.agg.injEq] at this
  exact this.1
 have h3 : (xs.map (·.1))[k]? = some (.agg [.lit (.bool x.1),.lit (.int .i64 x.2.1),.lit (.int .i64 x.2.2.1),.lit (.int .i64 x.2.2.2)]):=by rw [h2,List.getElem?_map,hk];rfl
 rw [List.getElem?_map,List.getElem?_eq_getElem (show k < xs.length by omega),g1] at h3
 simp only [Option.map_some,Option.some.injEq,DataW.agg.injEq] at h3
 have r0:=g4 0 f0 rfl
 have r1:=g4 1 f1 rfl
 have r2:=g4 2 f2 rfl
 have r3:=g4 3 f3 rfl
 match ys,h3 with
 | [y0,y1,y2,y3],h3 =>
  simp only [List.map_cons,List.map_nil,List.cons.injEq,and_true] at h3
  rw [t0,o0] at r0
  rw [t1,o1] at r1
  rw [t2,o2] at r2
  rw [t3,o3] at r3
  obtain ⟨n0,q0,q0'⟩:=DataW.trod_bool heb (r0.trans rfl)
  obtain ⟨n1,q1,q1',_⟩:=DataW.trod_int hei (r1.trans rfl)
  obtain ⟨n2,q2,q2',_⟩:=DataW.trod_int hei (r2.trans rfl)
  obtain ⟨n3,q3,q3',_⟩:=DataW.trod_int hei (r3.trans rfl)
  rw [q0',q1',q2',q3'] at h3
  simp only [DataW.lit.injEq,Lit.int.injEq,Lit.bool.injEq,true_and] at h3
  obtain ⟨e0,e1',e2',e3'⟩:=h3
  subst e0 e1' e2' e3'
  rw [hcb] at q0
  rw [hci] at q1 q2 q3
  rw [hc] at q0 q1 q2 q3
  have c0:=chunk (cs:=(cs.drop (k * 4)).take 4) (i:=0) (sz:=1) (by simpa using q0) (j:=0) (by omega) rfl
  have c1:=chunk (cs:=(cs.drop (k * 4)).take 4) (i:=1) (sz:=1) q1 (j:=0) (by omega) rfl
  have c2:=chunk (cs:=(cs.drop (k * 4)).take 4) (i:=2) (sz:=1) q2 (j:=0) (by omega) rfl
  have c3:=chunk (cs:=(cs.drop (k * 4)).take 4) (i:=3) (sz:=1) q3 (j:=0) (by omega) rfl
  refine ⟨?_,?_,?_,?_⟩
  ·have:=chunk (cs:=cs) (i:=k) (sz:=4) rfl (j:=0) (by omega) (by simpa using c0)
   simpa using this
  ·exact chunk (cs:=cs) (i:=k) (sz:=4) rfl (j:=1) (by omega) (by simpa using c1)
  ·exact chunk (cs:=cs) (i:=k) (sz:=4) rfl (j:=2) (by omega) (by simpa using c2)
  ·exact chunk (cs:=cs) (i:=k) (sz:=4) rfl (j:=3) (by omega) (by simpa using c3)
theorem tab_of {laid : List (String × DataW Unit)} {t1 e1 t2 e2 e3 : Nat} {f0 f1 : Field} {d1 d2 : DataW Unit} (h : laidMetH P laid W) (hh : (laid.filter fun x => x.2.handleName?.isSome) = []) (m1 : ("unicode/utf8.first", d1) ∈ laid) (m2 : ("unicode/utf8.acceptRanges", d2) ∈ laid)
  (n1 : (P.globalNamed "unicode/utf8.first").bind (fun g => (P.globals[g]?).map (·.type)) = some t1) (n2 : (P.globalNamed "unicode/utf8.acceptRanges").bind (fun g => (P.globals[g]?).map (·.type)) = some t2)
  (hu1 : P.underlying t1 = some (.array 256 e1)) (he1 : P.underlying e1 = some (.int .u8)) (hc1 : P.cellsOf e1 = 1) (hd1 : d1 = .agg (utf8First.map fun n=>.lit (.int .u8 n)))
  (hu2 : P.underlying t2 = some (.array 16 e2)) (he2 : P.underlying e2 = some (.struct #[f0,f1])) (hc2 : P.cellsOf e2 = 2) (ft0 : f0.type = e3) (fo0 : f0.offset = 0) (ft1 : f1.type = e3) (fo1 : f1.offset = 1) (he3 : P.underlying e3 = some (.int .u8)) (hc3 : P.cellsOf e3 = 1)
  (hd2 : d2 = .agg (utf8Accept.map fun n=>.agg [.lit (.int .u8 n.1),.lit (.int .u8 n.2)]))
  (h3 : P.globalNamed "widgetry/style.properties" = none ∨ ∃ (d3 : DataW Unit) (t3 e3 eb ei : Nat) (f0 f1 f2 f3 : Field), ("widgetry/style.properties", d3) ∈ laid ∧ (P.globalNamed "widgetry/style.properties").bind (fun g => (P.globals[g]?).map (·.type)) = some t3 ∧ P.underlying t3 = some (.array 22 e3) ∧ P.underlying e3 = some (.struct #[f0, f1, f2, f3]) ∧ P.cellsOf e3 = 4 ∧
   f0.type = eb ∧ f0.offset = 0 ∧ f1.type = ei ∧ f1.offset = 1 ∧ f2.type = ei ∧ f2.offset = 2 ∧ f3.type = ei ∧ f3.offset = 3 ∧ P.underlying eb = some .bool ∧ P.cellsOf eb = 1 ∧ P.underlying ei = some (.int .i64) ∧ P.cellsOf ei = 1 ∧
   d3 = .agg (styProps.map fun n=>.agg [.lit (.bool n.1),.lit (.int .i64 n.2.1),.lit (.int .i64 n.2.2.1),.lit (.int .i64 n.2.2.2)])) : Tab P (M1 W):=by
 unfold laidMetH at h
 rw [hh] at h
 obtain ⟨ps,hv,_,_⟩:=h
 refine ⟨?_,?_,?_⟩
 ·intro g hg k x hk
  obtain ⟨g',t,cs,fuel,p,a1,a2,a3,a4⟩:=laidVars_mem hv m1
  rw [hg] at a1;cases a1
  rw [hg] at n1
  simp only [Option.bind_some] at n1
  rw [a2] at n1;cases n1
  exact var_cell hg a3 (tab_first a4 hu1 he1 hc1 hd1 k x hk)
 ·intro g hg k x hk
  obtain ⟨g',t,cs,fuel,p,a1,a2,a3,a4⟩:=laidVars_mem hv m2
  rw [hg] at a1;cases a1
  rw [hg] at n2
  simp only [Option.bind_some] at n2
  rw [a2] at n2;cases n2
  have:=tab_accept a4 hu2 he2 hc2 ft0 fo0 ft1 fo1 he3 hc3 hd2 k x hk
  exact ⟨var_cell hg a3 this.1,var_cell hg a3 this.2⟩
 ·intro g hg k x hk
  rcases h3 with h3 | ⟨d3,t3,e3,eb,ei,f0,f1,f2,f3,m3,n3,hu3,hef,hc,t0,o0,t1,o1,t2,o2,t3',o3,heb,hcb,hei,hci,hd3⟩
  ·rw [h3] at hg;cases hg
  obtain ⟨g',t,cs,fuel,p,a1,a2,a3,a4⟩:=laidVars_mem hv m3
  rw [hg] at a1;cases a1
  rw [hg] at n3
  simp only [Option.bind_some] at n3
  rw [a2] at n3;cases n3
  have:=tab_sty a4 hu3 hef hc t0 o0 t1 o1 t2 o2 t3' o3 heb hcb hei hci hd3 k x hk
  exact ⟨var_cell hg a3 this.1,var_cell hg a3 this.2.1,var_cell hg a3 this.2.2.1,var_cell hg a3 this.2.2.2⟩
end Go.E2
end
section
namespace Go.E2
variable {P : Program} {C : Ctx} {F : FS} {ops : Array Oper} {dst : Nat} {op : Op} {ty : TypeId} {pos : String} {after : Array Edge}
section plain
variable {K V : Type} [BEq K]
def midx : List (K × V) → K → Option Nat
 | [],_=>none
 | (a,_) :: r,k=>match k == a with
  | true=>some 0
  | false=>(midx r k).map (· + 1)
def mget1 : List (K × V) → K → Option V
 | [],_=>none
 | (a,v) :: r,k=>match k == a with
  | true=>some v
  | false=>mget1 r k
def mgetO (L : List (K × V)) (k : K) (z : V) : Option (V × Bool):=some (match mget1 L k with
 | some v=>(v,true)
 | none=>(z,false))
def msetL : List (K × V) → K → V → List (K × V)
 | [],k,v=>[(k,v)]
 | (a,u) :: r,k,v=>match k == a with
  | true=>(k,v) :: r
  | false=>(a,u) :: msetL r k v
theorem midx_spec : ∀ {L : List (K × V)} {k : K} {n : Nat},midx L k = some n → ∃ p,L[n]? = some p ∧ (k == p.1) = true
 | [],k,n,h=>by cases h
 | (a,v) :: r,k,n,h=>by
  unfold midx at h
  cases hk : (k == a) with
  | true=>rw [hk] at h;cases h;exact ⟨(a,v),rfl,hk⟩
  | false =>
   rw [hk] at h
   simp only [Option.map_eq_some_iff] at h
   obtain ⟨m,hm,rfl⟩:=h
   obtain ⟨p,h1,h2⟩:=midx_spec hm
   exact ⟨p,by simpa using h1,h2⟩
theorem mget1_eq : ∀ (L : List (K × V)) (k : K),mget1 L k = (midx L k).bind fun n=>(L[n]?).map (·.2)
 | [],_=>rfl
 | (a,v) :: r,k=>by
  unfold mget1 midx
  cases hk : (k == a) with
  | true=>rfl
  | false =>
   simp only
   rw [mget1_eq r k]
   cases midx r k with
   | none=>rfl
   | some n=>simp
theorem mgetO_eq (L : List (K × V)) (k : K) (z : V) : mgetO L k z = match midx L k with
  | none=>some (z,false)
  | some n=>match L[n]? with
   | some p=>some (p.2,true)
   | none=>none:=by
 unfold mgetO
 rw [mget1_eq]
 cases h : midx L k with
 | none=>rfl
 | some n =>
  obtain ⟨p,hp,_⟩:=midx_spec h
  simp [hp]
theorem msetL_eq : ∀ (L : List (K × V)) (k : K) (v : V),msetL L k v = match midx L k with
  | none=>L ++ [(k,v)]
  | some n=>L.set n (k,v)
 | [],_,_=>rfl
 | (a,u) :: r,k,v=>by
  unfold msetL midx
  cases hk : (k == a) with
  | true=>rfl
  | false =>
   simp only
   rw [msetL_eq r k v]
   cases midx r k with
   | none=>rfl
   | some n=>rfl
end plain
theorem under_run {t : TypeId} {d : TypeDesc} (h : P.underlying t = some d) (w : World) : (underlying t).run P w = .ok d w:=by
 simp [underlying,program,Sem.run,h]
structure KeyOk (P : Program) (kt : TypeId) {K : Type} [BEq K] (ek : K → Value) : Prop where
 law : ∀ a b : K,(a == b) = true → a = b
 d : ∃ d,P.underlying kt = some d ∧ (∀ a b,Instr.sameNow d (ek a) (ek b) = some (a == b)) ∧ ∀ e a w,(Instr.checkKey e 10000 kt (ek a)).run P w = .ok () w
 bits : ∀ a b,(a == b) = true → Instr.sameBits 10000 (ek a) (ek b) = true
def kInt (k : IntKind) (a : Int) : Value:=.int k a
def kStr (a : Str) : Value:=.string a
theorem keyInt {kt : TypeId} {k : IntKind} (h : P.underlying kt = some (.int k)) : KeyOk P kt (kInt k):=by
 refine ⟨fun a b h=>by simpa using h,⟨_,h,fun a b=>by simp [Instr.sameNow,kInt],fun e a w=>?_⟩,fun a b hab=>by simp [kInt,Instr.sameBits];simpa using hab⟩
 unfold Instr.checkKey
 rw [run_bind_ok (under_run h w)]
 rfl
theorem keyStr {kt : TypeId} (h : P.underlying kt = some .string) : KeyOk P kt kStr := by
  refine ⟨fun a b h => by
      obtain ⟨a⟩ := a
      obtain ⟨b⟩ := b
      have h' : (a == b) = true := h
      rw [eq_of_beq h'], ⟨_, h, fun a b => by simp [Instr.sameNow, kStr], fun e a w => ?_⟩, fun a b hab => by simp [kStr, Instr.sameBits]; simpa using hab⟩
  unfold Instr.checkKey
  rw [run_bind_ok (under_run h w)]
  rfl
def rowA (agg : Bool) (row : List D) : A1:=match agg with
 | true=>.agg (dcells row)
 | false=>match row with
  | d :: _=>.c (.d d)
  | []=>.agg []
def encM {K V : Type} (ek : K → Value) (ev : V → List D) (L : List (K × V)) : List (Value × List D):=L.map fun p=>(ek p.1,ev p.2)
theorem encM_get {K V : Type} {ek : K → Value} {ev : V → List D} {L : List (K × V)} {i : Nat} {a : K} {v : V} (h : L[i]? = some (a,v)) : (encM ek ev L)[i]? = some (ek a,ev v):=by
 unfold encM;rw [List.getElem?_map,h];rfl
theorem encM_inv {K V : Type} {ek : K → Value} {ev : V → List D} {L : List (K × V)} {i : Nat} {a : Value} {v : List D} (h : (encM ek ev L)[i]? = some (a,v)) : ∃ p,L[i]? = some p ∧ a = ek p.1 ∧ v = ev p.2:=by
 unfold encM at h
 rw [List.getElem?_map] at h
 cases hl : L[i]? with
 | none=>rw [hl] at h;cases h
 | some p=>rw [hl] at h;cases h;exact ⟨p,rfl,rfl,rfl⟩
def MpAt (M : Mem) (w : World) (agg : Bool) (l : List (Value × List D)) (v : Value) : Prop :=
  (v = .map none ∧ l = []) ∨ ∃ (r : Nat) (es : Array MapEntry) (clock : Nat) (f : Nat → Nat → Value), v = .map (some r) ∧ w.heap[r]? = some (.map es clock) ∧ es.size = l.length ∧ (∀ (i : Nat) k row, l[i]? = some (k, row) → ∃ born, es[i]? = some ⟨k, mkVal agg row.length (f i), born⟩) ∧
      (∀ (i : Nat) k row (j : Nat) d, l[i]? = some (k, row) → row[j]? = some d → Rep M d (f i j))
def mpOf (F : FS) (x : Operand) : Option (Bool × List (Value × List D)) :=
 match rd F x with
 | some (.c (.own j))=>match F.bl j with
  | some (.mp agg l)=>some (agg,l)
  | _=>none
 | some (.c (.d (.mp agg l)))=>some (agg,l)
 | _=>none
def mpBlk (F : FS) (x : Operand) : List Nat :=
 match rd F x with
 | some (.c (.own j))=>[j]
 | _=>[]
theorem mpOf_same {F' : FS} {x : Operand} (h : opnd F' x = opnd F x) (hb : ∀ j ∈ mpBlk F x,F'.bl j = F.bl j) : mpOf F' x = mpOf F x:=by
 unfold mpOf
 rw [rd_same h]
 unfold mpBlk at hb
 split
 ·rename_i j hj
  rw [hj] at hb
  rw [hb j (by simp)]
 ·rfl
 ·rfl
theorem mpOf_at {ρ : Env} {M : Mem} {a : Act} {w : World} (hr : Rel0 C F ρ M a w) {xs : List Operand} (hR : Reads F a ρ M xs) {x : Operand} (hx : x ∈ xs) {agg : Bool} {l : List (Value × List D)} (h : mpOf F x = some (agg,l)) : MpAt M w agg l (a.eval x):=by
 unfold mpOf at h
 split at h
 ·rename_i j hj
  split at h
  ·rename_i g l' hb
   cases h
   have e : a.eval x = ρ j:=hR x hx _ hj
   obtain ⟨r,es,clock,f,e1,h1,h2,h3,h4,h5,_⟩:=hr.heap.inv j _ hb
   exact .inr ⟨r,es,clock,f,e.trans e1,h1,h3,h4,h5⟩
  ·cases h
 ·rename_i g l' hx'
  cases h
  have e : Rep M (.mp agg l) (a.eval x):=hR x hx _ hx'
  generalize a.eval x = v at e
  cases e with
  | mp0=>exact .inl ⟨rfl,rfl⟩
  | @mp _ _ r clock es f ho hs hk he=>exact .inr ⟨r,es,clock,f,rfl,(hr.heap.mem.obj _ _ ho).1,hs,hk,he⟩
 ·cases h
theorem findNow_spec {K V : Type} [BEq K] {ek : K → Value} {d : TypeDesc} (hd : ∀ a b,Instr.sameNow d (ek a) (ek b) = some (a == b)) (k : K) : ∀ (L : List (K × V)) (es : List MapEntry) (i : Nat),es.length = L.length → (∀ (n : Nat) p,L[n]? = some p → ∃ e,es[n]? = some e ∧ e.key = ek p.1) →
  Instr.findNow d (ek k) es i = some ((midx L k).bind fun n=>(es[n]?).map fun e=>(i + n,e.val))
 | [],[],i,_,_=>rfl
 | [],_ :: _,i,h,_=>by simp at h
 | _ :: _,[],i,h,_=>by simp at h
 | (a,v) :: r,e :: es,i,h,he=>by
  obtain ⟨e',h1,h2⟩:=he 0 (a,v) rfl
  simp at h1
  subst h1
  unfold Instr.findNow midx
  rw [h2,hd]
  cases hk : (k == a) with
  | true=>simp
  | false =>
   simp only
   rw [findNow_spec hd k r es (i + 1) (by simpa using h) (fun n p hp=>by simpa using he (n + 1) p (by simpa using hp))]
   cases midx r k with
   | none=>rfl
   | some n=>simp;congr 1;funext e;congr 1;omega
theorem findKey_run {K V : Type} [BEq K] {kt : TypeId} {ek : K → Value} (hk : KeyOk P kt ek) {L : List (K × V)} {es : Array MapEntry} (hs : es.size = L.length) (he : ∀ (n : Nat) p,L[n]? = some p → ∃ e,es[n]? = some e ∧ e.key = ek p.1) (k : K) (w : World) :
  (Instr.findKey kt (ek k) es.toList).run P w = .ok ((midx L k).bind fun n=>(es[n]?).map fun e=>(n,e.val)) w:=by
 obtain ⟨d,hu,h1,_⟩:=hk.d
 unfold Instr.findKey
 rw [run_bind_ok (under_run hu w),findNow_spec h1 k L es.toList 0 (by simpa using hs) (fun n p hp=>by simpa using he n p hp)]
 simp only [Nat.zero_add,Array.getElem?_toList]
 rfl
def mapInfo (P : Program) (t : TypeId) : Option (TypeId × TypeId):=match P.underlying t with
 | some (.map k e)=>some (k,e)
 | _=>none
theorem mapInfo_run {t k e : TypeId} (h : mapInfo P t = some (k,e)) (w : World) : (underlying t).run P w = .ok (.map k e) w:=by
 unfold mapInfo at h
 split at h
 ·rename_i hu;cases h;exact under_run hu w
 ·cases h
def zeroA (P : Program) (t : TypeId) : Option A1 :=
 match P.info? t with
 | some i=>match i.zero with
  | some (.agg cs)=>some (.agg (cs.toList.map zcell))
  | some v=>some (.c (zcell v))
  | none=>none
 | none=>none
theorem zeroA_run {t : TypeId} {x : A1} (h : zeroA P t = some x) (w : World) : ∃ v,(zeroValue t).run P w = .ok v w ∧ ∀ ρ M,x.rep ρ M v:=by
 unfold zeroA at h
 split at h
 ·rename_i i hi
  split at h
  ·rename_i cs hz
   cases h
   exact ⟨.agg cs,by simp [zeroValue,typeInfo,program,Sem.bind,Sem.run,hi,hz,bind,pure],fun ρ M=>⟨cs,rfl,Reps.zero cs.toList⟩⟩
  ·rename_i v hne hz
   cases h
   exact ⟨v,by simp [zeroValue,typeInfo,program,Sem.bind,Sem.run,hi,hz,bind,pure],fun ρ M=>zcell_rep ρ M v⟩
  ·cases h
 ·cases h
theorem dcells_rep {ρ : Env} {M : Mem} : ∀ {row : List D} {vs : List Value},RepsD M row vs → Reps ρ M (dcells row) vs
 | [],[],_=>trivial
 | _ :: _,_ :: _,h=>⟨h.1,dcells_rep h.2⟩
 | [],_ :: _,h=>h.elim
 | _ :: _,[],h=>h.elim
theorem repsD_of {M : Mem} (f : Nat → Value) : ∀ (row : List D) (o : Nat),(∀ (j : Nat) d,row[j]? = some d → Rep M d (f (o + j))) → RepsD M row ((List.range' o row.length).map f)
 | [],_,_=>trivial
 | d :: r,o,h=>by
  simp only [List.length_cons,List.range'_succ,List.map_cons]
  exact ⟨by simpa using h 0 d rfl,repsD_of f r (o + 1) (fun j d' hj=>by
   have:=h (j + 1) d' (by simpa using hj)
   rw [show o + 1 + j = o + (j + 1) by omega];exact this)⟩
theorem rowA_rep {ρ : Env} {M : Mem} {agg : Bool} {row : List D} {f : Nat → Value} (h1 : agg = false → row.length = 1) (h : ∀ (j : Nat) d,row[j]? = some d → Rep M d (f j)) : (rowA agg row).rep ρ M (mkVal agg row.length f):=by
 cases agg with
 | true =>
  refine ⟨_,rfl,?_⟩
  have:=repsD_of f row 0 (fun j d hj=>by simpa using h j d hj)
  rw [← List.range_eq_range'] at this
  simpa using dcells_rep this
 | false =>
  have:=h1 rfl
  match row,this with
  | [d],_=>exact h 0 d rfl
theorem lookup_run {K V : Type} [BEq K] {t kt et : TypeId} {ek : K → Value} {ev : V → List D} {L : List (K × V)} {agg : Bool} {M : Mem} {w : World} {v : Value} {z0 : A1} {k : K} {zr y : V} {ok co : Bool}
  (hm : MpAt M w agg (encM ek ev L) v) (ht : mapInfo P t = some (kt,et)) (hk : KeyOk P kt ek) (hz : zeroA P et = some z0) (hzn : ∀ (ρ : Env) (v : Value),z0.rep ρ M v → (rowA agg (ev zr)).rep ρ M v) (h1 : agg = false → ∀ x,(ev x).length = 1) (hg : mgetO L k zr = some (y,ok)) :
  ∃ u,(Instr.lookup t v (ek k) co).run P w = .ok (if co then .tuple #[u,.bool ok] else u) w ∧ ∀ ρ,(rowA agg (ev y)).rep ρ M u:=by
 obtain ⟨zv,z1,z2⟩:=zeroA_run hz w
 obtain ⟨d,hu,g1,g2⟩:=hk.d
 unfold Instr.lookup
 rw [run_bind_ok (mapInfo_run ht w)]
 rcases hm with ⟨rfl,hl⟩ | ⟨r,es,clock,f,rfl,q1,q2,q3,q4⟩
 ·have hL : L = []:=by
   unfold encM at hl;simpa using hl
  subst hL
  cases hg
  refine ⟨zv,?_,fun ρ=>hzn ρ _ (z2 ρ M)⟩
  simp only [pure_bind]
  rw [run_bind_ok (g2 _ _ w),run_bind_ok (findKey_run (L:=([] : List (K × V))) (es:=#[]) hk rfl (fun n p hp=>by simp at hp) k w)]
  simp only [midx,Option.bind_none]
  rw [run_bind_ok z1]
  cases co <;> rfl
 ·have hs : es.size = L.length:=by rw [q2];simp [encM]
  have he : ∀ (n : Nat) p,L[n]? = some p → ∃ e,es[n]? = some e ∧ e.key = ek p.1:=fun n p hp=>by
   obtain ⟨born,hb⟩:=q3 n _ _ (encM_get (a:=p.1) (v:=p.2) hp)
   exact ⟨_,hb,rfl⟩
  have hgo : (getObj r).run P w = .ok (.map es clock) w:=by simp [getObj,Sem.run,q1]
  simp only []
  rw [run_bind_ok hgo]
  simp only [pure_bind]
  rw [run_bind_ok (g2 _ _ w),run_bind_ok (findKey_run hk hs he k w)]
  rw [mgetO_eq] at hg
  cases hi : midx L k with
  | none =>
   rw [hi] at hg
   cases hg
   refine ⟨zv,?_,fun ρ=>hzn ρ _ (z2 ρ M)⟩
   simp only [Option.bind_none]
   rw [run_bind_ok z1]
   cases co <;> rfl
  | some n =>
   rw [hi] at hg
   obtain ⟨p,hp,_⟩:=midx_spec hi
   obtain ⟨born,hb⟩:=q3 n _ _ (encM_get (a:=p.1) (v:=p.2) hp)
   simp only [hp,Option.some.injEq,Prod.mk.injEq] at hg
   obtain ⟨rfl,rfl⟩:=hg
   refine ⟨mkVal agg (ev p.2).length (f n),?_,fun ρ=>rowA_rep (fun h=>h1 h _) (fun j d hj=>q4 n _ _ j d (encM_get (a:=p.1) (v:=p.2) hp) hj)⟩
   simp only [Option.bind_some,hb,Option.map_some]
   cases co <;> rfl
theorem Tri.quietV {o : Oper} {d : Nat} {x : AV} (hg : o.guard = none) (hd : o.dst = some d) (hn : Nat.blt d C.n = true) (hq : ∀ ρ M a w,Rel0 C F ρ M a w → ∃ u,(execOp a.eval o).run P w = .ok (.value u) w ∧ x.rep ρ M u) : Tri P C ops o F (F.upd [(d,x)] []):=by
 refine Tri.val [] hg hd hn (fun _ h=>by cases h) (fun k hk=>by rw [over_nil];exact hk) (fun _ h=>by cases h) (fun ρ M a w hr=>?_)
 obtain ⟨u,h1,_⟩:=hq ρ M a w hr
 refine ⟨u,w,M,fun _=>undef,h1,Mem.le_refl _,fun ρ' h0 _=>?_⟩
 obtain ⟨u',h1',h2'⟩:=hq ρ' M a w h0
 have e : u = u':=by have:=h1.symm.trans h1';simpa using this
 subst e
 exact ⟨h2',by rw [over_nil];exact h0.heap⟩
theorem triLook {K V : Type} [BEq K] {ek : K → Value} {ev : V → List D} {L : List (K × V)} {agg : Bool} {t kt et : TypeId} {x i : Operand} {z0 r : A1} {k : K} {zr : V} {yo : V × Bool} (hg : mgetO L k zr = some yo) (hx : mpOf F x = some (agg,encM ek ev L)) (hi : rdV F i = some (ek k)) (ht : mapInfo P t = some (kt,et)) (hk : KeyOk P kt ek) (hz : zeroA P et = some z0) (hzn : z0.norm = rowA agg (ev zr)) (h1 : agg = false → ∀ x,(ev x).length = 1) (hr : rowA agg (ev yo.1) = r) (hs : sideOk F true [x,i]) (hd : Nat.blt dst C.n = true) :
  TriL P C ops ⟨some dst,.lookup t x i false,ty,pos,after,none⟩ ⟨slotsOf [x,i],mpBlk F x,[dst],[]⟩ [(dst,.s r)] [] F:=by
 subst hr
 refine ⟨⟨rfl,rfl⟩,fun F' hS=>?_⟩
 have h2:=opnd_same hS.1
 refine Tri.quiet rfl rfl hd (fun ρ M a w hr=>?_)
 have hR:=reads_of hr rfl (sideOk_same h2 hs)
 obtain ⟨u,q1,q2⟩:=lookup_run (P:=P) (co:=false) (mpOf_at hr hR (by simp) ((mpOf_same (h2 x (by simp)) hS.2).trans hx)) ht hk hz (fun ρ v h=>by rw [← hzn];exact A1.norm_rep h) h1 hg
 refine ⟨u,?_,q2 ρ⟩
 unfold execOp
 simp only
 rw [rdV_eval hR (by simp) ((rdV_same (h2 i (by simp))).trans hi)]
 exact bind_value q1
theorem triLookG {K V : Type} [BEq K] {ek : K → Value} {ev : V → List D} {L : List (K × V)} {agg : Bool} {t kt et : TypeId} {x i : Operand} {z0 r : A1} {k : K} {zr : V} {yo : V × Bool} {gk : Nat} {want g : Bool} (hg : g = true → mgetO L k zr = some yo) (hb : guardB F ops gk want = some g) (hx : mpOf F x = some (agg,encM ek ev L)) (hi : rdV F i = some (ek k)) (ht : mapInfo P t = some (kt,et)) (hk : KeyOk P kt ek) (hz : zeroA P et = some z0) (hzn : z0.norm = rowA agg (ev zr)) (h1 : agg = false → ∀ x,(ev x).length = 1) (hr : rowA agg (ev yo.1) = r) (hs : sideOk F g [x,i]) (hd : Nat.blt dst C.n = true) :
  TriL P C ops ⟨some dst,.lookup t x i false,ty,pos,after,some (gk,want)⟩ ⟨gSlot ops gk ++ slotsOf [x,i],mpBlk F x,[dst],[]⟩ [(dst,.gd g r)] [] F:=by
 subst hr
 refine ⟨⟨rfl,rfl⟩,fun F' hS=>?_⟩
 have h2:=opnd_same (F:=F) (F':=F') (xs:=[x,i]) (fun t ht=>hS.1 t (by simp [ht]))
 refine Tri.quietG rfl ((guardB_same (fun t ht=>hS.1 t (by simp [ht]))).trans hb) rfl hd (fun hgt ρ M a w hr=>?_)
 have hR:=reads_of hr hgt (sideOk_same h2 hs)
 obtain ⟨u,q1,q2⟩:=lookup_run (P:=P) (co:=false) (mpOf_at hr hR (by simp) ((mpOf_same (h2 x (by simp)) hS.2).trans hx)) ht hk hz (fun ρ v h=>by rw [← hzn];exact A1.norm_rep h) h1 (hg hgt)
 refine ⟨u,?_,q2 ρ⟩
 unfold execOp
 simp only
 rw [rdV_eval hR (by simp) ((rdV_same (h2 i (by simp))).trans hi)]
 exact bind_value q1
theorem triLookT {K V : Type} [BEq K] {ek : K → Value} {ev : V → List D} {L : List (K × V)} {agg : Bool} {t kt et : TypeId} {x i : Operand} {z0 r : A1} {k : K} {zr : V} {yo : V × Bool} (hg : mgetO L k zr = some yo) (hx : mpOf F x = some (agg,encM ek ev L)) (hi : rdV F i = some (ek k)) (ht : mapInfo P t = some (kt,et)) (hk : KeyOk P kt ek) (hz : zeroA P et = some z0) (hzn : z0.norm = rowA agg (ev zr)) (h1 : agg = false → ∀ x,(ev x).length = 1) (hr : rowA agg (ev yo.1) = r) (hs : sideOk F true [x,i]) (hd : Nat.blt dst C.n = true) :
  TriL P C ops ⟨some dst,.lookup t x i true,ty,pos,after,none⟩ ⟨slotsOf [x,i],mpBlk F x,[dst],[]⟩ [(dst,.tup [r,.c (.d (.v (.bool yo.2)))])] [] F:=by
 subst hr
 refine ⟨⟨rfl,rfl⟩,fun F' hS=>?_⟩
 have h2:=opnd_same hS.1
 refine Tri.quietV rfl rfl hd (fun ρ M a w hr=>?_)
 have hR:=reads_of hr rfl (sideOk_same h2 hs)
 obtain ⟨u,q1,q2⟩:=lookup_run (P:=P) (co:=true) (mpOf_at hr hR (by simp) ((mpOf_same (h2 x (by simp)) hS.2).trans hx)) ht hk hz (fun ρ v h=>by rw [← hzn];exact A1.norm_rep h) h1 hg
 refine ⟨.tuple #[u,.bool yo.2],?_,⟨_,rfl,q2 ρ,Rep.v _,trivial⟩⟩
 unfold execOp
 simp only
 rw [rdV_eval hR (by simp) ((rdV_same (h2 i (by simp))).trans hi)]
 exact bind_value q1
theorem triLenM {K V : Type} {ek : K → Value} {ev : V → List D} (L : List (K × V)) {agg : Bool} {t kt et : TypeId} {x : Operand} (hx : mpOf F x = some (agg,encM ek ev L)) (ht : mapInfo P t = some (kt,et)) (hs : sideOk F true [x]) (hd : Nat.blt dst C.n = true) :
  TriL P C ops ⟨some dst,.call ⟨.builtin .len,#[x],#[t]⟩,ty,pos,after,none⟩ ⟨slotsOf [x],mpBlk F x,[dst],[]⟩ [(dst,.s (.c (.d (.v (.int .i64 L.length)))))] [] F:=by
 refine ⟨⟨rfl,rfl⟩,fun F' hS=>?_⟩
 have h1:=opnd_same hS.1
 refine Tri.quiet (x:=.c (.d (.v (.int .i64 L.length)))) rfl rfl hd (fun ρ M a w hr=>?_)
 have hm:=mpOf_at hr (reads_of hr rfl (sideOk_same h1 hs)) (by simp) ((mpOf_same (h1 x (by simp)) hS.2).trans hx)
 have hlen : (encM ek ev L).length = L.length:=by simp [encM]
 have key : (Builtin.len_ #[t] ty #[a.eval x]).run P w = .ok (.int .i64 L.length) w:=by
  unfold Builtin.len_
  simp only [List.getElem?_toArray,List.getElem?_cons_zero]
  rw [run_bind_ok (mapInfo_run ht w)]
  rcases hm with ⟨e,hl⟩ | ⟨r,es,clock,f,e,q1,q2,q3,q4⟩
  ·rw [e]
   rw [hl] at hlen
   simp only [List.length_nil] at hlen
   rw [← hlen];rfl
  ·rw [e]
   simp only
   have : (getObj r).run P w = .ok (.map es clock) w:=by simp [getObj,Sem.run,q1]
   rw [run_bind_ok this]
   simp only [q2,hlen]
   rfl
 refine ⟨_,?_,Rep.v _⟩
 unfold execOp
 simp only [resolve,List.map_toArray,List.map_cons,List.map_nil,pure_bind,invoke]
 show (do let y ← Builtin.len_ #[t] ty #[a.eval x];pure (Next.value y) : Sem Next).run P w = _
 exact bind_value key
theorem triMkM {t : TypeId} {j : Nat} (agg : Bool) (hd : Nat.blt dst C.n = true) (hj : F.bl j = none) :
  TriL P C ops ⟨some dst,.makeMap t none,ty,pos,after,none⟩ ⟨[],[j],[dst],[j]⟩ [(dst,.s (.c (.own j)))] [(j,.mp agg [])] F:=by
 refine ⟨⟨rfl,rfl⟩,fun F' hS=>?_⟩
 refine Tri.val [j] rfl rfl hd (fun k hk=>by simp at hk;subst hk;exact (hS.2 k (by simp)).trans hj) (fun k hk=>dom_over hk) (fun k hk=>by simp at hk;subst hk;rw [over_one,if_pos rfl];simp) (fun ρ M a w hr=>?_)
 refine ⟨.map (some w.heap.size),w.alloc (.map #[] 0),M,fun _=>.map (some w.heap.size),rfl,Mem.le_refl _,fun ρ' h0' hnv=>?_⟩
 have hnj:=hnv j (by simp)
 refine ⟨hnj.symm,h0'.heap.allocO ?_ (fun b hb=>?_)⟩
 ·rw [hnj]
  exact ⟨w.heap.size,#[],0,fun _ _=>undef,rfl,alloc_new _ _,(h0'.heap.mem.none (Nat.le_refl _)).2,rfl,fun i k row h=>by simp at h,fun i k row j d h _=>by simp at h,rfl,fun i e h=>by simp at h⟩
 ·rw [hnj] at hb;cases hb;exact Nat.le_refl _
theorem mkVal_cells {agg : Bool} {v : Value} {row : List D} {M : Mem} (h : ∃ ρ, (rowA agg row).rep ρ M v) (h1 : agg = false → row.length = 1) : ∃ f : Nat → Value, v = mkVal agg row.length f ∧ ∀ (j : Nat) d, row[j]? = some d → Rep M d (f j) := by
  obtain ⟨ρ, h⟩ := h
  cases agg with
  | true =>
    obtain ⟨arr, rfl, h2⟩ := h
    have hlen : arr.toList.length = row.length := by have := h2.len; simpa [dcells] using this
    refine ⟨fun i => (arr.toList[i]?).getD undef, ?_, fun j d hj => ?_⟩
    · simp only [mkVal, Value.agg.injEq]
      apply Array.ext'
      apply List.ext_getElem?
      intro i
      rw [List.getElem?_map]
      by_cases hi : i < row.length
      · rw [List.getElem?_range hi]
        have : i < arr.toList.length := by omega
        have h3 : arr[i]? = some arr[i] := Array.getElem?_eq_getElem (by simpa using this)
        simp [h3]
      · rw [List.getElem?_eq_none (by omega), List.getElem?_eq_none (by simp; omega)]; rfl
    · obtain ⟨u, hu, hr⟩ := h2.get j (.d d) (by simp [dcells, hj])
      show Rep M d ((arr.toList[j]?).getD undef)
      rw [hu]; exact hr
  | false =>
    have := h1 rfl
    match row, this with
    | [d], _ => exact ⟨fun _ => v, rfl, fun j d' hj => by
        cases j with
        | zero => simp at hj; subst hj; exact h
        | succ j => simp at hj⟩
theorem setObj_heap {w : World} {r clock : Nat} {es : Array MapEntry} {o' : Obj} (h : w.heap[r]? = some (.map es clock)) : ((setObj r o').run P w = .ok () { w with heap:=w.heap.setIfInBounds r o' }):=by
 simp only [setObj,Sem.run,h]
def esSet {K V : Type} [BEq K] (ek : K → Value) (L : List (K × V)) (k : K) (u : Value) (clock : Nat) (es : Array MapEntry) : Array MapEntry:=match midx L k with
 | some n=>es.modify n fun e=>{ e with key:=ek k,val:=u }
 | none=>es.push { key:=ek k,val:=u,born:=clock }
def clSet {K V : Type} [BEq K] (L : List (K × V)) (k : K) (clock : Nat) : Nat:=match midx L k with
 | some _=>clock
 | none=>clock + 1
def ixSet {K V : Type} [BEq K] (L : List (K × V)) (k : K) : Nat:=match midx L k with
 | some n=>n
 | none=>L.length
theorem esSet_size {K V : Type} [BEq K] {ek : K → Value} {L : List (K × V)} {k : K} {v : V} {u : Value} {clock : Nat} {es : Array MapEntry} (hs : es.size = L.length) : (esSet ek L k u clock es).size = (msetL L k v).length:=by
 unfold esSet
 rw [msetL_eq]
 cases midx L k <;> simp [hs]
theorem born_set {K V : Type} [BEq K] {ek : K → Value} {L : List (K × V)} {k : K} {u : Value} {clock : Nat} {es : Array MapEntry} (h : Born es clock) (_hs : es.size = L.length) : Born (esSet ek L k u clock es) (clSet L k clock):=by
 obtain ⟨h1,h2⟩:=h
 unfold esSet clSet
 cases hm : midx L k with
 | some n =>
  refine ⟨by simp [h1],fun i e he=>?_⟩
  simp only [Array.getElem?_modify] at he
  split at he
  ·rename_i hi
   subst hi
   cases hq : es[n]? with
   | none=>rw [hq] at he;cases he
   | some q=>rw [hq] at he;cases he;exact h2 n q hq
  ·exact h2 i e he
 | none =>
  refine ⟨by simp [h1],fun i e he=>?_⟩
  simp only [Array.getElem?_push] at he
  split at he
  ·rename_i hi;cases he;rw [h1,hi]
  ·exact h2 i e he
theorem esSet_get {K V : Type} [BEq K] {ek : K → Value} {L : List (K × V)} {k : K} {v : V} {u : Value} {clock : Nat} {es : Array MapEntry} (hs : es.size = L.length) {i : Nat} {p : K × V} (hp : (msetL L k v)[i]? = some p) :
  (i = ixSet L k ∧ p = (k,v) ∧ ∃ born,(esSet ek L k u clock es)[i]? = some ⟨ek k,u,born⟩) ∨ (i ≠ ixSet L k ∧ L[i]? = some p ∧ (esSet ek L k u clock es)[i]? = es[i]?):=by
 unfold esSet ixSet
 rw [msetL_eq] at hp
 cases hm : midx L k with
 | some n =>
  rw [hm] at hp
  obtain ⟨q,hq,_⟩:=midx_spec hm
  have hn : n < L.length:=(List.getElem?_eq_some_iff.1 hq).1
  simp only at hp ⊢
  by_cases e : i = n
  ·subst e
   rw [List.getElem?_set_self hn] at hp
   cases hp
   refine .inl ⟨rfl,rfl,?_⟩
   have : es[i]? = some es[i]:=Array.getElem?_eq_getElem (by omega)
   exact ⟨es[i].born,by rw [Array.getElem?_modify,if_pos rfl,this];rfl⟩
  ·rw [List.getElem?_set_ne (fun h=>e h.symm)] at hp
   refine .inr ⟨e,hp,?_⟩
   rw [Array.getElem?_modify,if_neg (fun h=>e h.symm)]
 | none =>
  rw [hm] at hp
  simp only at hp ⊢
  by_cases e : i = L.length
  ·subst e
   rw [List.getElem?_append_right (Nat.le_refl _)] at hp
   simp at hp
   subst hp
   exact .inl ⟨rfl,rfl,clock,by rw [← hs];simp⟩
  ·have hl : i < L.length:=by
    have:=(List.getElem?_eq_some_iff.1 hp).1
    simp at this;omega
   rw [List.getElem?_append_left hl] at hp
   refine .inr ⟨e,hp,?_⟩
   rw [Array.getElem?_push,if_neg (by omega)]
theorem update_run {K V : Type} [BEq K] {t kt et : TypeId} {ek : K → Value} {L : List (K × V)} {es : Array MapEntry} {clock r : Nat} {w : World} {k : K} {u : Value}
  (ht : mapInfo P t = some (kt,et)) (hk : KeyOk P kt ek) (hh : w.heap[r]? = some (.map es clock)) (hs : es.size = L.length) (he : ∀ (n : Nat) p,L[n]? = some p → ∃ e,es[n]? = some e ∧ e.key = ek p.1) :
  (Instr.mapUpdate t (.map (some r)) (ek k) u).run P w = .ok () { w with heap:=w.heap.setIfInBounds r (.map (esSet ek L k u clock es) (clSet L k clock)) }:=by
 obtain ⟨d,hu,g1,g2⟩:=hk.d
 unfold Instr.mapUpdate
 rw [run_bind_ok (mapInfo_run ht w)]
 simp only
 have : (getObj r).run P w = .ok (.map es clock) w:=by simp [getObj,Sem.run,hh]
 rw [run_bind_ok this]
 simp only
 rw [run_bind_ok (g2 _ _ w),run_bind_ok (findKey_run hk hs he k w)]
 unfold esSet clSet
 cases hm : midx L k with
 | none =>
  simp only [Option.bind_none]
  exact setObj_heap hh
 | some n =>
  obtain ⟨p,hp,hkp⟩:=midx_spec hm
  obtain ⟨e,h1,h2⟩:=he n p hp
  have hkk : k = p.1:=hk.law _ _ hkp
  simp only [Option.bind_some,h1,Option.map_some,Option.getD_some]
  have hst : (Instr.keyThatStays e.key (ek k)).run P w = .ok (ek k) w:=by
   unfold Instr.keyThatStays
   rw [h2,← hkk,hk.bits k k (by rw [← hkk] at hkp;exact hkp)]
   rfl
  rw [run_bind_ok hst]
  exact setObj_heap hh
theorem triMapUp {K V : Type} [BEq K] {ek : K → Value} {ev : V → List D} {L L' : List (K × V)} {agg : Bool} {t kt et : TypeId} {x i y : Operand} {j : Nat} {k : K} {z : V} {v : A1} (hx : opnd F x = some (.s (.c (.own j)))) (hj : F.bl j = some (.mp agg (encM ek ev L))) (hi : rdV F i = some (ek k)) (hy : opnd F y = some (.s v)) (hv : v.norm = rowA agg (ev z)) (ht : mapInfo P t = some (kt,et)) (hk : KeyOk P kt ek) (h1 : agg = false → ∀ x,(ev x).length = 1) (hL : msetL L k z = L') (hs : sideOk F true [x,i,y]) :
  TriL P C ops ⟨none,.mapUpdate t x i y,ty,pos,after,none⟩ ⟨slotsOf [x,i,y],[j],[],[j]⟩ [] [(j,.mp agg (encM ek ev L'))] F:=by
 subst hL
 refine ⟨⟨rfl,rfl⟩,fun F' hS=>?_⟩
 have h2:=opnd_same hS.1
 have hj' : F'.bl j = some (.mp agg (encM ek ev L)):=(hS.2 j (by simp)).trans hj
 have hx':=(h2 x (by simp)).trans hx
 have hy':=(h2 y (by simp)).trans hy
 refine Tri.eff rfl rfl (fun k hk=>dom_over hk) (fun ρ M a w hr=>?_)
 have hR:=reads_of hr rfl (sideOk_same h2 hs)
 have ex : a.eval x = ρ j:=opnd_rep hr hx'
 have ei:=rdV_eval hR (x:=i) (by simp) ((rdV_same (h2 i (by simp))).trans hi)
 obtain ⟨r,es,clock,f,e1,q1,q2,q3,q4,q5,q6⟩:=hr.heap.inv j _ hj'
 have hlen : (encM ek ev L).length = L.length:=by simp [encM]
 have hs' : es.size = L.length:=q3.trans hlen
 have he : ∀ (n : Nat) p,L[n]? = some p → ∃ e,es[n]? = some e ∧ e.key = ek p.1:=fun n p hp=>by
  obtain ⟨born,hb⟩:=q4 n _ _ (encM_get (a:=p.1) (v:=p.2) hp)
  exact ⟨_,hb,rfl⟩
 have hrl : r < w.heap.size:=(Array.getElem?_eq_some_iff.1 q1).1
 refine ⟨{ w with heap:=w.heap.setIfInBounds r (.map (esSet ek L k (a.eval y) clock es) (clSet L k clock)) },M,?_,Mem.le_refl _,fun ρ' h0=>?_⟩
 ·unfold execOp
  simp only
  rw [ex,e1,ei]
  have:=update_run (P:=P) (u:=a.eval y) ht hk q1 hs' he (k:=k)
  show (do Instr.mapUpdate t (.map (some r)) (ek k) (a.eval y);pure Next.skip : Sem Next).run P w = _
  rw [run_bind_ok this]
  rfl
 ·have ex' : a.eval x = ρ' j:=opnd_rep h0 hx'
  have hρ : ρ' j = .map (some r):=by rw [← ex',ex,e1]
  obtain ⟨r',es',clock',f',e1',q1',q2',q3',q4',q5',q6'⟩:=h0.heap.inv j _ hj'
  have er : r' = r:=by rw [hρ] at e1';cases e1';rfl
  subst er
  have ee : es' = es ∧ clock' = clock:=by have:=q1'.symm.trans q1;simpa using this
  obtain ⟨rfl,rfl⟩:=ee
  have ey : v.rep ρ' M (a.eval y):=opnd_rep h0 hy'
  obtain ⟨fu,hfu,hfr⟩:=mkVal_cells (row:=ev z) (agg:=agg) (M:=M) (v:=a.eval y) ⟨ρ',by rw [← hv];exact A1.norm_rep ey⟩ (fun h=>h1 h z)
  refine h0.heap.change j (fun b=>b = r') ?_ ⟨rfl,rfl,rfl,by simp⟩ (fun b _ hb=>?_) (Mem.le_refl _) (fun _ _ _=>⟨fun _=>rfl,rfl⟩) ?_ ?_ (fun b hb=>h0.heap.noJunk hj' (by rw [hb,hρ];rfl))
  ·rintro b rfl _
   exact h0.heap.priv j _ _ hj' (by rw [hρ];rfl)
  ·simp only [Array.getElem?_setIfInBounds]
   rw [if_neg (fun e=>hb e.symm)]
  ·rintro b (rfl | hb)
   ·refine ⟨fun o v' hv'=>?_,fun o ho=>(by rw [q2'] at ho;cases ho)⟩
    have:=h0.heap.mem.cell _ o v' hv'
    simp only [World.cell?,q1'] at this;cases this
   ·have:=h0.heap.mem.none (b:=b) (by simpa using hb)
    exact ⟨fun o v' hv'=>(by rw [this.1 o] at hv';cases hv'),fun o ho=>(by rw [this.2] at ho;cases ho)⟩
  ·intro k' ob hk'
   rw [over_one] at hk'
   split at hk'
   ·rename_i e
    subst e
    cases hk'
    refine .inr (.inr ⟨rfl,⟨r',esSet ek L k (a.eval y) clock' es',clSet L k clock',fun i=>if i = ixSet L k then fu else f' i,hρ,by simp [hrl],q2',?_,fun i a0 row hrow=>?_,fun i a0 row jj d hrow hd=>?_,born_set q6' hs'⟩,fun b hb=>.inl (by rw [hρ] at hb;cases hb;rfl)⟩)
    ·rw [esSet_size (v:=z) hs'];simp [encM]
    ·obtain ⟨p,hp,rfl,rfl⟩:=encM_inv hrow
     rcases esSet_get (ek:=ek) (u:=a.eval y) (clock:=clock') hs' hp with ⟨g1,g2,born,g3⟩ | ⟨g1,g2,g3⟩
     ·refine ⟨born,?_⟩
      show _ = some (MapEntry.mk _ (mkVal agg _ (if i = ixSet L k then fu else f' i)) _)
      rw [g3,if_pos g1,g2,hfu]
     ·obtain ⟨born,hb⟩:=q4' i _ _ (encM_get (a:=p.1) (v:=p.2) g2)
      refine ⟨born,?_⟩
      show _ = some (MapEntry.mk _ (mkVal agg _ (if i = ixSet L k then fu else f' i)) _)
      rw [g3,if_neg g1];exact hb
    ·obtain ⟨p,hp,rfl,rfl⟩:=encM_inv hrow
     rcases esSet_get (ek:=ek) (u:=a.eval y) (clock:=clock') hs' hp with ⟨g1,g2,born,g3⟩ | ⟨g1,g2,g3⟩
     ·show Rep M d ((if i = ixSet L k then fu else f' i) jj)
      rw [if_pos g1]
      rw [g2] at hd
      exact hfr jj d hd
     ·show Rep M d ((if i = ixSet L k then fu else f' i) jj)
      rw [if_neg g1]
      exact q5' i _ _ jj d (encM_get (a:=p.1) (v:=p.2) g2) hd
   ·rename_i e
    refine .inr (.inl ⟨hk',fun b hb hbe=>?_⟩)
    subst hbe
    exact e ((h0.heap.dist k' j _ _ _ hk' hj' hb (by rw [hρ];rfl)).symm)
theorem triMapIns {K V : Type} [BEq K] {ek : K → Value} {ev : V → List D} {L L' : List (K × V)} {agg : Bool} {t kt et : TypeId} {x i y : Operand} {j : Nat} {k : K} {z : V} {v : A1} (hx : opnd F x = some (.s (.c (.own j)))) (hj : F.bl j = some (.mp agg (encM ek ev L))) (hi : rdV F i = some (ek k)) (hy : opnd F y = some (.s v)) (hv : v.norm = rowA agg (ev z)) (ht : mapInfo P t = some (kt,et)) (hk : KeyOk P kt ek) (h1 : agg = false → ∀ x,(ev x).length = 1) (hL : msetL L k z = L') (hs : sideOk F true [x,i,y]) :
  TriL P C ops ⟨none,.insert t x i y,ty,pos,after,none⟩ ⟨slotsOf [x,i,y],[j],[],[j]⟩ [] [(j,.mp agg (encM ek ev L'))] F:=by
 subst hL
 refine ⟨⟨rfl,rfl⟩,fun F' hS=>?_⟩
 have h2:=opnd_same hS.1
 have hj' : F'.bl j = some (.mp agg (encM ek ev L)):=(hS.2 j (by simp)).trans hj
 have hx':=(h2 x (by simp)).trans hx
 have hy':=(h2 y (by simp)).trans hy
 refine Tri.eff rfl rfl (fun k hk=>dom_over hk) (fun ρ M a w hr=>?_)
 have hR:=reads_of hr rfl (sideOk_same h2 hs)
 have ex : a.eval x = ρ j:=opnd_rep hr hx'
 have ei:=rdV_eval hR (x:=i) (by simp) ((rdV_same (h2 i (by simp))).trans hi)
 obtain ⟨r,es,clock,f,e1,q1,q2,q3,q4,q5,q6⟩:=hr.heap.inv j _ hj'
 have hlen : (encM ek ev L).length = L.length:=by simp [encM]
 have hs' : es.size = L.length:=q3.trans hlen
 have he : ∀ (n : Nat) p,L[n]? = some p → ∃ e,es[n]? = some e ∧ e.key = ek p.1:=fun n p hp=>by
  obtain ⟨born,hb⟩:=q4 n _ _ (encM_get (a:=p.1) (v:=p.2) hp)
  exact ⟨_,hb,rfl⟩
 have hrl : r < w.heap.size:=(Array.getElem?_eq_some_iff.1 q1).1
 refine ⟨{ w with heap:=w.heap.setIfInBounds r (.map (esSet ek L k (a.eval y) clock es) (clSet L k clock)) },M,?_,Mem.le_refl _,fun ρ' h0=>?_⟩
 ·unfold execOp
  simp only
  rw [ex,e1,ei]
  have:=update_run (P:=P) (u:=a.eval y) ht hk q1 hs' he (k:=k)
  show (do Instr.mapUpdate t (.map (some r)) (ek k) (a.eval y);pure Next.skip : Sem Next).run P w = _
  rw [run_bind_ok this]
  rfl
 ·have ex' : a.eval x = ρ' j:=opnd_rep h0 hx'
  have hρ : ρ' j = .map (some r):=by rw [← ex',ex,e1]
  obtain ⟨r',es',clock',f',e1',q1',q2',q3',q4',q5',q6'⟩:=h0.heap.inv j _ hj'
  have er : r' = r:=by rw [hρ] at e1';cases e1';rfl
  subst er
  have ee : es' = es ∧ clock' = clock:=by have:=q1'.symm.trans q1;simpa using this
  obtain ⟨rfl,rfl⟩:=ee
  have ey : v.rep ρ' M (a.eval y):=opnd_rep h0 hy'
  obtain ⟨fu,hfu,hfr⟩:=mkVal_cells (row:=ev z) (agg:=agg) (M:=M) (v:=a.eval y) ⟨ρ',by rw [← hv];exact A1.norm_rep ey⟩ (fun h=>h1 h z)
  refine h0.heap.change j (fun b=>b = r') ?_ ⟨rfl,rfl,rfl,by simp⟩ (fun b _ hb=>?_) (Mem.le_refl _) (fun _ _ _=>⟨fun _=>rfl,rfl⟩) ?_ ?_ (fun b hb=>h0.heap.noJunk hj' (by rw [hb,hρ];rfl))
  ·rintro b rfl _
   exact h0.heap.priv j _ _ hj' (by rw [hρ];rfl)
  ·simp only [Array.getElem?_setIfInBounds]
   rw [if_neg (fun e=>hb e.symm)]
  ·rintro b (rfl | hb)
   ·refine ⟨fun o v' hv'=>?_,fun o ho=>(by rw [q2'] at ho;cases ho)⟩
    have:=h0.heap.mem.cell _ o v' hv'
    simp only [World.cell?,q1'] at this;cases this
   ·have:=h0.heap.mem.none (b:=b) (by simpa using hb)
    exact ⟨fun o v' hv'=>(by rw [this.1 o] at hv';cases hv'),fun o ho=>(by rw [this.2] at ho;cases ho)⟩
  ·intro k' ob hk'
   rw [over_one] at hk'
   split at hk'
   ·rename_i e
    subst e
    cases hk'
    refine .inr (.inr ⟨rfl,⟨r',esSet ek L k (a.eval y) clock' es',clSet L k clock',fun i=>if i = ixSet L k then fu else f' i,hρ,by simp [hrl],q2',?_,fun i a0 row hrow=>?_,fun i a0 row jj d hrow hd=>?_,born_set q6' hs'⟩,fun b hb=>.inl (by rw [hρ] at hb;cases hb;rfl)⟩)
    ·rw [esSet_size (v:=z) hs'];simp [encM]
    ·obtain ⟨p,hp,rfl,rfl⟩:=encM_inv hrow
     rcases esSet_get (ek:=ek) (u:=a.eval y) (clock:=clock') hs' hp with ⟨g1,g2,born,g3⟩ | ⟨g1,g2,g3⟩
     ·refine ⟨born,?_⟩
      show _ = some (MapEntry.mk _ (mkVal agg _ (if i = ixSet L k then fu else f' i)) _)
      rw [g3,if_pos g1,g2,hfu]
     ·obtain ⟨born,hb⟩:=q4' i _ _ (encM_get (a:=p.1) (v:=p.2) g2)
      refine ⟨born,?_⟩
      show _ = some (MapEntry.mk _ (mkVal agg _ (if i = ixSet L k then fu else f' i)) _)
      rw [g3,if_neg g1];exact hb
    ·obtain ⟨p,hp,rfl,rfl⟩:=encM_inv hrow
     rcases esSet_get (ek:=ek) (u:=a.eval y) (clock:=clock') hs' hp with ⟨g1,g2,born,g3⟩ | ⟨g1,g2,g3⟩
     ·show Rep M d ((if i = ixSet L k then fu else f' i) jj)
      rw [if_pos g1]
      rw [g2] at hd
      exact hfr jj d hd
     ·show Rep M d ((if i = ixSet L k then fu else f' i) jj)
      rw [if_neg g1]
      exact q5' i _ _ jj d (encM_get (a:=p.1) (v:=p.2) g2) hd
   ·rename_i e
    refine .inr (.inl ⟨hk',fun b hb hbe=>?_⟩)
    subst hbe
    exact e ((h0.heap.dist k' j _ _ _ hk' hj' hb (by rw [hρ];rfl)).symm)
def Cell.fz (j : Nat) (d : D) : Cell → Cell
 | .own i=>match Nat.beq i j with
  | true=>.d d
  | false=>.own i
 | x=>x
theorem Cell.fz_rep {j : Nat} {d : D} {ρ : Env} {M : Mem} (h : Rep M d (ρ j)) {c : Cell} {v : Value} (hc : c.rep ρ M v) : (c.fz j d).rep ρ M v:=by
 cases c with
 | own i =>
  show Cell.rep ρ M (match Nat.beq i j with | true=>.d d | false=>.own i) v
  cases e : Nat.beq i j with
  | true =>
   have:=Nat.eq_of_beq_eq_true e
   subst this
   have hc : v = ρ i:=hc
   subst hc;exact h
  | false=>exact hc
 | _=>exact hc
theorem Reps.fz {j : Nat} {d : D} {ρ : Env} {M : Mem} (h : Rep M d (ρ j)) : ∀ {cs : List Cell} {vs : List Value},Reps ρ M cs vs → Reps ρ M (cs.map (Cell.fz j d)) vs
 | [],[],_=>trivial
 | _ :: _,_ :: _,hr=>⟨Cell.fz_rep h hr.1,Reps.fz h hr.2⟩
 | [],_ :: _,hr=>hr.elim
 | _ :: _,[],hr=>hr.elim
theorem RelW.review {bl bl' : Nat → Option Ob} {ρ : Env} {M : Mem} {w : World} (h : RelW C bl ρ M w)
  (hb : ∀ k ob',bl' k = some ob' → bl k = some ob' ∨ ∃ cs cs' ty,bl k = some (.blk cs ty) ∧ ob' = .blk cs' ty ∧ ∀ vs,Reps ρ M cs vs → Reps ρ M cs' vs) : RelW C bl' ρ M w:=by
 have key : ∀ k ob',bl' k = some ob' → ∃ ob,bl k = some ob ∧ ∀ v,ob.blkOf v = ob'.blkOf v:=by
  intro k ob' hk
  rcases hb k ob' hk with h1 | ⟨cs,cs',ty,h1,rfl,_⟩
  ·exact ⟨ob',h1,fun _=>rfl⟩
  ·exact ⟨_,h1,fun _=>rfl⟩
 refine ⟨fun j ob hj=>?_,fun i j x y b hi hj hx hy=>?_,fun j ob b hj ho=>?_,h.mem,h.base,h.fresh,h.kept,h.names,fun b s hj=>⟨(h.junkP b s hj).1,fun j ob hk ho=>?_⟩⟩
 ·rcases hb j ob hj with h1 | ⟨cs,cs',ty,h1,rfl,h2⟩
  ·exact h.inv j ob h1
  ·obtain ⟨⟨arr,g1,g2⟩,g3⟩:=h.inv j _ h1
   exact ⟨⟨arr,g1,h2 _ g2⟩,g3⟩
 ·obtain ⟨x',h1,h2⟩:=key i x hi
  obtain ⟨y',h3,h4⟩:=key j y hj
  exact h.dist i j x' y' b h1 h3 ((h2 _).trans hx) ((h4 _).trans hy)
 ·obtain ⟨x',h1,h2⟩:=key j ob hj
  exact h.priv j x' b h1 ((h2 _).trans ho)
 ·obtain ⟨x',h1,h2⟩:=key j ob hk
  exact (h.junkP b s hj).2 j x' h1 ((h2 _).trans ho)
def Mem.putO (M : Mem) (r : Nat) (o : Obj) : Mem:=⟨M.cell,fun b=>if b = r then some o else M.obj b,M.junk⟩
def allBlk (bl : List (Nat × Ob)) (j : Nat) (d : D) : List (Nat × Ob) → Prop
 | []=>True
 | (k,ob) :: r=>(∃ cs ty,look bl k = some (.blk cs ty) ∧ ob = .blk (cs.map (Cell.fz j d)) ty) ∧ allBlk bl j d r
theorem allBlk_spec {bl : List (Nat × Ob)} {j : Nat} {d : D} : ∀ {l : List (Nat × Ob)},allBlk bl j d l → ∀ k ob,look l k = some ob → ∃ cs ty,look bl k = some (.blk cs ty) ∧ ob = .blk (cs.map (Cell.fz j d)) ty
 | [],_,k,ob,h=>by cases h
 | (i,o) :: r,h,k,ob,hl=>by
  rw [look_cons] at hl
  split at hl
  ·rename_i e;subst e;cases hl;exact h.1
  ·exact allBlk_spec h.2 k ob hl
def A1.fz (j : Nat) (d : D) : A1 → A1
 | .c x=>.c (x.fz j d)
 | .agg cs=>.agg (cs.map (Cell.fz j d))
def AV.fz (j : Nat) (d : D) : AV → AV
 | .s x=>.s (x.fz j d)
 | .gd g x=>.gd g (x.fz j d)
 | .tup xs=>.tup (xs.map (A1.fz j d))
theorem A1.fz_rep {j : Nat} {d : D} {ρ : Env} {M : Mem} (h : Rep M d (ρ j)) {x : A1} {v : Value} (hx : x.rep ρ M v) : (x.fz j d).rep ρ M v:=by
 cases x with
 | c y=>exact Cell.fz_rep h hx
 | agg cs=>obtain ⟨arr,rfl,h2⟩:=hx;exact ⟨arr,rfl,h2.fz h⟩
theorem A1.reps_fz {j : Nat} {d : D} {ρ : Env} {M : Mem} (h : Rep M d (ρ j)) : ∀ {xs : List A1} {vs : List Value},A1.reps ρ M xs vs → A1.reps ρ M (xs.map (A1.fz j d)) vs
 | [],[],_=>trivial
 | _ :: _,_ :: _,hr=>⟨A1.fz_rep h hr.1,A1.reps_fz h hr.2⟩
 | [],_ :: _,hr=>hr.elim
 | _ :: _,[],hr=>hr.elim
theorem AV.fz_rep {j : Nat} {d : D} {ρ : Env} {M : Mem} (h : Rep M d (ρ j)) {x : AV} {v : Value} (hx : x.rep ρ M v) : (x.fz j d).rep ρ M v:=by
 cases x with
 | s y=>exact A1.fz_rep h hx
 | gd g y=>cases g with
  | true=>exact A1.fz_rep (x:=y) h hx
  | false=>exact hx
 | tup xs=>obtain ⟨arr,rfl,h2⟩:=hx;exact ⟨arr,rfl,A1.reps_fz h h2⟩
def allFz (sl : List (Nat × AV)) (j : Nat) (d : D) : List (Nat × AV) → Prop
 | []=>True
 | (k,v) :: r=>(∃ u,look sl k = some u ∧ v = u.fz j d) ∧ allFz sl j d r
theorem allFz_spec {sl : List (Nat × AV)} {j : Nat} {d : D} : ∀ {l : List (Nat × AV)},allFz sl j d l → ∀ k v,look l k = some v → ∃ u,look sl k = some u ∧ v = u.fz j d
 | [],_,k,v,h=>by cases h
 | (i,o) :: r,h,k,v,hl=>by
  rw [look_cons] at hl
  split at hl
  ·rename_i e;subst e;cases hl;exact h.1
  ·exact allFz_spec h.2 k v hl
theorem look_app {α : Type} (a b : List (Nat × α)) (k : Nat) : look (a ++ b) k = match look a k with | some o=>some o | none=>look b k:=by
 induction a with
 | nil=>rfl
 | cons p r ih =>
  obtain ⟨i,o⟩:=p
  rw [List.cons_append,look_cons,look_cons]
  split
  ·rfl
  ·exact ih
theorem Conv.fz {ob : Ob} {d : D} {sl : List (Nat × AV)} {bl : List (Nat × Ob)} {nx : Nat} (so : List (Nat × AV)) (bo : List (Nat × Ob)) (j nx' : Nat) (hso : allFz sl j d so) (hj : look bl j = some ob) (hnb : ∀ cs ty,ob ≠ .blk cs ty) (hbo : allBlk bl j d bo)
  (key : ∀ ρ M w,RelW C (look bl) ρ M w → ∃ M',M.le M' ∧ Rep M' d (ρ j) ∧ ∀ ρ',ρ' j = ρ j → RelW C (look bl) ρ' M w → RelW C (look ((j,.dead) :: bl)) ρ' M' w) :
  Conv C ⟨sl,bl,nx⟩ ⟨so ++ sl,bo ++ ((j,.dead) :: bl),nx'⟩:=by
 intro ρ M a w hr
 obtain ⟨M',hle,hrep,hk⟩:=key ρ M w hr.at.heap
 refine ⟨ρ,M',fun ρ' ha=>?_⟩
 have hdom : ∀ i,look bl i ≠ none → look (bo ++ ((j,.dead) :: bl)) i ≠ none:=fun i hi=>by
  rw [look_app]
  cases look bo i with
  | some o=>simp
  | none =>
   simp only
   rw [look_cons];split
   ·simp
   ·exact hi
 have hag : Agree (look bl) ρ ρ':=fun i hi=>ha i (hdom i hi)
 have h0:=hr ρ' hag
 have hρj : ρ' j = ρ j:=hag j (by rw [hj];simp)
 have hrel:=hk ρ' hρj h0.heap
 have hrel2 : RelW C (look (bo ++ ((j,.dead) :: bl))) ρ' M' w:=by
  refine hrel.review (fun k ob' hk=>?_)
  rw [look_app] at hk
  cases hb : look bo k with
  | none=>rw [hb] at hk;exact .inl hk
  | some o =>
   rw [hb] at hk
   cases hk
   obtain ⟨cs,ty,h1,rfl⟩:=allBlk_spec hbo k _ hb
   have hne : j ≠ k:=fun e=>by subst e;rw [hj] at h1;exact hnb _ _ (Option.some.inj h1)
   refine .inr ⟨cs,_,ty,by rw [look_cons,if_neg hne];exact h1,rfl,fun vs hvs=>Reps.fz (by rw [hρj];exact hrep) hvs⟩
 refine ⟨h0.defers.mono hle,h0.size,fun t u hu=>?_,hrel2⟩
 have hu' : look (so ++ sl) t = some u:=hu
 rw [look_app] at hu'
 cases hs : look so t with
 | none=>rw [hs] at hu';exact (h0.slots t u hu').mono hle
 | some v =>
  rw [hs] at hu'
  cases hu'
  obtain ⟨u0,h1,rfl⟩:=allFz_spec hso t _ hs
  exact AV.fz_rep (by rw [hρj];exact hrep) ((h0.slots t u0 h1).mono hle)
theorem Conv.freezeM {agg : Bool} {l : List (Value × List D)} {sl : List (Nat × AV)} {bl : List (Nat × Ob)} {nx : Nat} (so : List (Nat × AV)) (bo : List (Nat × Ob)) (j nx' : Nat) (hj : look bl j = some (.mp agg l)) (hso : allFz sl j (.mp agg l) so) (hbo : allBlk bl j (.mp agg l) bo) :
  Conv C ⟨sl,bl,nx⟩ ⟨so ++ sl,bo ++ ((j,.dead) :: bl),nx'⟩:=by
 refine Conv.fz so bo j nx' hso hj (fun _ _ e=>by cases e) hbo (fun ρ M w hr=>?_)
 obtain ⟨r,es,clock,f,e1,q1,q2,q3,q4,q5,_⟩:=hr.inv j _ hj
 have hle : M.le (M.putO r (.map es clock)):=⟨fun _ _ _ h=>h,fun b o h=>by
  simp only [Mem.putO]
  by_cases e : b = r
  ·subst e;rw [q2] at h;cases h
  ·rw [if_neg e];exact h,fun _ _ h=>h⟩
 refine ⟨M.putO r (.map es clock),hle,?_,fun ρ' hρ h0=>?_⟩
 ·rw [e1]
  exact .mp (f:=f) (clock:=clock) (by simp [Mem.putO]) q3 q4 (fun i k row jj d h1 h2=>(q5 i k row jj d h1 h2).mono hle)
 ·have hρj : ρ' j = .map (some r):=by rw [hρ,e1]
  refine h0.change j (fun b=>b = r) ?_ ⟨rfl,rfl,rfl,Nat.le_refl _⟩ (fun _ _ _=>rfl) hle (fun b _ hb=>⟨fun _=>rfl,by simp only [Mem.putO];rw [if_neg hb]⟩) ?_ ?_ (fun b hb=>h0.noJunk hj (by rw [hb,hρj];rfl))
  ·rintro b rfl _
   exact h0.priv j _ _ hj (by rw [hρj];rfl)
  ·rintro b hb
   refine ⟨fun o v hv=>h0.mem.cell b o v hv,fun o ho=>?_⟩
   simp only [Mem.putO] at ho
   by_cases e : b = r
   ·rw [if_pos e] at ho;cases ho;subst e;exact ⟨q1,rfl⟩
   ·rw [if_neg e] at ho;exact h0.mem.obj b o ho
  ·intro k ob hk
   rw [look_cons] at hk
   split at hk
   ·cases hk;exact .inl rfl
   ·rename_i e
    refine .inr (.inl ⟨hk,fun b hb hbe=>?_⟩)
    subst hbe
    exact e ((h0.dist k j _ _ _ hk hj hb (by rw [hρj];rfl)).symm)
theorem Conv.freezeV {α : Type} {enc : α → List D} {L : List α} {sz : Nat} {sl : List (Nat × AV)} {bl : List (Nat × Ob)} {nx : Nat} (so : List (Nat × AV)) (bo : List (Nat × Ob)) (j nx' : Nat) (hj : look bl j = some (.vec sz (L.map enc))) (hsz : allR sz enc) (hso : allFz sl j (.sl (L.map enc)) so) (hbo : allBlk bl j (.sl (L.map enc)) bo) :
  Conv C ⟨sl,bl,nx⟩ ⟨so ++ sl,bo ++ ((j,.dead) :: bl),nx'⟩:=by
 refine Conv.fz so bo j nx' hso hj (fun _ _ e=>by cases e) hbo (fun ρ M w hr=>?_)
 obtain ⟨ad,cap,e1,hc,hx⟩:=vec_flat (hr.inv j _ hj)
 by_cases hcap : 0 < cap
 ·obtain ⟨b,off,arr,ty',vs,rfl,g1,g2,g3,g4,g5⟩:=hx hcap
  have hle : M.le (M.put b off vs):=Mem.put_le (fun o _=>g3 o)
  refine ⟨M.put b off vs,hle,?_,fun ρ' hρ h0=>?_⟩
  ·rw [e1]
   have:=Rep.ofFlat (M:=M.put b off vs) (l:=L.map enc) (b:=b) (off:=off) (cap:=cap) (sz:=sz) (vs:=vs) (by rw [List.length_map];exact hc) (rows_map hsz L) (g4.mono hle) (fun k u hk=>Mem.put_at hk)
   rwa [List.length_map] at this
  ·have hρj : ρ' j = .slice (some ⟨b,off,none⟩) L.length cap:=by rw [hρ,e1]
   have hown : (Ob.vec sz (L.map enc)).blkOf (ρ' j) = some b:=by rw [hρj];simp [Ob.blkOf,hcap]
   refine h0.change j (fun x=>x = b) ?_ ⟨rfl,rfl,rfl,Nat.le_refl _⟩ (fun _ _ _=>rfl) hle (fun x _ hx=>⟨fun o=>Mem.put_far hx,rfl⟩) ?_ ?_ (fun x hx=>by rw [hx];exact h0.noJunk hj hown)
   ·rintro x rfl _
    exact h0.priv j _ _ hj hown
   ·rintro x hx
    refine ⟨fun o v hv=>?_,fun o ho=>h0.mem.obj x o ho⟩
    by_cases hxb : x = b
    ·subst hxb
     rcases Mem.put_inv hv with ⟨h2,h3⟩ | h3
     ·have:=g5 _ _ h3
      simp only [World.cell?,g1]
      rw [show off + (o - off) = o by omega] at this
      simpa using this
     ·rw [g3 o] at h3;cases h3
    ·rw [Mem.put_far hxb] at hv;exact h0.mem.cell x o v hv
   ·intro k ob hk
    rw [look_cons] at hk
    split at hk
    ·cases hk;exact .inl rfl
    ·rename_i e2
     refine .inr (.inl ⟨hk,fun x hxb hS'=>?_⟩)
     subst hS'
     exact e2 ((h0.dist k j _ _ _ hk hj hxb hown).symm)
 ·have hL : L = []:=List.eq_nil_of_length_eq_zero (by omega)
  subst hL
  have hcap0 : cap = 0:=by omega
  subst hcap0
  refine ⟨M,Mem.le_refl _,by rw [e1];exact Rep.nil,fun ρ' hρ h0=>?_⟩
  have hρj : ρ' j = .slice ad ([] : List α).length 0:=by rw [hρ,e1]
  refine h0.change j (fun _=>False) (fun _ h=>h.elim) ⟨rfl,rfl,rfl,Nat.le_refl _⟩ (fun _ _ _=>rfl) (Mem.le_refl _) (fun _ _ _=>⟨fun _=>rfl,rfl⟩) (fun b _=>⟨fun o v hv=>h0.mem.cell b o v hv,fun o ho=>h0.mem.obj b o ho⟩) (fun k ob hk=>?_)
  rw [look_cons] at hk
  split at hk
  ·cases hk;exact .inl rfl
  ·exact .inr (.inl ⟨hk,fun _ _ h=>h⟩)
theorem Conv.nilM {sl : List (Nat × AV)} {bl : List (Nat × Ob)} {nx : Nat} (s : Nat) (agg : Bool) (hv : look sl s = some (.s (.c (.d (.v (.map none)))))) : Conv C ⟨sl,bl,nx⟩ ⟨(s,.s (.c (.d (.mp agg [])))) :: sl,bl,nx⟩:=by
 intro ρ M a w hr
 refine ⟨ρ,M,fun ρ' ha=>?_⟩
 have h0:=hr ρ' ha
 refine ⟨h0.defers,h0.size,fun t u hu=>?_,h0.heap⟩
 have hu' : look ((s,AV.s (.c (.d (.mp agg [])))) :: sl) t = some u:=hu
 rw [look_cons] at hu'
 split at hu'
 ·rename_i e;subst e;cases hu'
  have:=Rep.v_inv (h0.slots s _ hv)
  show Rep _ _ _
  rw [this];exact Rep.mp0
 ·exact h0.slots t u hu'
end Go.E2
end
section
namespace Go.E2
variable {P : Program} {C : Ctx} {F : FS} {ops : Array Oper} {dst : Nat} {op : Op} {ty : TypeId} {pos : String} {after : Array Edge}
def capA (caps : List (Nat × Nat)) : List A1:=caps.map fun p=>.c (.loc p.1 p.2)
theorem capA_reps {ρ : Env} {M : Mem} : ∀ {caps : List (Nat × Nat)} {vs : List Value},A1.reps ρ M (capA caps) vs → vs = caps.map fun p=>ptr ρ p.1 p.2
 | [],[],_=>rfl
 | [],_ :: _,h=>h.elim
 | _ :: _,[],h=>h.elim
 | p :: r,v :: vs,h=>by
  have h1 : v = ptr ρ p.1 p.2:=h.1
  rw [h1,capA_reps (caps:=r) h.2];rfl
theorem capA_rep {ρ : Env} {M : Mem} : ∀ (caps : List (Nat × Nat)),A1.reps ρ M (capA caps) (caps.map fun p=>ptr ρ p.1 p.2)
 | []=>trivial
 | _ :: r=>⟨rfl,capA_rep r⟩
theorem A1.reps_app {ρ : Env} {M : Mem} : ∀ {xs ys : List A1} {vs us : List Value},A1.reps ρ M xs vs → A1.reps ρ M ys us → A1.reps ρ M (xs ++ ys) (vs ++ us)
 | [],_,[],_,_,h=>h
 | [],_,_ :: _,_,h,_=>h.elim
 | _ :: _,_,[],_,h,_=>h.elim
 | _ :: _,_,_ :: _,_,h,h'=>⟨h.1,A1.reps_app h.2 h'⟩
theorem triMkF {f : FuncId} (caps : List (Nat × Nat)) {args : Array Operand} (hx : rds F args.toList = some (capA caps)) (hs : sideOk F true args.toList) (hd : Nat.blt dst C.n = true) :
  TriL P C ops ⟨some dst,.makeFunc (.func f) #[] args,ty,pos,after,none⟩ ⟨slotsOf args.toList,[],[dst],[]⟩ [(dst,.s (.c (.fn f caps)))] [] F:=by
 refine ⟨⟨rfl,rfl⟩,fun F' hS=>?_⟩
 have h1:=opnd_same hS.1
 refine Tri.quiet (x:=.c (.fn f caps)) rfl rfl hd (fun ρ M a w hr=>?_)
 have hR:=reads_of hr rfl (sideOk_same h1 hs)
 have h2:=capA_reps (rds_rep hR ((rds_same h1).trans hx))
 refine ⟨.func (.func f) #[] (caps.map fun (p : Nat × Nat)=>ptr ρ p.1 p.2).toArray,?_,(rfl : _ = _)⟩
 have e : args.map a.eval = (caps.map fun p=>ptr ρ p.1 p.2).toArray:=by
  apply Array.ext';simpa using h2
 unfold execOp
 simp only [e,Instr.makeFunc,List.map_toArray,List.map_nil]
 exact bind_value rfl
theorem callF_run {a : Act} {w : World} {f : FuncId} {t : Nat} {args : Array Operand} {argTypes : Array TypeId} {cvs vs : List Value} {fn : Func} {dst : Option Tmp} {ty : TypeId} {pos : String} {after : Array Edge} {gu : Option (Nat × Bool)}
  (et : a.eval (.tmp t) = .func (.func f) #[] cvs.toArray) (e0 : args.toList.map a.eval ++ cvs = vs) (hf : P.funcs[f]? = some fn) (hn : (fn.name == "runtime.NumGoroutine") = false) (hb : fn.body.isNone = false) :
  (execOp a.eval ⟨dst,.call ⟨.value (.tmp t),args,argTypes⟩,ty,pos,after,gu⟩).run P w = .ok (.enter f vs.toArray) w:=by
 unfold execOp
 have e1 : args.map a.eval ++ cvs.toArray = vs.toArray:=by
  rw [← e0];apply Array.ext';simp
 simp only [resolve,et,Deferred.ofValue,pure_bind,invoke,callFunc,Array.empty_append,e1]
 show (Sem.program _).run P w = _
 simp only [Sem.run,Sem.bind,hf]
 rw [if_neg (by rw [hn];simp),if_neg (by rw [hb];simp)]
 rfl
theorem triCallF [HasTab P C] {f : FuncId} {t : Nat} {args : Array Operand} {argTypes : Array TypeId} {ys as0 : List A1} {bl bl' : List (Nat × Ob)} {res : AV} {caps : List (Nat × Nat)} (σ : Nat → Nat) (res' : AV) (Wb : List (Nat × Ob)) (hft : rd F (.tmp t) = some (.c (.fn f caps))) (hc : Con P f as0 bl res bl') (hy : rds F args.toList = some ys) (hfit : Fits (ys ++ capA caps) (as0.map (A1.ren σ))) (hs : sideOk F true (.tmp t :: args.toList)) (hf : Entry P f)
  (hl : lentOk F σ bl) (hdom : domB bl' bl = true) (hap : apart σ bl' = true) (hsc : blIn bl bl = true) (hsa : a1sIn bl as0 = true) (hnew : allNone F (newNames σ bl bl')) (hn : Nat.blt dst C.n = true) (hres : res.ren σ = res') (hWb : renBl σ bl' = Wb) :
  TriL P C ops ⟨some dst,.call ⟨.value (.tmp t),args,argTypes⟩,ty,pos,after,none⟩ ⟨slotsOf (.tmp t :: args.toList),Wb.map (·.1),[dst],Wb.map (·.1)⟩ [(dst,res')] Wb F:=by
 subst hres hWb
 refine ⟨⟨rfl,rfl⟩,fun F' hS=>?_⟩
 have h1:=opnd_same hS.1
 obtain ⟨fn,hf1,hf2,hf3⟩:=hf
 have hb' : ∀ i,look bl' i ≠ none → F'.bl (σ i) = F.bl (σ i):=fun i hi=>by
  obtain ⟨o2,ho2⟩:=Option.ne_none_iff_exists'.1 hi
  have:=renBl_look hap i o2 ho2
  exact hS.2 _ (mem_of_look (by rw [this];simp))
 have hl' : lentOk F' σ bl:=by
  have : ∀ (l : List (Nat × Ob)),(∀ p ∈ l,look bl' p.1 ≠ none) → lentOk F σ l → lentOk F' σ l:=by
   intro l
   induction l with
   | nil=>intro _ _;trivial
   | cons p r ih =>
    obtain ⟨i,o⟩:=p
    intro hm h
    exact ⟨(hb' i (hm (i,o) (by simp))).trans h.1,ih (fun q hq=>hm q (by simp [hq])) h.2⟩
  exact this bl (fun p hp=>domB_spec hdom p.1 (look_of_mem (List.mem_map_of_mem hp))) hl
 have hnew' : allNone F' (newNames σ bl bl'):=by
  have : ∀ (l : List Nat),(∀ k ∈ l,F'.bl k = none) → allNone F' l:=by
   intro l
   induction l with
   | nil=>intro _;trivial
   | cons k r ih=>intro h;exact ⟨h k (by simp),ih (fun j hj=>h j (by simp [hj]))⟩
  refine this _ (fun k hk=>?_)
  obtain ⟨i,h2,h3,rfl⟩:=newNames_mem.1 hk
  rw [hb' i h2];exact allNone_spec hnew _ hk
 have hft' : rd F' (.tmp t) = some (.c (.fn f caps)):=(rd_same (h1 (.tmp t) (by simp))).trans hft
 refine Tri.call rfl rfl hn hc hl' hdom hap hsc hnew' hsa (fun ρ M a w hr=>?_)
 have hR:=reads_of hr rfl (sideOk_same h1 hs)
 have et : a.eval (.tmp t) = .func (.func f) #[] (caps.map fun p=>ptr ρ p.1 p.2).toArray:=hR (.tmp t) (by simp) _ hft'
 have hR' : Reads F' a ρ M args.toList:=fun x hx y hy=>hR x (by simp [hx]) y hy
 refine ⟨args.toList.map a.eval ++ caps.map fun p=>ptr ρ p.1 p.2,callF_run et rfl hf1 hf2 hf3,?_⟩
 refine Fits.reps hfit (A1.reps_app (rds_rep hR' ((rds_same (fun x hx=>h1 x (by simp [hx]))).trans hy)) (capA_rep caps))
theorem Conv.nilAg {sl : List (Nat × AV)} {bl : List (Nat × Ob)} {nx : Nat} (s i j : Nat) (ob : Ob) (c : Cell) (cs cs' : List Cell) (nx' : Nat) (hv : look sl s = some (.s (.agg cs))) (hi : cs[i]? = some (.d (.v (.slice none 0 0)))) (hcs : cs.set i c = cs') (hj : look bl j = none)
  (hob : ∀ ρ M w,ρ j = .slice none 0 0 → Inv1 ρ M w ob (ρ j) ∧ ∀ b,ob.blkOf (ρ j) ≠ some b) (hc : ∀ ρ M,ρ j = .slice none 0 0 → c.rep ρ M (.slice none 0 0)) : Conv C ⟨sl,bl,nx⟩ ⟨(s,.s (.agg cs')) :: sl,(j,ob) :: bl,nx'⟩:=by
 subst hcs
 intro ρ M a w hr
 refine ⟨fun i=>if i = j then .slice none 0 0 else ρ i,M,fun ρ' ha=>?_⟩
 have hag : Agree (look bl) ρ ρ':=fun i hi=>by
  have hne : i ≠ j:=fun e=>hi (e ▸ hj)
  have:=ha i (by show look ((j,ob) :: bl) i ≠ none;rw [look_cons,if_neg (Ne.symm hne)];exact hi)
  rw [this];exact if_neg hne
 have hnj : ρ' j = .slice none 0 0:=by
  have:=ha j (by show look ((j,ob) :: bl) j ≠ none;rw [look_cons,if_pos rfl];simp)
  rw [this];exact if_pos rfl
 have h0:=hr ρ' hag
 refine ⟨h0.defers,h0.size,fun t u hu=>?_,?_⟩
 ·have hu' : look ((s,AV.s (.agg (cs.set i c))) :: sl) t = some u:=hu
  rw [look_cons] at hu'
  split at hu'
  ·rename_i e
   subst e
   cases hu'
   obtain ⟨arr,e1,h2⟩:=h0.slots s _ hv
   obtain ⟨v,hv1,hv2⟩:=h2.get i _ hi
   have:=Rep.v_inv hv2
   subst this
   refine ⟨arr,e1,?_⟩
   have h3:=h2.set (hc ρ' M hnj) i
   have e3 : arr.toList.set i (.slice none 0 0) = arr.toList:=by
    apply List.ext_getElem?
    intro k
    by_cases hk : i = k
    ·subst hk;rw [List.getElem?_set_self (List.getElem?_eq_some_iff.1 hv1).1,hv1]
    ·rw [List.getElem?_set_ne hk]
   rwa [e3] at h3
  ·exact h0.slots t u hu'
 ·refine h0.heap.change j (fun _=>False) (fun _ h=>h.elim) ⟨rfl,rfl,rfl,Nat.le_refl _⟩ (fun _ _ _=>rfl) (Mem.le_refl _) (fun _ _ _=>⟨fun _=>rfl,rfl⟩) (fun b _=>⟨fun o v hv=>h0.heap.mem.cell b o v hv,fun o ho=>h0.heap.mem.obj b o ho⟩) (fun k ob' hk=>?_)
  have hk' : look ((j,ob) :: bl) k = some ob':=hk
  rw [look_cons] at hk'
  split at hk'
  ·rename_i e
   subst e
   cases hk'
   obtain ⟨q1,q2⟩:=hob ρ' M w hnj
   exact .inr (.inr ⟨rfl,q1,fun b hb=>absurd hb (q2 b)⟩)
  ·exact .inr (.inl ⟨hk',fun _ _ h=>h⟩)
theorem nil_vec {α : Type} (enc : α → List D) (sz j : Nat) : ∀ (ρ : Env) (M : Mem) (w : World),ρ j = .slice none 0 0 → Inv1 ρ M w (.vec sz (([] : List α).map enc)) (ρ j) ∧ ∀ b,(Ob.vec sz (([] : List α).map enc)).blkOf (ρ j) ≠ some b:=fun ρ M w h=>by
 rw [h];exact ⟨⟨none,0,rfl,Nat.le_refl _,fun i row h=>by simp at h,fun h=>absurd h (Nat.lt_irrefl _)⟩,fun b hb=>by cases hb⟩
def encAcc (x : Int × Int) : List D:=[.v (.int .u8 x.1),.v (.int .u8 x.2)]
theorem idxT_run {α : Type} {enc : α → List D} {L : List α} {M : Mem} {w : World} {g t n sz : Nat} {k : IntKind} {i : Int} {x : α} (hi : idxO L i = some x) (hL : L.length = n) (ht : arrInfo P t = some (n,sz)) (hM : ∀ (k : Nat) x,L[k]? = some x → ∀ (j : Nat) d,(enc x)[j]? = some d → ∃ u,M.cell g (k * sz + j) = some u ∧ Rep M d u) :
  ∃ u,(Instr.indexAt t (.pointer (some ⟨g,0,none⟩)) (.int k i)).run P w = .ok u w ∧ PtRep M (enc x) u:=by
 obtain ⟨h0,h1,h2⟩:=idxO_spec hi
 have:=arrInfo_run (b:=g) (off:=0) (k:=k) ht h0 (by omega) w
 refine ⟨_,this,⟨g,0 + i.toNat * sz,rfl,fun j d hd=>?_⟩⟩
 obtain ⟨u,q1,q2⟩:=hM _ _ h2 j d hd
 exact ⟨u,by rw [Nat.zero_add];exact q1,q2⟩
theorem triTab {α : Type} {enc : α → List D} {L : List α} {t n sz g : Nat} {i : Operand} {k : IntKind} {z : Int} {y : α} {row : List D} (hi : idxO L z = some y) (hL : L.length = n) (hrow : enc y = row) (ht : arrInfo P t = some (n,sz)) (hM : ∀ M,C.M0.le M → ∀ (k : Nat) x,L[k]? = some x → ∀ (j : Nat) d,(enc x)[j]? = some d → ∃ u,M.cell g (k * sz + j) = some u ∧ Rep M d u) (hz : rdV F i = some (.int k z)) (hs : sideOk F true [i]) (hd : Nat.blt dst C.n = true) :
  TriL P C ops ⟨some dst,.indexAddr t (.global g) i,ty,pos,after,none⟩ ⟨slotsOf [i],[],[dst],[]⟩ [(dst,.s (.c (.pt row)))] [] F:=by
 subst hrow
 refine ⟨⟨rfl,rfl⟩,fun F' hS=>?_⟩
 have h1:=opnd_same hS.1
 refine Tri.quiet (x:=.c (.pt (enc y))) rfl rfl hd (fun ρ M a w hr=>?_)
 have hR:=reads_of hr rfl (sideOk_same h1 hs)
 obtain ⟨u,g1,g2⟩:=idxT_run (P:=P) (w:=w) (k:=k) hi hL ht (hM M hr.heap.base)
 refine ⟨u,?_,g2⟩
 unfold execOp
 simp only
 rw [rdV_eval hR (by simp) ((rdV_same (h1 i (by simp))).trans hz)]
 exact bind_value g1
theorem triFirst [hT : HasTab P C] {t g : Nat} {i : Operand} {k : IntKind} {z y : Int} (hi : idxO utf8First z = some y) (hg : P.globalNamed "unicode/utf8.first" = some g) (ht : arrInfo P t = some (256, 1)) (hz : rdV F i = some (.int k z)) (hs : sideOk F true [i]) (hd : Nat.blt dst C.n = true) :
  TriL P C ops ⟨some dst,.indexAddr t (.global g) i,ty,pos,after,none⟩ ⟨slotsOf [i],[],[dst],[]⟩ [(dst,.s (.c (.pt [.v (.int .u8 y)])))] [] F :=
 triTab (enc:=eInt .u8) (L:=utf8First) hi (by decide +kernel) rfl ht (fun M hle k x hx j d hd=>by
  cases j with
  | zero =>
   have:=hle.cell _ _ _ (hT.tab.1 g hg k x hx)
   simp [eInt] at hd;subst hd
   exact ⟨_,by rw [Nat.mul_one,Nat.add_zero];exact this,Rep.v _⟩
  | succ j=>simp [eInt] at hd) hz hs hd
theorem triAccept [hT : HasTab P C] {t g : Nat} {i : Operand} {k : IntKind} {z : Int} {y : Int × Int} (hi : idxO utf8Accept z = some y) (hg : P.globalNamed "unicode/utf8.acceptRanges" = some g) (ht : arrInfo P t = some (16, 2)) (hz : rdV F i = some (.int k z)) (hs : sideOk F true [i]) (hd : Nat.blt dst C.n = true) :
  TriL P C ops ⟨some dst,.indexAddr t (.global g) i,ty,pos,after,none⟩ ⟨slotsOf [i],[],[dst],[]⟩ [(dst,.s (.c (.pt [.v (.int .u8 y.1),.v (.int .u8 y.2)])))] [] F :=
 triTab (enc:=encAcc) (L:=utf8Accept) hi (by decide) rfl ht (fun M hle k x hx j d hd=>by
  have:=hT.tab.2.1 g hg k x hx
  match j with
  | 0=>simp [encAcc] at hd;subst hd;exact ⟨_,hle.cell _ _ _ this.1,Rep.v _⟩
  | 1=>simp [encAcc] at hd;subst hd;exact ⟨_,hle.cell _ _ _ this.2,Rep.v _⟩
  | j + 2=>simp [encAcc] at hd) hz hs hd
def encSty (x : Bool × Int × Int × Int) : List D:=[.v (.bool x.1),.v (.int .i64 x.2.1),.v (.int .i64 x.2.2.1),.v (.int .i64 x.2.2.2)]
theorem sty_cells [hT : HasTab P C] {g : Nat} (hg : P.globalNamed "widgetry/style.properties" = some g) : ∀ M, C.M0.le M → ∀ (k : Nat) x, styProps[k]? = some x → ∀ (j : Nat) d, (encSty x)[j]? = some d → ∃ u, M.cell g (k * 4 + j) = some u ∧ Rep M d u := fun M hle k x hx j d hd => by
 have:=hT.tab.2.2 g hg k x hx
 match j with
 | 0=>simp [encSty] at hd;subst hd;exact ⟨_,hle.cell _ _ _ this.1,Rep.v _⟩
 | 1=>simp [encSty] at hd;subst hd;exact ⟨_,hle.cell _ _ _ this.2.1,Rep.v _⟩
 | 2=>simp [encSty] at hd;subst hd;exact ⟨_,hle.cell _ _ _ this.2.2.1,Rep.v _⟩
 | 3=>simp [encSty] at hd;subst hd;exact ⟨_,hle.cell _ _ _ this.2.2.2,Rep.v _⟩
 | j + 4=>simp [encSty] at hd
theorem triStyG [hT : HasTab P C] {t g : Nat} {i : Operand} {k : IntKind} {z : Int} {y : Bool × Int × Int × Int} {gk : Nat} {want gd : Bool} (hi : gd = true → idxO styProps z = some y) (hg : P.globalNamed "widgetry/style.properties" = some g) (hb : guardB F ops gk want = some gd) (ht : arrInfo P t = some (22, 4)) (hz : rdV F i = some (.int k z)) (hs : sideOk F gd [i]) (hd : Nat.blt dst C.n = true) :
  TriL P C ops ⟨some dst,.indexAddr t (.global g) i,ty,pos,after,some (gk,want)⟩ ⟨gSlot ops gk ++ slotsOf [i],[],[dst],[]⟩ [(dst,.gd gd (.c (.pt [.v (.bool y.1),.v (.int .i64 y.2.1),.v (.int .i64 y.2.2.1),.v (.int .i64 y.2.2.2)])))] [] F:=by
 refine ⟨⟨rfl,rfl⟩,fun F' hS=>?_⟩
 have h2:=opnd_same (F:=F) (F':=F') (xs:=[i]) (fun t ht=>hS.1 t (by simp [ht]))
 refine Tri.quietG rfl ((guardB_same (fun t ht=>hS.1 t (by simp [ht]))).trans hb) rfl hd (fun hgt ρ M a w hr=>?_)
 have hR:=reads_of hr hgt (sideOk_same h2 hs)
 obtain ⟨u,g1,g2⟩:=idxT_run (P:=P) (w:=w) (k:=k) (enc:=encSty) (hi hgt) (by decide) ht (sty_cells hg M hr.heap.base)
 refine ⟨u,?_,g2⟩
 unfold execOp
 simp only
 rw [rdV_eval hR (by simp) ((rdV_same (h2 i (by simp))).trans hz)]
 exact bind_value g1
def singleF (F : FS) : List Cell → Bool
 | []=>true
 | .own j :: r=>match F.bl j with
  | some (.vec _ _)=>singleF F r
  | some (.mp _ _)=>singleF F r
  | _=>false
 | c :: r=>match c.single with
  | true=>singleF F r
  | false=>false
def ownsC : List Cell → List Nat
 | []=>[]
 | .own j :: r=>j :: ownsC r
 | _ :: r=>ownsC r
theorem singleF_same {F F' : FS} : ∀ {cs : List Cell},(∀ j ∈ ownsC cs,F'.bl j = F.bl j) → singleF F cs = true → singleF F' cs = true
 | [],_,_=>rfl
 | c :: r,hb,h=>by
  cases c with
  | own j =>
   simp only [singleF] at h ⊢
   rw [hb j (by simp [ownsC])]
   have hr : ∀ k ∈ ownsC r,F'.bl k = F.bl k:=fun k hk=>hb k (by simp [ownsC,hk])
   split at h
   ·exact singleF_same hr h
   ·exact singleF_same hr h
   ·cases h
  | _ =>
   simp only [singleF] at h ⊢
   split at h
   ·exact singleF_same (fun k hk=>hb k (by simpa [ownsC] using hk)) h
   ·cases h
theorem singleF_rep {F : FS} {ρ : Env} {M : Mem} {w : World} (hr : RelW C F.bl ρ M w) : ∀ {cs : List Cell} {vs : List Value},singleF F cs = true → Reps ρ M cs vs → ∀ u ∈ vs,notMany u = true
 | [],[],_,_,u,hu=>by cases hu
 | [],_ :: _,_,h,_,_=>h.elim
 | _ :: _,[],_,h,_,_=>h.elim
 | c :: r,v :: vs,hs,h,u,hu=>by
  cases c with
  | own j =>
   have hv : v = ρ j:=h.1
   simp only [singleF] at hs
   split at hs
   ·rename_i sz l e
    rcases List.mem_cons.1 hu with e2 | e2
    ·obtain ⟨a,cap,e3,_⟩:=hr.inv j _ e
     rw [e2,hv,e3];rfl
    ·exact singleF_rep hr hs h.2 u e2
   ·rename_i agg l e
    rcases List.mem_cons.1 hu with e2 | e2
    ·obtain ⟨r0,es,cl,f,e3,_⟩:=hr.inv j _ e
     rw [e2,hv,e3];rfl
    ·exact singleF_rep hr hs h.2 u e2
   ·cases hs
  | _ =>
   simp only [singleF] at hs
   split at hs
   ·rename_i e
    rcases List.mem_cons.1 hu with e2 | e2
    ·rw [e2];exact single_rep e h.1
    ·exact singleF_rep hr hs h.2 u e2
   ·cases hs
theorem cells_repF {F : FS} {ρ : Env} {M : Mem} {w : World} (hr : RelW C F.bl ρ M w) {x : A1} (hs : singleF F x.cells = true) {v : Value} (hx : x.rep ρ M v) : Reps ρ M x.cells v.cells.toList:=by
 cases x with
 | c y =>
  have:=singleF_rep hr hs (show Reps ρ M [y] [v] from ⟨hx,trivial⟩) v (by simp)
  rw [notMany_cells this]
  exact ⟨hx,trivial⟩
 | agg cs=>obtain ⟨arr,rfl,h2⟩:=hx;exact h2
theorem triStoreF {t : TypeId} {x y : Operand} {j off : Nat} {cs cs' : List Cell} {u : TypeId} {v : A1} {n : Nat} {b : Bool}
  (hx : opnd F x = some (.s (.c (.loc j off)))) (hj : F.bl j = some (.blk cs u)) (hy : opnd F y = some (.s v)) (hs : singleF F v.cells = true) (ht : tinfo P t = some (n,b)) (hl : Nat.beq v.cells.length n = true)
  (hle : Nat.ble (off + n) cs.length = true) (hc : setCells cs off v.cells = cs') :
  TriL P C ops ⟨none,.store t x y,ty,pos,after,none⟩ ⟨slotsOf [x,y],j :: ownsC v.cells,[],[j]⟩ [] [(j,.blk cs' u)] F:=by
 refine ⟨⟨rfl,rfl⟩,fun F' hS=>?_⟩
 have h1:=opnd_same hS.1
 have hj' : F'.bl j = some (.blk cs u):=(hS.2 j (by simp)).trans hj
 have hs':=singleF_same (F':=F') (fun k hk=>hS.2 k (by simp [hk])) hs
 have hx':=(h1 x (by simp)).trans hx
 have hy':=(h1 y (by simp)).trans hy
 refine Tri.eff rfl rfl (fun k hk=>dom_over hk) (fun ρ M a w hr=>?_)
 have hl' : v.cells.length = n:=Nat.eq_of_beq_eq_true hl
 have ex : a.eval x = ptr ρ j off:=opnd_rep hr hx'
 have ey : v.rep ρ M (a.eval y):=opnd_rep hr hy'
 obtain ⟨⟨arr,g1,g2⟩,g3⟩:=hr.heap.inv _ _ hj'
 have hcr:=cells_repF hr.heap hs' ey
 have hnm : ∀ u ∈ (a.eval y).cells.toList,notMany u = true:=singleF_rep hr.heap hs' hcr
 have hlen:=hcr.len
 have hcl:=g2.len
 have hle':=Nat.le_of_ble_eq_true hle
 obtain ⟨w',q1,q2,q3,q4,q5,q6,q7⟩:=storeCells_run (P:=P) (off:=off) (a.eval y).cells.toList 0 w arr g1 hnm (by have e : arr.size = cs.length:=(by simpa using hcl);rw [hlen,hl'];omega)
 refine ⟨w',M,?_,Mem.le_refl _,fun ρ' h0=>?_⟩
 ·unfold execOp
  simp only [ex,ptr]
  have hsv : (storeVar t ⟨blockOf (ρ j),off,none⟩ (a.eval y)).run P w = .ok () w':=by
   unfold storeVar
   rw [run_bind_ok (tinfo_size ht w)]
   rw [if_neg (by simp at hlen;simp [hlen,hl'])]
   exact q1
  show (do storeVar t ⟨blockOf (ρ j),off,none⟩ (a.eval y);pure Next.skip : Sem Next).run P w = _
  rw [run_bind_ok hsv]
  rfl
 ·have ex' : a.eval x = ptr ρ' j off:=opnd_rep h0 hx'
  have eb : blockOf (ρ' j) = blockOf (ρ j):=by have:=ex'.symm.trans ex;simpa [ptr] using this
  obtain ⟨⟨arr',g1',g2'⟩,g3'⟩:=h0.heap.inv _ _ hj'
  rw [eb] at g1' g3'
  have ea : arr' = arr:=by have:=g1'.symm.trans g1;simpa using this
  subst ea
  have ey' : v.rep ρ' M (a.eval y):=opnd_rep h0 hy'
  refine h0.heap.change j (fun b=>b = blockOf (ρ j)) ?_ ⟨q5,q6,q7,Nat.le_of_eq q4.symm⟩ (fun b _ hb=>q3 b hb) (Mem.le_refl _) (fun _ _ _=>⟨fun _=>rfl,rfl⟩) ?_ ?_ (fun b hb=>h0.heap.noJunk hj' (by rw [hb,← eb];rfl))
  ·rintro b rfl _
   rw [← eb]
   exact h0.heap.priv j _ _ hj' rfl
  ·rintro b (rfl | hb)
   ·exact ⟨fun o v' hv'=>(by rw [g3' o] at hv';cases hv'),fun o ho=>(by rw [h0.heap.mem.noObj g1'] at ho;cases ho)⟩
   ·have:=h0.heap.mem.none hb
    exact ⟨fun o v' hv'=>(by rw [this.1 o] at hv';cases hv'),fun o ho=>(by rw [this.2] at ho;cases ho)⟩
  ·intro k ob hk
   rw [over_one] at hk
   split at hk
   ·rename_i e
    subst e
    cases hk
    refine .inr (.inr ⟨rfl,⟨⟨_,by rw [eb];exact q2,?_⟩,by rw [eb];exact g3'⟩,fun b hb=>.inl (by cases hb;exact eb)⟩)
    rw [← hc]
    simpa using Reps.setMany off (cells_repF h0.heap hs' ey') g2'
   ·rename_i e
    refine .inr (.inl ⟨hk,fun b hb hbe=>?_⟩)
    subst hbe
    exact e ((h0.heap.dist k j _ _ _ hk hj' hb (by show some _ = some _;rw [eb])).symm)
def dI (x : Int) : D:=.v (.int .i64 x)
def dB (x : Bool) : D:=.v (.bool x)
def dS (x : Str) : D:=.v (.string x)
def cI (x : Int) : Cell:=.d (.v (.int .i64 x))
def cB_ (x : Bool) : Cell:=.d (.v (.bool x))
def cS (x : Str) : Cell:=.d (.v (.string x))
def aI (x : Int) : A1:=.c (.d (.v (.int .i64 x)))
def aB (x : Bool) : A1:=.c (.d (.v (.bool x)))
def aS (x : Str) : A1:=.c (.d (.v (.string x)))
theorem OkOps.x {o : Op} {rest : List Oper} {Q : AState → Prop} {sl : List (Nat × AV)} {bl : List (Nat × Ob)} {nx : Nat} (x : A1) (he : evQ P ⟨look sl,look bl⟩ ty o = some x) (hs : sideOk ⟨look sl,look bl⟩ true o.operands.toList) (hn : Nat.blt dst C.n = true) (h : OkOps P C ops rest Q ⟨(dst,.s x) :: sl,bl,nx⟩) :
  OkOps P C ops (⟨some dst,o,ty,pos,after,none⟩ :: rest) Q ⟨sl,bl,nx⟩:=OkOps.q (triQ he hs hn) h
theorem OkD.x {o : Op} {rest : List Oper} {ss0 : List Sum} {Q : AState → Prop} {sl : List (Nat × AV)} {bl : List (Nat × Ob)} {nx : Nat} (x : A1) (he : evQ P ⟨look sl,look bl⟩ ty o = some x) (hs : sideOk ⟨look sl,look bl⟩ true o.operands.toList) (hn : Nat.blt dst C.n = true)
  (h : OkD P C ops rest (⟨slotsOf o.operands.toList,ldBlk ⟨look sl,look bl⟩ o,[dst],[]⟩ :: ss0) Q ⟨(dst,.s x) :: sl,bl,nx⟩) : OkD P C ops (⟨some dst,o,ty,pos,after,none⟩ :: rest) ss0 Q ⟨sl,bl,nx⟩:=OkD.q (triQ he hs hn) h
theorem OkOps.y {o : Op} {rest : List Oper} {Q : AState → Prop} {sl : List (Nat × AV)} {bl : List (Nat × Ob)} {nx : Nat} (x : A1) (h : OkOps P C ops rest Q ⟨(dst,.s x) :: sl,bl,nx⟩) (he : evQ P ⟨look sl,look bl⟩ ty o = some x:=by exact rfl) (hs : sideOk ⟨look sl,look bl⟩ true o.operands.toList:=by exact trivial) (hn : Nat.blt dst C.n = true:=by exact rfl) :
  OkOps P C ops (⟨some dst,o,ty,pos,after,none⟩ :: rest) Q ⟨sl,bl,nx⟩:=OkOps.x x he hs hn h
theorem triCl [HasTab P C] {f : FuncId} {args : Array Operand} {argTypes : Array TypeId} {ys las : List A1} {bl bl' : List (Nat × Ob)} {res : AV} (σ : Nat → Nat) (res' : AV) (Wb : List (Nat × Ob)) (hc : Con P f las bl res bl') (hy : rds F args.toList = some ys) (hfit : Fits ys (las.map (A1.ren σ))) (hs : sideOk F true args.toList) (hf : Entry P f) (hl : lentOk F σ bl)
  (hdom : domB bl' bl = true:=by exact rfl) (hap : apart σ bl' = true:=by exact rfl) (hsc : blIn bl bl = true:=by exact rfl) (hsa : a1sIn bl las = true:=by exact rfl) (hnew : allNone F (newNames σ bl bl'):=by exact trivial) (hn : Nat.blt dst C.n = true:=by exact rfl) (hres : res.ren σ = res':=by exact rfl) (hWb : renBl σ bl' = Wb:=by exact rfl) :
  TriL P C ops ⟨some dst,.call ⟨.value (.func f),args,argTypes⟩,ty,pos,after,none⟩ ⟨slotsOf args.toList,Wb.map (·.1),[dst],Wb.map (·.1)⟩ [(dst,res')] Wb F:=triCall σ res' Wb hc hy hfit hs hf hl hdom hap hsc hsa hnew hn hres hWb
end Go.E2
end
section
namespace Go.Proofs.YtfoigppmcelgfaaDoor
open Go Go.E2
theorem entry7 : Entry Tryd.prog 7:=⟨_,Tryd.func7,by kernel_rfl,by kernel_rfl⟩
theorem entry8 : Entry Tryd.prog 8:=⟨_,Tryd.func8,by kernel_rfl,by kernel_rfl⟩
theorem entry9 : Entry Tryd.prog 9:=⟨_,Tryd.func9,by kernel_rfl,by kernel_rfl⟩
theorem entry10 : Entry Tryd.prog 10:=⟨_,Tryd.func10,by kernel_rfl,by kernel_rfl⟩
theorem entry11 : Entry Tryd.prog 11:=⟨_,Tryd.func11,by kernel_rfl,by kernel_rfl⟩
theorem entry12 : Entry Tryd.prog 12:=⟨_,Tryd.func12,by kernel_rfl,by kernel_rfl⟩
theorem entry13 : Entry Tryd.prog 13:=⟨_,Tryd.func13,by kernel_rfl,by kernel_rfl⟩
theorem entry14 : Entry Tryd.prog 14:=⟨_,Tryd.func14,by kernel_rfl,by kernel_rfl⟩
theorem entry15 : Entry Tryd.prog 15:=⟨_,Tryd.func15,by kernel_rfl,by kernel_rfl⟩
theorem entry25 : Entry Tryd.prog 25:=⟨_,Tryd.func25,by kernel_rfl,by kernel_rfl⟩
theorem entry26 : Entry Tryd.prog 26:=⟨_,Tryd.func26,by kernel_rfl,by kernel_rfl⟩
theorem entry27 : Entry Tryd.prog 27:=⟨_,Tryd.func27,by kernel_rfl,by kernel_rfl⟩
theorem entry28 : Entry Tryd.prog 28:=⟨_,Tryd.func28,by kernel_rfl,by kernel_rfl⟩
theorem entry29 : Entry Tryd.prog 29:=⟨_,Tryd.func29,by kernel_rfl,by kernel_rfl⟩
theorem entry30 : Entry Tryd.prog 30:=⟨_,Tryd.func30,by kernel_rfl,by kernel_rfl⟩
theorem entry34 : Entry Tryd.prog 34:=⟨_,Tryd.func34,by kernel_rfl,by kernel_rfl⟩
theorem entry49 : Entry Tryd.prog 49:=⟨_,Tryd.func49,by kernel_rfl,by kernel_rfl⟩
theorem entry50 : Entry Tryd.prog 50:=⟨_,Tryd.func50,by kernel_rfl,by kernel_rfl⟩
theorem entry51 : Entry Tryd.prog 51:=⟨_,Tryd.func51,by kernel_rfl,by kernel_rfl⟩
theorem entry52 : Entry Tryd.prog 52:=⟨_,Tryd.func52,by kernel_rfl,by kernel_rfl⟩
theorem entry53 : Entry Tryd.prog 53:=⟨_,Tryd.func53,by kernel_rfl,by kernel_rfl⟩
theorem entry54 : Entry Tryd.prog 54:=⟨_,Tryd.func54,by kernel_rfl,by kernel_rfl⟩
theorem entry55 : Entry Tryd.prog 55:=⟨_,Tryd.func55,by kernel_rfl,by kernel_rfl⟩
theorem entry56 : Entry Tryd.prog 56:=⟨_,Tryd.func56,by kernel_rfl,by kernel_rfl⟩
theorem entry57 : Entry Tryd.prog 57:=⟨_,Tryd.func57,by kernel_rfl,by kernel_rfl⟩
theorem entry58 : Entry Tryd.prog 58:=⟨_,Tryd.func58,by kernel_rfl,by kernel_rfl⟩
theorem entry59 : Entry Tryd.prog 59:=⟨_,Tryd.func59,by kernel_rfl,by kernel_rfl⟩
theorem entry60 : Entry Tryd.prog 60:=⟨_,Tryd.func60,by kernel_rfl,by kernel_rfl⟩
theorem entry61 : Entry Tryd.prog 61:=⟨_,Tryd.func61,by kernel_rfl,by kernel_rfl⟩
theorem entry62 : Entry Tryd.prog 62:=⟨_,Tryd.func62,by kernel_rfl,by kernel_rfl⟩
theorem entry66 : Entry Tryd.prog 66:=⟨_,Tryd.func66,by kernel_rfl,by kernel_rfl⟩
theorem entry70 : Entry Tryd.prog 70:=⟨_,Tryd.func70,by kernel_rfl,by kernel_rfl⟩
theorem entry75 : Entry Tryd.prog 75:=⟨_,Tryd.func75,by kernel_rfl,by kernel_rfl⟩
theorem entry76 : Entry Tryd.prog 76:=⟨_,Tryd.func76,by kernel_rfl,by kernel_rfl⟩
theorem entry77 : Entry Tryd.prog 77:=⟨_,Tryd.func77,by kernel_rfl,by kernel_rfl⟩
theorem entry78 : Entry Tryd.prog 78:=⟨_,Tryd.func78,by kernel_rfl,by kernel_rfl⟩
theorem entry79 : Entry Tryd.prog 79:=⟨_,Tryd.func79,by kernel_rfl,by kernel_rfl⟩
theorem entry80 : Entry Tryd.prog 80:=⟨_,Tryd.func80,by kernel_rfl,by kernel_rfl⟩
theorem entry82 : Entry Tryd.prog 82:=⟨_,Tryd.func82,by kernel_rfl,by kernel_rfl⟩
theorem entry83 : Entry Tryd.prog 83:=⟨_,Tryd.func83,by kernel_rfl,by kernel_rfl⟩
theorem entry85 : Entry Tryd.prog 85:=⟨_,Tryd.func85,by kernel_rfl,by kernel_rfl⟩
theorem entry86 : Entry Tryd.prog 86:=⟨_,Tryd.func86,by kernel_rfl,by kernel_rfl⟩
theorem entry88 : Entry Tryd.prog 88:=⟨_,Tryd.func88,by kernel_rfl,by kernel_rfl⟩
theorem entry89 : Entry Tryd.prog 89:=⟨_,Tryd.func89,by kernel_rfl,by kernel_rfl⟩
theorem entry94 : Entry Tryd.prog 94:=⟨_,Tryd.func94,by kernel_rfl,by kernel_rfl⟩
theorem entry98 : Entry Tryd.prog 98:=⟨_,Tryd.func98,by kernel_rfl,by kernel_rfl⟩
theorem entry99 : Entry Tryd.prog 99:=⟨_,Tryd.func99,by kernel_rfl,by kernel_rfl⟩
theorem entry100 : Entry Tryd.prog 100:=⟨_,Tryd.func100,by kernel_rfl,by kernel_rfl⟩
theorem entry101 : Entry Tryd.prog 101:=⟨_,Tryd.func101,by kernel_rfl,by kernel_rfl⟩
theorem entry102 : Entry Tryd.prog 102:=⟨_,Tryd.func102,by kernel_rfl,by kernel_rfl⟩
theorem entry103 : Entry Tryd.prog 103:=⟨_,Tryd.func103,by kernel_rfl,by kernel_rfl⟩
theorem entry104 : Entry Tryd.prog 104:=⟨_,Tryd.func104,by kernel_rfl,by kernel_rfl⟩
theorem entry112 : Entry Tryd.prog 112:=⟨_,Tryd.func112,by kernel_rfl,by kernel_rfl⟩
theorem entry113 : Entry Tryd.prog 113:=⟨_,Tryd.func113,by kernel_rfl,by kernel_rfl⟩
theorem entry114 : Entry Tryd.prog 114:=⟨_,Tryd.func114,by kernel_rfl,by kernel_rfl⟩
theorem entry115 : Entry Tryd.prog 115:=⟨_,Tryd.func115,by kernel_rfl,by kernel_rfl⟩
theorem entry120 : Entry Tryd.prog 120:=⟨_,Tryd.func120,by kernel_rfl,by kernel_rfl⟩
theorem entry121 : Entry Tryd.prog 121:=⟨_,Tryd.func121,by kernel_rfl,by kernel_rfl⟩
theorem entry122 : Entry Tryd.prog 122:=⟨_,Tryd.func122,by kernel_rfl,by kernel_rfl⟩
theorem entry123 : Entry Tryd.prog 123:=⟨_,Tryd.func123,by kernel_rfl,by kernel_rfl⟩
theorem entry124 : Entry Tryd.prog 124:=⟨_,Tryd.func124,by kernel_rfl,by kernel_rfl⟩
theorem entry125 : Entry Tryd.prog 125:=⟨_,Tryd.func125,by kernel_rfl,by kernel_rfl⟩
theorem entry126 : Entry Tryd.prog 126:=⟨_,Tryd.func126,by kernel_rfl,by kernel_rfl⟩
theorem entry127 : Entry Tryd.prog 127:=⟨_,Tryd.func127,by kernel_rfl,by kernel_rfl⟩
theorem entry128 : Entry Tryd.prog 128:=⟨_,Tryd.func128,by kernel_rfl,by kernel_rfl⟩
theorem entry129 : Entry Tryd.prog 129:=⟨_,Tryd.func129,by kernel_rfl,by kernel_rfl⟩
theorem entry130 : Entry Tryd.prog 130:=⟨_,Tryd.func130,by kernel_rfl,by kernel_rfl⟩
theorem entry131 : Entry Tryd.prog 131:=⟨_,Tryd.func131,by kernel_rfl,by kernel_rfl⟩
theorem entry132 : Entry Tryd.prog 132:=⟨_,Tryd.func132,by kernel_rfl,by kernel_rfl⟩
theorem entry133 : Entry Tryd.prog 133:=⟨_,Tryd.func133,by kernel_rfl,by kernel_rfl⟩
theorem entry134 : Entry Tryd.prog 134:=⟨_,Tryd.func134,by kernel_rfl,by kernel_rfl⟩
theorem entry135 : Entry Tryd.prog 135:=⟨_,Tryd.func135,by kernel_rfl,by kernel_rfl⟩
theorem entry136 : Entry Tryd.prog 136:=⟨_,Tryd.func136,by kernel_rfl,by kernel_rfl⟩
theorem entry137 : Entry Tryd.prog 137:=⟨_,Tryd.func137,by kernel_rfl,by kernel_rfl⟩
theorem entry138 : Entry Tryd.prog 138:=⟨_,Tryd.func138,by kernel_rfl,by kernel_rfl⟩
theorem entry139 : Entry Tryd.prog 139:=⟨_,Tryd.func139,by kernel_rfl,by kernel_rfl⟩
end Go.Proofs.YtfoigppmcelgfaaDoor
end
section
namespace Go.Proofs.YtfoigppmcelgfaaDoor
open Go Go.E2
structure AValue where
 Kind : Int
 N : Int
 S : Str
 L : (List AValue)
instance : Inhabited AValue:=⟨⟨0,0,ByteArray.empty,([] : (List AValue))⟩⟩
mutual
def AValue.cs : AValue → List D
 | ⟨v0,v1,v2,v3⟩=>[dI v0,dI v1,dS v2,.sl (AValue.csL v3)]
def AValue.csL : List AValue → List (List D)
 | []=>[]
 | x :: r=>AValue.cs x :: AValue.csL r
end
theorem AValue.csL_eq : ∀ l,AValue.csL l = List.map AValue.cs l
 | []=>by unfold AValue.csL;rfl
 | x :: r=>by unfold AValue.csL;rw [AValue.csL_eq r];rfl
theorem AValue.cs_eq (x : AValue) : x.cs = [dI x.Kind,dI x.N,dS x.S,.sl (List.map AValue.cs x.L)]:=by
 cases x
 conv=>lhs;unfold AValue.cs
 simp only [AValue.csL_eq]
structure Attr where
 Name : Str
 Value : AValue
deriving Inhabited
def Attr.cs (x : Attr) : List Go.E2.D:=[dS x.Name,dI x.Value.Kind,dI x.Value.N,dS x.Value.S,.sl (List.map AValue.cs x.Value.L)]
structure Action where
 Event : Str
 Instance : Str
 Handler : Str
 Args : (List AValue)
deriving Inhabited
def Action.cs (x : Action) : List Go.E2.D:=[dS x.Event,dS x.Instance,dS x.Handler,.sl (List.map AValue.cs x.Args)]
structure View where
 Kind : Int
 Key : Str
 Attrs : (List Attr)
 Actions : (List Action)
 Kids : (List View)
instance : Inhabited View:=⟨⟨0,ByteArray.empty,([] : (List Attr)),([] : (List Action)),([] : (List View))⟩⟩
mutual
def View.cs : View → List D
 | ⟨v0,v1,v2,v3,v4⟩=>[dI v0,dS v1,.sl (List.map Attr.cs v2),.sl (List.map Action.cs v3),.sl (View.csL v4)]
def View.csL : List View → List (List D)
 | []=>[]
 | x :: r=>View.cs x :: View.csL r
end
theorem View.csL_eq : ∀ l,View.csL l = List.map View.cs l
 | []=>by unfold View.csL;rfl
 | x :: r=>by unfold View.csL;rw [View.csL_eq r];rfl
theorem View.cs_eq (x : View) : x.cs = [dI x.Kind,dS x.Key,.sl (List.map Attr.cs x.Attrs),.sl (List.map Action.cs x.Actions),.sl (List.map View.cs x.Kids)]:=by
 cases x
 conv=>lhs;unfold View.cs
 simp only [View.csL_eq]
structure Node where
 ID : Int
 Parent : Int
 Kind : Int
 Key : Str
 Attrs : (List Attr)
 Actions : (List Action)
 Kids : (List Int)
deriving Inhabited
def Node.cs (x : Node) : List Go.E2.D:=[dI x.ID,dI x.Parent,dI x.Kind,dS x.Key,.sl (List.map Attr.cs x.Attrs),.sl (List.map Action.cs x.Actions),.sl (List.map (eInt .i64) x.Kids)]
structure Tree where
 Root : Int
 Next : Int
 Nodes : (List Node)
deriving Inhabited
def Tree.cs (x : Tree) : List Go.E2.D:=[dI x.Root,dI x.Next,.sl (List.map Node.cs x.Nodes)]
structure AType where
 Kind : Int
 Of : (List AType)
instance : Inhabited AType:=⟨⟨0,([] : (List AType))⟩⟩
mutual
def AType.cs : AType → List D
 | ⟨v0,v1⟩=>[dI v0,.sl (AType.csL v1)]
def AType.csL : List AType → List (List D)
 | []=>[]
 | x :: r=>AType.cs x :: AType.csL r
end
theorem AType.csL_eq : ∀ l,AType.csL l = List.map AType.cs l
 | []=>by unfold AType.csL;rfl
 | x :: r=>by unfold AType.csL;rw [AType.csL_eq r];rfl
theorem AType.cs_eq (x : AType) : x.cs = [dI x.Kind,.sl (List.map AType.cs x.Of)]:=by
 cases x
 conv=>lhs;unfold AType.cs
 simp only [AType.csL_eq]
def r11_letter (c : Int) : Option Bool:=some (((decide (c ≥ 97)) && (decide (c ≤ 122))) || ((decide (c ≥ 65)) && (decide (c ≤ 90))))
def r11_Name_L1 (p_s : Str) (k5 : Unit → Option Bool) (again7 : Int → Option Bool) (s6 : Int) : Option Bool:=sel (decide (s6 < (p_s.size : Int))) ((sidxO p_s s6).bind fun x9=>(r11_letter x9).bind fun x10=>(gO (!x10) (sidxO p_s s6)).bind fun x11=>(gO ((!x10) && !(decide (x11 < 48))) (sidxO p_s s6)).bind fun x12=>(gO ((!x10) && ((decide (x11 < 48)) || (decide (x12 > 57)))) (sidxO p_s s6)).bind fun x13=>(gO (((!x10) && ((decide (x11 < 48)) || (decide (x12 > 57)))) && (x13 != 45)) (sidxO p_s s6)).bind fun x14=>sel ((((!x10) && ((decide (x11 < 48)) || (decide (x12 > 57)))) && (x13 != 45)) && (x14 != 95)) (some false) (again7 (IntKind.i64.wrap (s6 + 1)))) (k5 ())
def r11_Name (p_s : Str) : Option Bool:=(gO (!((decide ((p_s.size : Int) < 1)) || (decide ((p_s.size : Int) > 24)))) (sidxO p_s 0)).bind fun x1=>(gO (!((decide ((p_s.size : Int) < 1)) || (decide ((p_s.size : Int) > 24)))) (r11_letter x1)).bind fun x2=>sel (((decide ((p_s.size : Int) < 1)) || (decide ((p_s.size : Int) > 24))) || (!x2)) (some false) (jn (fun (_s4 : Unit)=>some true) fun k5=>loopK (r11_Name_L1 p_s k5) N0 1)
def ex_Name_L1 (p_s : Str) (k3 : Unit → Option Bool) (again5 : Int → Option Bool) (s4 : Int) : Option Bool:=sel (decide (s4 < (p_s.size : Int))) ((sidxO p_s s4).bind fun x7=>sel ((!(((decide (x7 ≥ 97)) && (decide (x7 ≤ 122))) || ((decide (x7 ≥ 65)) && (decide (x7 ≤ 90))))) && ((s4 == 0) || ((((decide (x7 < 48)) || (decide (x7 > 57))) && (x7 != 45)) && (x7 != 95)))) (some false) (again5 (IntKind.i64.wrap (s4 + 1)))) (k3 ())
def ex_Name (p_s : Str) : Option Bool:=sel (((p_s.size : Int) == 0) || (decide ((p_s.size : Int) > 24))) (some false) (jn (fun (_s2 : Unit)=>some true) fun k3=>loopK (ex_Name_L1 p_s k3) N0 0)
def r13_Key_L1 (p_s : Str) (k2 : Unit → Option Bool) (again4 : Int → Option Bool) (s3 : Int) : Option Bool:=sel (decide (s3 < (p_s.size : Int))) ((sidxO p_s s3).bind fun x6=>sel ((((((decide (x6 < 97)) || (decide (x6 > 122))) && ((decide (x6 < 65)) || (decide (x6 > 90)))) && ((decide (x6 < 48)) || (decide (x6 > 57)))) && (x6 != 45)) && (x6 != 95)) (some false) (again4 (IntKind.i64.wrap (s3 + 1)))) (k2 ())
def r13_Key (p_s : Str) : Option Bool:=jn (fun (_s1 : Unit)=>some (decide ((p_s.size : Int) ≤ 24))) fun k2=>loopK (r13_Key_L1 p_s k2) N0 0
def r14_Key (p_s : Str) : Option Bool:=(r13_Key p_s).bind fun x1=>some x1
def vw_Key_L1 (p_s : Str) (k2 : Unit → Option Bool) (again4 : Int → Option Bool) (s3 : Int) : Option Bool:=sel (decide (s3 < (p_s.size : Int))) ((sidxO p_s s3).bind fun x6=>sel ((((((decide (x6 < 97)) || (decide (x6 > 122))) && ((decide (x6 < 65)) || (decide (x6 > 90)))) && ((decide (x6 < 48)) || (decide (x6 > 57)))) && (x6 != 45)) && (x6 != 95)) (some false) (again4 (IntKind.i64.wrap (s3 + 1)))) (k2 ())
def vw_Key (p_s : Str) : Option Bool:=jn (fun (_s1 : Unit)=>some (decide ((p_s.size : Int) ≤ 24))) fun k2=>loopK (vw_Key_L1 p_s k2) N0 0
def r11_UTF8 (p_s : Str) : Option Bool:=some ((ofRunes (runes p_s)).toList == p_s.toList)
def ex_fields (v : AValue) : Option Bool:=jn (fun (s1 : Bool)=>sel s1 (some ((v.S.toList == (ByteArray.mk #[]).toList) && ((v.L.length : Int) == 0))) (sel (v.Kind == 3) (some ((v.N == 0) && ((v.L.length : Int) == 0))) (sel (v.Kind == 4) (some ((v.N == 0) && (v.S.toList == (ByteArray.mk #[]).toList))) (some false)))) fun k2=>sel (v.Kind == 1) (k2 (v.Kind == 1)) (k2 (v.Kind == 2))
def ex_within (p_n : Int) : Option Bool:=some ((decide (p_n ≥ (-1099511627776))) && (decide (p_n ≤ 1099511627776)))
def unicode_utf8_word_string (p_s : Str) : Option Int:=(sidxO p_s 0).bind fun x2=>(sidxO p_s 1).bind fun x3=>(sidxO p_s 2).bind fun x4=>(sidxO p_s 3).bind fun x5=>(sidxO p_s 4).bind fun x6=>(sidxO p_s 5).bind fun x7=>(sidxO p_s 6).bind fun x8=>(sidxO p_s 7).bind fun x9=>some (bOr .u64 (bOr .u64 (bOr .u64 (bOr .u64 (bOr .u64 (bOr .u64 (bOr .u64 (IntKind.u64.wrap x2) (bShl .u64 (IntKind.u64.wrap x3) 8)) (bShl .u64 (IntKind.u64.wrap x4) 16)) (bShl .u64 (IntKind.u64.wrap x5) 24)) (bShl .u64 (IntKind.u64.wrap x6) 32)) (bShl .u64 (IntKind.u64.wrap x7) 40)) (bShl .u64 (IntKind.u64.wrap x8) 48)) (bShl .u64 (IntKind.u64.wrap x9) 56))
def unicode_utf8_ValidString_L1 (k12 : Str → Option Bool) (again22 : Str → Option Bool) (s21 : Str) : Option Bool:=(gO (decide ((s21.size : Int) > 32)) (unicode_utf8_word_string s21)).bind fun x23=>(gO (decide ((s21.size : Int) > 32)) (sslcO s21 8 (s21.size : Int))).bind fun x24=>(gO (decide ((s21.size : Int) > 32)) (unicode_utf8_word_string x24)).bind fun x25=>(gO (decide ((s21.size : Int) > 32)) (sslcO s21 16 (s21.size : Int))).bind fun x26=>(gO (decide ((s21.size : Int) > 32)) (unicode_utf8_word_string x26)).bind fun x27=>(gO (decide ((s21.size : Int) > 32)) (sslcO s21 24 (s21.size : Int))).bind fun x28=>(gO (decide ((s21.size : Int) > 32)) (unicode_utf8_word_string x28)).bind fun x29=>sel ((decide ((s21.size : Int) > 32)) && ((bAnd .u64 (bOr .u64 (bOr .u64 x23 x25) (bOr .u64 x27 x29)) 9259542123273814144) == 0)) ((sslcO s21 32 (s21.size : Int)).bind fun x31=>again22 x31) (k12 s21)
def unicode_utf8_ValidString_L2 (k2 : Unit → Option Bool) (again4 : Str → Option Bool) (s3 : Str) : Option Bool:=sel (decide ((s3.size : Int) > 0)) (jn (fun (s6 : Str)=>again4 s6) fun k7=>(sidxO s3 0).bind fun x8=>sel (decide (x8 < 128)) ((sslcO s3 1 (s3.size : Int)).bind fun x10=>jn (fun (s11 : Str)=>k7 s11) fun k12=>(gO (decide ((x10.size : Int) > 8)) (unicode_utf8_word_string x10)).bind fun x13=>sel ((decide ((x10.size : Int) > 8)) && ((bAnd .u64 x13 9259542123273814144) == 0)) ((sslcO x10 8 (x10.size : Int)).bind fun x15=>(gO (decide ((x15.size : Int) > 16)) (unicode_utf8_word_string x15)).bind fun x16=>(gO (decide ((x15.size : Int) > 16)) (sslcO x15 8 (x15.size : Int))).bind fun x17=>(gO (decide ((x15.size : Int) > 16)) (unicode_utf8_word_string x17)).bind fun x18=>sel ((decide ((x15.size : Int) > 16)) && ((bAnd .u64 (bOr .u64 x16 x18) 9259542123273814144) == 0)) ((sslcO x15 16 (x15.size : Int)).bind fun x20=>loopK (unicode_utf8_ValidString_L1 k12) N0 x20) (k12 x15)) (k12 x10)) ((idxO utf8First x8).bind fun x32=>(idxO utf8Accept (bShr .u8 x32 4)).bind fun x33=>sel ((IntKind.i64.wrap (bAnd .u8 x32 7)) == 2) ((gO (!(decide ((s3.size : Int) < 2))) (sidxO s3 1)).bind fun x35=>(gO (!((decide ((s3.size : Int) < 2)) || (decide (x35 < x33.1)))) (sidxO s3 1)).bind fun x36=>sel (((decide ((s3.size : Int) < 2)) || (decide (x35 < x33.1))) || (decide (x33.2 < x36))) (some false) ((sslcO s3 2 (s3.size : Int)).bind fun x38=>k7 x38)) (sel ((IntKind.i64.wrap (bAnd .u8 x32 7)) == 3) ((gO (!(decide ((s3.size : Int) < 3))) (sidxO s3 1)).bind fun x40=>(gO (!((decide ((s3.size : Int) < 3)) || (decide (x40 < x33.1)))) (sidxO s3 1)).bind fun x41=>(gO (!(((decide ((s3.size : Int) < 3)) || (decide (x40 < x33.1))) || (decide (x33.2 < x41)))) (sidxO s3 2)).bind fun x42=>(gO (!((((decide ((s3.size : Int) < 3)) || (decide (x40 < x33.1))) || (decide (x33.2 < x41))) || (decide (x42 < 128)))) (sidxO s3 2)).bind fun x43=>sel (((((decide ((s3.size : Int) < 3)) || (decide (x40 < x33.1))) || (decide (x33.2 < x41))) || (decide (x42 < 128))) || (decide (191 < x43))) (some false) ((sslcO s3 3 (s3.size : Int)).bind fun x45=>k7 x45)) (sel ((IntKind.i64.wrap (bAnd .u8 x32 7)) == 4) ((gO (!(decide ((s3.size : Int) < 4))) (sidxO s3 1)).bind fun x47=>(gO (!((decide ((s3.size : Int) < 4)) || (decide (x47 < x33.1)))) (sidxO s3 1)).bind fun x48=>(gO (!(((decide ((s3.size : Int) < 4)) || (decide (x47 < x33.1))) || (decide (x33.2 < x48)))) (sidxO s3 2)).bind fun x49=>(gO (!((((decide ((s3.size : Int) < 4)) || (decide (x47 < x33.1))) || (decide (x33.2 < x48))) || (decide (x49 < 128)))) (sidxO s3 2)).bind fun x50=>(gO (!(((((decide ((s3.size : Int) < 4)) || (decide (x47 < x33.1))) || (decide (x33.2 < x48))) || (decide (x49 < 128))) || (decide (191 < x50)))) (sidxO s3 3)).bind fun x51=>(gO (!((((((decide ((s3.size : Int) < 4)) || (decide (x47 < x33.1))) || (decide (x33.2 < x48))) || (decide (x49 < 128))) || (decide (191 < x50))) || (decide (x51 < 128)))) (sidxO s3 3)).bind fun x52=>sel (((((((decide ((s3.size : Int) < 4)) || (decide (x47 < x33.1))) || (decide (x33.2 < x48))) || (decide (x49 < 128))) || (decide (191 < x50))) || (decide (x51 < 128))) || (decide (191 < x52))) (some false) ((sslcO s3 4 (s3.size : Int)).bind fun x54=>k7 x54)) (some false))))) (k2 ())
def unicode_utf8_ValidString (p_s : Str) : Option Bool:=jn (fun (_s1 : Unit)=>some true) fun k2=>loopK (unicode_utf8_ValidString_L2 k2) N0 p_s
def ex_listOf (t : AType) : Option AType:=some (AType.mk 4 ([t]))
def ex_join_B (self0 : AType → AType → Option (AType × Bool)) (a : AType) (b : AType) : Option (AType × Bool):=sel (a.Kind != b.Kind) (some ((AType.mk 0 ([] : (List AType))),false)) (sel ((a.Of.length : Int) == 0) (some (b,true)) (sel ((b.Of.length : Int) == 0) (some (a,true)) ((idxO a.Of 0).bind fun x4=>(idxO b.Of 0).bind fun x5=>(self0 x4 x5).bind fun x6=>sel (!x6.2) (some ((AType.mk 0 ([] : (List AType))),false)) ((ex_listOf x6.1).bind fun x8=>some (x8,true)))))
def ex_join : Nat → AType → AType → Option (AType × Bool)
 | 0,_,_=>none
 | n + 1,a,b=>ex_join_B (ex_join n) a b
def ex_common_L1 (k4 : (Int × (List AType)) → Option (AType × Bool)) (x6 : (List AType)) (again8 : (Int × Int × (List AType)) → Option (AType × Bool)) (s7 : Int × Int × (List AType)) : Option (AType × Bool):=sel (decide (s7.1 < (x6.length : Int))) ((idxO x6 s7.1).bind fun x10=>(ex_join N0 (AType.mk s7.2.1 s7.2.2) x10).bind fun x11=>sel (!x11.2) (some ((AType.mk 0 ([] : (List AType))),false)) (again8 (IntKind.i64.wrap (s7.1 + 1),x11.1.Kind,x11.1.Of))) (k4 (s7.2.1,s7.2.2))
def ex_common (l : (List AType)) : Option (AType × Bool):=sel ((l.length : Int) == 0) (some ((AType.mk 4 ([] : (List AType))),true)) ((idxO l 0).bind fun x2=>jn (fun (s3 : Int × (List AType))=>(ex_listOf (AType.mk s3.1 s3.2)).bind fun x5=>some (x5,true)) fun k4=>(slcO l 1 (l.length : Int)).bind fun x6=>loopK (ex_common_L1 k4 x6) N0 (0,x2.Kind,x2.Of))
def ex_check_L1 (self0 : AValue → Int → Int → Option (AType × Int × Int)) (v : AValue) (depth : Int) (k12 : ((List AType) × Int) → Option (AType × Int × Int)) (again16 : ((List AType) × Int × Int) → Option (AType × Int × Int)) (s15 : (List AType) × Int × Int) : Option (AType × Int × Int):=sel (decide (s15.2.1 < (v.L.length : Int))) ((idxO v.L s15.2.1).bind fun x18=>(self0 x18 (IntKind.i64.wrap (depth + 1)) s15.2.2).bind fun x19=>sel (x19.2.1 != 0) (some ((AType.mk 0 ([] : (List AType))),x19.2.1,x19.2.2)) ((appO s15.1 ([x19.1])).bind fun x21=>again16 (x21,IntKind.i64.wrap (s15.2.1 + 1),x19.2.2))) (k12 (s15.1,s15.2.2))
def ex_check_B (self0 : AValue → Int → Int → Option (AType × Int × Int)) (v : AValue) (depth : Int) (p_n : Int) : Option (AType × Int × Int):=sel ((v.Kind == 4) && (decide (depth ≥ 16))) (some ((AType.mk 0 ([] : (List AType))),8,p_n)) ((ex_fields v).bind fun x2=>sel (!x2) (some ((AType.mk 0 ([] : (List AType))),9,IntKind.i64.wrap (p_n + 1))) (jn (fun (s4 : Bool)=>sel s4 (some ((AType.mk 0 ([] : (List AType))),1,IntKind.i64.wrap (p_n + 1))) (sel (((decide ((v.S.size : Int) > 2000)) || (decide ((v.L.length : Int) > 100))) || (decide ((IntKind.i64.wrap (p_n + 1)) > 1000))) (some ((AType.mk 0 ([] : (List AType))),2,IntKind.i64.wrap (p_n + 1))) ((unicode_utf8_ValidString v.S).bind fun x8=>sel (!x8) (some ((AType.mk 0 ([] : (List AType))),3,IntKind.i64.wrap (p_n + 1))) (sel (v.Kind != 4) (some ((AType.mk v.Kind ([] : (List AType))),0,IntKind.i64.wrap (p_n + 1))) (jn (fun (s11 : (List AType) × Int)=>(ex_common s11.1).bind fun x13=>sel (!x13.2) (some ((AType.mk 0 ([] : (List AType))),5,s11.2)) (some (x13.1,0,s11.2))) fun k12=>loopK (ex_check_L1 self0 v depth k12) N0 (([] : (List AType)),0,IntKind.i64.wrap (p_n + 1))))))) fun k5=>(gO (v.Kind == 1) (ex_within v.N)).bind fun x22=>sel ((v.Kind == 1) && (!x22)) (k5 ((v.Kind == 1) && (!x22))) (k5 (((v.Kind == 2) && (v.N != 0)) && (v.N != 1)))))
def ex_check : Nat → AValue → Int → Int → Option (AType × Int × Int)
 | 0,_,_,_=>none
 | n + 1,v,depth,p_n=>ex_check_B (ex_check n) v depth p_n
def ex_copyType_B (self0 : AType → Option AType) (t : AType) : Option AType:=sel ((t.Of.length : Int) == 0) (some (AType.mk t.Kind ([] : (List AType)))) ((idxO t.Of 0).bind fun x2=>(self0 x2).bind fun x3=>(ex_listOf x3).bind fun x4=>some x4)
def ex_copyType : Nat → AType → Option AType
 | 0,_=>none
 | n + 1,t=>ex_copyType_B (ex_copyType n) t
def ex_TypeOf (v : AValue) : Option (AType × Int):=(ex_check N0 v 0 0).bind fun x1=>sel (x1.2.1 != 0) (some ((AType.mk 0 ([] : (List AType))),x1.2.1)) ((ex_copyType N0 x1.1).bind fun x3=>some (x3,0))
def ex_Check (v : AValue) : Option Int:=(ex_TypeOf v).bind fun x1=>some x1.2
end Go.Proofs.YtfoigppmcelgfaaDoor
end
section
namespace Go.Proofs.YtfoigppmcelgfaaDoor
open Go Go.E2
def vw_attributes_L1 (l : (List Attr)) (k2 : Unit → Option Int) (again4 : Int → Option Int) (s3 : Int) : Option Int:=sel (decide (s3 < (l.length : Int))) ((idxO l s3).bind fun x6=>(ex_Name x6.Name).bind fun x7=>sel (!x7) (some 4) ((gO (decide (s3 > 0)) (idxO l (IntKind.i64.wrap (s3 - 1)))).bind fun x9=>sel ((decide (s3 > 0)) && (!(Op.bytesLess x9.Name.toList x6.Name.toList))) (some 10) ((ex_Check x6.Value).bind fun x11=>sel (x11 != 0) (some x11) (again4 (IntKind.i64.wrap (s3 + 1)))))) (k2 ())
def vw_attributes (l : (List Attr)) : Option Int:=jn (fun (_s1 : Unit)=>some 0) fun k2=>loopK (vw_attributes_L1 l k2) N0 0
def vw_actions_L1 (x8 : Action) (k16 : Unit → Option Int) (again18 : Int → Option Int) (s17 : Int) : Option Int:=sel (decide (s17 < (x8.Args.length : Int))) ((idxO x8.Args s17).bind fun x20=>(ex_Check x20).bind fun x21=>sel (x21 != 0) (some x21) (again18 (IntKind.i64.wrap (s17 + 1)))) (k16 ())
def vw_actions_L2 (l : (List Action)) (k2 : Unit → Option Int) (again4 : Int → Option Int) (s3 : Int) : Option Int:=sel (decide (s3 < (l.length : Int))) (jn (fun (_s6 : Unit)=>again4 (IntKind.i64.wrap (s3 + 1))) fun k7=>(idxO l s3).bind fun x8=>(ex_Name x8.Event).bind fun x9=>(gO (!(!x9)) (ex_Name x8.Handler)).bind fun x10=>sel ((!x9) || (!x10)) (some 4) ((gO (decide (s3 > 0)) (idxO l (IntKind.i64.wrap (s3 - 1)))).bind fun x12=>sel ((decide (s3 > 0)) && (!(Op.bytesLess x12.Event.toList x8.Event.toList))) (some 10) (sel ((decide ((x8.Instance.size : Int) > 400)) || (decide ((x8.Args.length : Int) > 100))) (some 2) (jn (fun (_s15 : Unit)=>k7 ()) fun k16=>loopK (vw_actions_L1 x8 k16) N0 0)))) (k2 ())
def vw_actions (l : (List Action)) : Option Int:=jn (fun (_s1 : Unit)=>some 0) fun k2=>loopK (vw_actions_L2 l k2) N0 0
def vw_validate_L1 (self0 : View → Int → Int → Option (Int × Int)) (v : View) (depth : Int) (k14 : Int → Option (Int × Int)) (again16 : (Int × Int) → Option (Int × Int)) (s15 : Int × Int) : Option (Int × Int):=sel (decide (s15.1 < (v.Kids.length : Int))) ((idxO v.Kids s15.1).bind fun x18=>(self0 x18 (IntKind.i64.wrap (depth + 1)) s15.2).bind fun x19=>sel (x19.1 != 0) (some (x19.1,x19.2)) (again16 (IntKind.i64.wrap (s15.1 + 1),x19.2))) (k14 s15.2)
def vw_validate_L2 (v : View) (p_n : Int) (k12 : Unit → Option (Int × Int)) (again22 : (Int × (List (Str × Bool))) → Option (Int × Int)) (s21 : Int × (List (Str × Bool))) : Option (Int × Int):=sel (decide (s21.1 < (v.Kids.length : Int))) ((idxO v.Kids s21.1).bind fun x24=>(gO (!(x24.Key.toList == (ByteArray.mk #[]).toList)) (mgetO s21.2 x24.Key false)).bind fun x25=>sel ((!(x24.Key.toList == (ByteArray.mk #[]).toList)) && x25.1) (some (6,IntKind.i64.wrap (p_n + 1))) (again22 (IntKind.i64.wrap (s21.1 + 1),msetL s21.2 x24.Key true))) (k12 ())
def vw_validate_B (self0 : View → Int → Int → Option (Int × Int)) (v : View) (depth : Int) (p_n : Int) : Option (Int × Int):=sel (decide (depth > 16)) (some (8,IntKind.i64.wrap (p_n + 1))) (sel (decide ((IntKind.i64.wrap (p_n + 1)) > 400)) (some (2,IntKind.i64.wrap (p_n + 1))) (sel ((decide (v.Kind < 1)) || (decide (v.Kind > 13))) (some (9,IntKind.i64.wrap (p_n + 1))) ((vw_Key v.Key).bind fun x4=>sel (!x4) (some (4,IntKind.i64.wrap (p_n + 1))) (sel (((decide ((v.Attrs.length : Int) > 24)) || (decide ((v.Actions.length : Int) > 24))) || (decide ((v.Kids.length : Int) > 100))) (some (2,IntKind.i64.wrap (p_n + 1))) ((vw_attributes v.Attrs).bind fun x7=>sel (x7 != 0) (some (x7,IntKind.i64.wrap (p_n + 1))) ((vw_actions v.Actions).bind fun x9=>sel (x9 != 0) (some (x9,IntKind.i64.wrap (p_n + 1))) (jn (fun (_s11 : Unit)=>jn (fun (s13 : Int)=>some (0,s13)) fun k14=>loopK (vw_validate_L1 self0 v depth k14) N0 (0,IntKind.i64.wrap (p_n + 1))) fun k12=>loopK (vw_validate_L2 v p_n k12) N0 (0,([] : (List (Str × Bool)))))))))))
def vw_validate : Nat → View → Int → Int → Option (Int × Int)
 | 0,_,_,_=>none
 | n + 1,v,depth,p_n=>vw_validate_B (vw_validate n) v depth p_n
def vw_Validate (v : View) : Option Int:=(vw_validate N0 v 1 0).bind fun x1=>some x1.1
def vw_value_B (_self0 : AValue → Option AValue) (self1 : (List AValue) → Option (List AValue)) (v : AValue) : Option AValue:=(self1 v.L).bind fun x1=>some (AValue.mk v.Kind v.N v.S x1)
def vw_values_L1 (self0 : AValue → Option AValue) (l : (List AValue)) (k2 : (List AValue) → Option (List AValue)) (again4 : ((List AValue) × Int) → Option (List AValue)) (s3 : (List AValue) × Int) : Option (List AValue):=sel (decide (s3.2 < (l.length : Int))) ((idxO l s3.2).bind fun x6=>(self0 x6).bind fun x7=>(appO s3.1 ([x7])).bind fun x8=>again4 (x8,IntKind.i64.wrap (s3.2 + 1))) (k2 s3.1)
def vw_values_B (self0 : AValue → Option AValue) (_self1 : (List AValue) → Option (List AValue)) (l : (List AValue)) : Option (List AValue):=jn (fun (s1 : (List AValue))=>some s1) fun k2=>loopK (vw_values_L1 self0 l k2) N0 (([] : (List AValue)),0)
mutual
def vw_value : Nat → AValue → Option AValue
 | 0,_=>none
 | n + 1,v=>vw_value_B (vw_value n) (vw_values n) v
def vw_values : Nat → (List AValue) → Option (List AValue)
 | 0,_=>none
 | n + 1,l=>vw_values_B (vw_value n) (vw_values n) l
end
def vw_preorder_L1 (self0 : (List (Int × Node)) → Int → Option (List Int)) (nodes : (List (Int × Node))) (k2 : (List Int) → Option (List Int)) (x3 : Node × Bool) (again5 : ((List Int) × Int) → Option (List Int)) (s4 : (List Int) × Int) : Option (List Int):=sel (decide (s4.2 < (x3.1.Kids.length : Int))) ((idxO x3.1.Kids s4.2).bind fun x7=>(self0 nodes x7).bind fun x8=>(appO s4.1 x8).bind fun x9=>again5 (x9,IntKind.i64.wrap (s4.2 + 1))) (k2 s4.1)
def vw_preorder_B (self0 : (List (Int × Node)) → Int → Option (List Int)) (nodes : (List (Int × Node))) (id : Int) : Option (List Int):=jn (fun (s1 : (List Int))=>some s1) fun k2=>(mgetO nodes id (Node.mk 0 0 0 ByteArray.empty ([] : (List Attr)) ([] : (List Action)) ([] : (List Int)))).bind fun x3=>loopK (vw_preorder_L1 self0 nodes k2 x3) N0 ([id],0)
def vw_preorder : Nat → (List (Int × Node)) → Int → Option (List Int)
 | 0,_,_=>none
 | n + 1,nodes,id=>vw_preorder_B (vw_preorder n) nodes id
def vw_graph_L1 (s2 : (List (Int × Node))) (x15 : Node) (k17 : (List (Int × Bool)) → Option ((List (Int × Node)) × Bool)) (again19 : (Int × (List (Int × Bool))) → Option ((List (Int × Node)) × Bool)) (s18 : Int × (List (Int × Bool))) : Option ((List (Int × Node)) × Bool):=sel (decide (s18.1 < (x15.Kids.length : Int))) ((idxO x15.Kids s18.1).bind fun x21=>(mgetO s2 x21 (Node.mk 0 0 0 ByteArray.empty ([] : (List Attr)) ([] : (List Action)) ([] : (List Int)))).bind fun x22=>(gO (!((!x22.2) || (x22.1.Parent != x15.ID))) (mgetO s18.2 x21 false)).bind fun x23=>sel (((!x22.2) || (x22.1.Parent != x15.ID)) || x23.1) (some (([] : (List (Int × Node))),false)) (again19 (IntKind.i64.wrap (s18.1 + 1),msetL s18.2 x21 true))) (k17 s18.2)
def vw_graph_L2 (t : Tree) (s2 : (List (Int × Node))) (k7 : (List (Int × Bool)) → Option ((List (Int × Node)) × Bool)) (again11 : (Int × (List (Int × Bool))) → Option ((List (Int × Node)) × Bool)) (s10 : Int × (List (Int × Bool))) : Option ((List (Int × Node)) × Bool):=sel (decide (s10.1 < (t.Nodes.length : Int))) (jn (fun (s13 : (List (Int × Bool)))=>again11 (IntKind.i64.wrap (s10.1 + 1),s13)) fun k14=>(idxO t.Nodes s10.1).bind fun x15=>jn (fun (s16 : (List (Int × Bool)))=>k14 s16) fun k17=>loopK (vw_graph_L1 s2 x15 k17) N0 (0,s10.2)) (k7 s10.2)
def vw_graph_L3 (t : Tree) (k3 : (List (Int × Node)) → Option ((List (Int × Node)) × Bool)) (again26 : (Int × Int × (List (Int × Node))) → Option ((List (Int × Node)) × Bool)) (s25 : Int × Int × (List (Int × Node))) : Option ((List (Int × Node)) × Bool):=sel (decide (s25.2.1 < (t.Nodes.length : Int))) ((idxO t.Nodes s25.2.1).bind fun x28=>sel (((decide (x28.ID ≤ s25.1)) || (decide (x28.ID ≥ t.Next))) || ((x28.Parent == 0) != (x28.ID == t.Root))) (some (([] : (List (Int × Node))),false)) (again26 (x28.ID,IntKind.i64.wrap (s25.2.1 + 1),msetL s25.2.2 x28.ID x28))) (k3 s25.2.2)
def vw_graph (t : Tree) : Option ((List (Int × Node)) × Bool):=sel ((((decide (t.Next < 2)) || (decide (t.Next > 1099511627776))) || (decide ((t.Nodes.length : Int) < 1))) || (decide ((t.Nodes.length : Int) > 400))) (some (([] : (List (Int × Node))),false)) (jn (fun (s2 : (List (Int × Node)))=>(mgetO s2 t.Root (Node.mk 0 0 0 ByteArray.empty ([] : (List Attr)) ([] : (List Action)) ([] : (List Int)))).bind fun x4=>sel (!x4.2) (some (([] : (List (Int × Node))),false)) (jn (fun (s6 : (List (Int × Bool)))=>sel ((s6.length : Int) != (s2.length : Int)) (some (([] : (List (Int × Node))),false)) ((vw_preorder N0 s2 t.Root).bind fun x9=>some (s2,(x9.length : Int) == (s2.length : Int)))) fun k7=>loopK (vw_graph_L2 t s2 k7) N0 (0,msetL ([] : (List (Int × Bool))) t.Root true))) fun k3=>loopK (vw_graph_L3 t k3) N0 (0,0,([] : (List (Int × Node)))))
def vw_described_L1 (self0 : (List (Int × Node)) → Int → Option View) (nodes : (List (Int × Node))) (x1 : Node × Bool) (k3 : (List View) → Option View) (again5 : (Int × (List View)) → Option View) (s4 : Int × (List View)) : Option View:=sel (decide (s4.1 < (x1.1.Kids.length : Int))) ((idxO x1.1.Kids s4.1).bind fun x7=>(self0 nodes x7).bind fun x8=>(appO s4.2 ([x8])).bind fun x9=>again5 (IntKind.i64.wrap (s4.1 + 1),x9)) (k3 s4.2)
def vw_described_B (self0 : (List (Int × Node)) → Int → Option View) (nodes : (List (Int × Node))) (id : Int) : Option View:=(mgetO nodes id (Node.mk 0 0 0 ByteArray.empty ([] : (List Attr)) ([] : (List Action)) ([] : (List Int)))).bind fun x1=>jn (fun (s2 : (List View))=>some (View.mk x1.1.Kind x1.1.Key x1.1.Attrs x1.1.Actions s2)) fun k3=>loopK (vw_described_L1 self0 nodes x1 k3) N0 (0,([] : (List View)))
def vw_described : Nat → (List (Int × Node)) → Int → Option View
 | 0,_,_=>none
 | n + 1,nodes,id=>vw_described_B (vw_described n) nodes id
def vw_examine (t : Tree) : Option ((List (Int × Node)) × View × Int):=(vw_graph t).bind fun x1=>sel (!x1.2) (some (([] : (List (Int × Node))),(View.mk 0 ByteArray.empty ([] : (List Attr)) ([] : (List Action)) ([] : (List View))),12)) ((vw_described N0 x1.1 t.Root).bind fun x3=>(vw_Validate x3).bind fun x4=>some (x1.1,x3,x4))
def vw_Check (t : Tree) : Option Int:=(vw_examine t).bind fun x1=>some x1.2.2
end Go.Proofs.YtfoigppmcelgfaaDoor
end
section
namespace Go.E2
variable {P : Program} {C : Ctx} {F : FS} {ops : Array Oper} {dst : Nat} {ty : TypeId} {pos : String} {after : Array Edge}
def arrEl (P : Program) (t : TypeId) : Option (Nat × TypeId) :=
 match P.underlying t with
 | some (.array n e)=>some (n,e)
 | _=>none
theorem arr1_get {α : Type} {n : Nat} {e1 : α → D} {a : Nat → α} {k : Nat} (hk : k < n) : (arrC n e1 a)[k]? = some (.d (e1 (a k))):=by
 have:=arr_get (n:=n) (e1:=e1) (a:=a) (pre:=[]) (post:=[]) (p:=0) rfl hk
 simpa using this
theorem ixA_run {ρ : Env} {M : Mem} {t et n k : Nat} {kd : IntKind} {z : Int} {cs : List Cell} {c : Cell} {v : Value} (hz : ixO n z = some k) (ht : arrEl P t = some (n,et)) (h1 : tinfo P et = some (1,false)) (hc : cs[k]? = some c) (hv : (A1.agg cs).rep ρ M v) (w : World) :
  ∃ u,(Instr.index t v (.int kd z)).run P w = .ok u w ∧ c.rep ρ M u:=by
 obtain ⟨arr,rfl,hr⟩:=hv
 obtain ⟨rfl,hk⟩:=ixO_spec hz
 unfold arrEl at ht
 split at ht
 ·rename_i n' e' hu
  cases ht
  obtain ⟨u,g1,g2⟩:=part_run (P:=P) (t:=et) (off:=k) (x:=.c c) hr (by unfold takeA;rw [h1];simp only [hc]) w
  refine ⟨u,?_,g2⟩
  unfold Instr.index
  have hk' : (asIntOf (.int kd (k : Int))).run P w = .ok (kd,(k : Int)) w:=rfl
  rw [run_bind_ok hk']
  simp only
  rw [run_bind_ok (under_run hu w)]
  simp only
  rw [if_pos ⟨Int.natCast_nonneg k,Int.ofNat_lt.mpr hk⟩,run_bind_ok (tinfo_size h1 w),Int.toNat_natCast,Nat.mul_one]
  exact g1
 ·cases ht
theorem triIxA {t et n k : Nat} {x i : Operand} {kd : IntKind} {z : Int} {cs : List Cell} {c : Cell} (hz : ixO n z = some k) (hx : rd F x = some (.agg cs)) (hi : rdV F i = some (.int kd z)) (ht : arrEl P t = some (n,et)) (h1 : tinfo P et = some (1,false)) (hc : cs[k]? = some c) (hs : sideOk F true [x,i]) (hd : Nat.blt dst C.n = true) :
  TriL P C ops ⟨some dst,.index t x i,ty,pos,after,none⟩ ⟨slotsOf [x,i],[],[dst],[]⟩ [(dst,.s (.c c))] [] F:=by
 refine ⟨⟨rfl,rfl⟩,fun F' hS=>?_⟩
 have h2:=opnd_same hS.1
 refine Tri.quiet (x:=.c c) rfl rfl hd (fun ρ M a w hr=>?_)
 have hR:=reads_of hr rfl (sideOk_same h2 hs)
 obtain ⟨u,q1,q2⟩:=ixA_run (P:=P) (kd:=kd) hz ht h1 hc (hR x (by simp) _ ((rd_same (h2 x (by simp))).trans hx)) w
 refine ⟨u,?_,q2⟩
 unfold execOp
 simp only
 rw [rdV_eval hR (by simp) ((rdV_same (h2 i (by simp))).trans hi)]
 exact bind_value q1
theorem midx_t {K V : Type} [BEq K] {r : List (K × V)} {a k : K} {v : V} (h : (k == a) = true) : midx ((a,v) :: r) k = some 0:=by
 unfold midx;rw [h]
theorem midx_f {K V : Type} [BEq K] {r : List (K × V)} {a k : K} {v : V} (h : (k == a) = false) : midx ((a,v) :: r) k = (midx r k).map (· + 1):=by
 conv=>lhs;unfold midx
 rw [h]
theorem msetL_t {K V : Type} [BEq K] {r : List (K × V)} {a k : K} {v z : V} (h : (k == a) = true) : msetL ((a,v) :: r) k z = (k,z) :: r:=by
 unfold msetL;rw [h]
theorem msetL_f {K V : Type} [BEq K] {r : List (K × V)} {a k : K} {v z : V} (h : (k == a) = false) : msetL ((a,v) :: r) k z = (a,v) :: msetL r k z:=by
 conv=>lhs;unfold msetL
 rw [h]
theorem midx_self {K V : Type} [BEq K] [ReflBEq K] : ∀ (L : List (K × V)) (k : K) (z : V),midx (msetL L k z) k = some ((midx (msetL L k z) k).getD 0)
 | [],k,z=>by
  have h : (k == k) = true:=beq_self_eq_true k
  show midx [(k,z)] k = some ((midx [(k,z)] k).getD 0)
  rw [midx_t h];rfl
 | (a,v) :: r,k,z=>by
  have hkk : (k == k) = true:=beq_self_eq_true k
  cases h : (k == a) with
  | true=>rw [msetL_t h,midx_t hkk];rfl
  | false=>rw [msetL_f h,midx_f h,midx_self r k z];rfl
theorem midx_set {K V : Type} [BEq K] [ReflBEq K] : ∀ {L : List (K × V)} {k : K} {n : Nat} {z : V},midx L k = some n → midx (L.set n (k,z)) k = some n
 | [],_,_,_,h=>by cases h
 | (a,v) :: r,k,n,z,h=>by
  cases e : (k == a) with
  | true =>
   rw [midx_t e] at h
   cases h
   show midx ((k,z) :: r) k = some 0
   exact midx_t (beq_self_eq_true k)
  | false =>
   rw [midx_f e] at h
   cases hr : midx r k with
   | none=>rw [hr] at h;cases h
   | some m =>
    rw [hr] at h
    cases h
    show midx ((a,v) :: r.set m (k,z)) k = some (m + 1)
    rw [midx_f e,midx_set (z:=z) hr];rfl
theorem midx_app {K V : Type} [BEq K] [ReflBEq K] : ∀ {L : List (K × V)} {k : K} {z : V},midx L k = none → midx (L ++ [(k,z)]) k = some L.length
 | [],k,z,_=>midx_t (beq_self_eq_true k)
 | (a,v) :: r,k,z,h=>by
  cases e : (k == a) with
  | true=>rw [midx_t e] at h;cases h
  | false =>
   rw [midx_f e] at h
   have hr : midx r k = none:=by
    cases hr : midx r k with
    | none=>rfl
    | some m=>rw [hr] at h;cases h
   show midx ((a,v) :: (r ++ [(k,z)])) k = _
   rw [midx_f e,midx_app hr];rfl
theorem msetL_twice {K V : Type} [BEq K] [ReflBEq K] : ∀ (L : List (K × V)) (k : K) (y z : V),msetL (msetL L k y) k z = msetL L k z
 | [],k,y,z=>msetL_t (beq_self_eq_true k)
 | (a,v) :: r,k,y,z=>by
  cases h : (k == a) with
  | true=>rw [msetL_t h,msetL_t h];exact msetL_t (beq_self_eq_true k)
  | false=>rw [msetL_f h,msetL_f h,msetL_f h,msetL_twice r k y z]
theorem RelW.mapSet {K V : Type} [BEq K] {ek : K → Value} {ev : V → List D} {L : List (K × V)} {agg : Bool} {bl : Nat → Option Ob} {ρ : Env} {M : Mem} {w : World} {j r clock : Nat} {es : Array MapEntry} {k : K} {z : V} {u : Value} (h : RelW C bl ρ M w) (hj : bl j = some (.mp agg (encM ek ev L))) (hρ : ρ j = .map (some r)) (hq : w.heap[r]? = some (.map es clock))
  (hu : (rowA agg (ev z)).rep ρ M u) (h1 : agg = false → ∀ x,(ev x).length = 1) : RelW C (over [(j,.mp agg (encM ek ev (msetL L k z)))] bl) ρ M { w with heap:=w.heap.setIfInBounds r (.map (esSet ek L k u clock es) (clSet L k clock)) }:=by
 obtain ⟨r',es',clock',f',e1',q1',q2',q3',q4',q5',q6'⟩:=h.inv j _ hj
 have er : r' = r:=by rw [hρ] at e1';cases e1';rfl
 subst er
 have ee : es' = es ∧ clock' = clock:=by have:=q1'.symm.trans hq;simpa using this
 obtain ⟨rfl,rfl⟩:=ee
 have hs' : es'.size = L.length:=by rw [q3'];simp [encM]
 have hrl : r' < w.heap.size:=(Array.getElem?_eq_some_iff.1 hq).1
 obtain ⟨fu,hfu,hfr⟩:=mkVal_cells (row:=ev z) (agg:=agg) (M:=M) (v:=u) ⟨ρ,hu⟩ (fun h=>h1 h z)
 refine h.change j (fun b=>b = r') ?_ ⟨rfl,rfl,rfl,by simp⟩ (fun b _ hb=>?_) (Mem.le_refl _) (fun _ _ _=>⟨fun _=>rfl,rfl⟩) ?_ ?_ (fun b hb=>h.noJunk hj (by rw [hb,hρ];rfl))
 ·rintro b rfl _
  exact h.priv j _ _ hj (by rw [hρ];rfl)
 ·simp only [Array.getElem?_setIfInBounds]
  rw [if_neg (fun e=>hb e.symm)]
 ·rintro b (rfl | hb)
  ·refine ⟨fun o v' hv'=>?_,fun o ho=>(by rw [q2'] at ho;cases ho)⟩
   have:=h.mem.cell _ o v' hv'
   simp only [World.cell?,q1'] at this;cases this
  ·have:=h.mem.none (b:=b) (by simpa using hb)
   exact ⟨fun o v' hv'=>(by rw [this.1 o] at hv';cases hv'),fun o ho=>(by rw [this.2] at ho;cases ho)⟩
 ·intro k' ob hk'
  rw [over_one] at hk'
  split at hk'
  ·rename_i e
   subst e
   cases hk'
   refine .inr (.inr ⟨rfl,⟨r',esSet ek L k u clock' es',clSet L k clock',fun i=>if i = ixSet L k then fu else f' i,hρ,by simp [hrl],q2',?_,fun i a0 row hrow=>?_,fun i a0 row jj d hrow hd=>?_,born_set q6' hs'⟩,fun b hb=>.inl (by rw [hρ] at hb;cases hb;rfl)⟩)
   ·rw [esSet_size (v:=z) hs'];simp [encM]
   ·obtain ⟨p,hp,rfl,rfl⟩:=encM_inv hrow
    rcases esSet_get (ek:=ek) (u:=u) (clock:=clock') hs' hp with ⟨g1,g2,born,g3⟩ | ⟨g1,g2,g3⟩
    ·refine ⟨born,?_⟩
     show _ = some (MapEntry.mk _ (mkVal agg _ (if i = ixSet L k then fu else f' i)) _)
     rw [g3,if_pos g1,g2,hfu]
    ·obtain ⟨born,hb⟩:=q4' i _ _ (encM_get (a:=p.1) (v:=p.2) g2)
     refine ⟨born,?_⟩
     show _ = some (MapEntry.mk _ (mkVal agg _ (if i = ixSet L k then fu else f' i)) _)
     rw [g3,if_neg g1];exact hb
   ·obtain ⟨p,hp,rfl,rfl⟩:=encM_inv hrow
    rcases esSet_get (ek:=ek) (u:=u) (clock:=clock') hs' hp with ⟨g1,g2,born,g3⟩ | ⟨g1,g2,g3⟩
    ·show Rep M d ((if i = ixSet L k then fu else f' i) jj)
     rw [if_pos g1]
     rw [g2] at hd
     exact hfr jj d hd
    ·show Rep M d ((if i = ixSet L k then fu else f' i) jj)
     rw [if_neg g1]
     exact q5' i _ _ jj d (encM_get (a:=p.1) (v:=p.2) g2) hd
  ·rename_i e
   refine .inr (.inl ⟨hk',fun b hb hbe=>?_⟩)
   subst hbe
   exact e ((h.dist k' j _ _ _ hk' hj hb (by rw [hρ];rfl)).symm)
theorem triMapEntry {K V : Type} [BEq K] [ReflBEq K] {ek : K → Value} {ev : V → List D} {L L' : List (K × V)} {agg : Bool} {t kt et : TypeId} {x i : Operand} {j : Nat} {k : K} {zr : V} {yo : V × Bool} {z0 r : A1} (hg : mgetO L k zr = some yo) (hx : opnd F x = some (.s (.c (.own j)))) (hj : F.bl j = some (.mp agg (encM ek ev L))) (hi : rdV F i = some (ek k)) (ht : mapInfo P t = some (kt,et)) (hk : KeyOk P kt ek) (hz : zeroA P et = some z0) (hzn : z0.norm = rowA agg (ev zr)) (h1 : agg = false → ∀ x,(ev x).length = 1) (hr : rowA agg (ev yo.1) = r) (hL : msetL L k yo.1 = L') (hs : sideOk F true [x,i]) (hd : Nat.blt dst C.n = true) :
  TriL P C ops ⟨some dst,.mapEntry t x i,ty,pos,after,none⟩ ⟨slotsOf [x,i],[j],[dst],[j]⟩ [(dst,.tup [r,.c (.d (.v (.int .i64 (((midx L' k).getD 0 : Nat) : Int))))])] [(j,.mp agg (encM ek ev L'))] F:=by
 subst hr hL
 refine ⟨⟨rfl,rfl⟩,fun F' hS=>?_⟩
 have h2:=opnd_same hS.1
 have hj' : F'.bl j = some (.mp agg (encM ek ev L)):=(hS.2 j (by simp)).trans hj
 have hx':=(h2 x (by simp)).trans hx
 refine Tri.val [] rfl rfl hd (fun _ h=>by cases h) (fun k hk=>dom_over hk) (fun _ h=>by cases h) (fun ρ M a w hr=>?_)
 have hR:=reads_of hr rfl (sideOk_same h2 hs)
 have ex : a.eval x = ρ j:=opnd_rep hr hx'
 have ei:=rdV_eval hR (x:=i) (by simp) ((rdV_same (h2 i (by simp))).trans hi)
 obtain ⟨rr,es,clock,f,e1,q1,q2,q3,q4,q5,q6⟩:=hr.heap.inv j _ hj'
 have hs : es.size = L.length:=by rw [q3];simp [encM]
 have he : ∀ (n : Nat) p,L[n]? = some p → ∃ e,es[n]? = some e ∧ e.key = ek p.1:=fun n p hp=>by
  obtain ⟨born,hb⟩:=q4 n _ _ (encM_get (a:=p.1) (v:=p.2) hp)
  exact ⟨_,hb,rfl⟩
 obtain ⟨d,hu,g1,g2⟩:=hk.d
 obtain ⟨zv,z1,z2⟩:=zeroA_run hz w
 have hgo : (getObj rr).run P w = .ok (.map es clock) w:=by simp [getObj,Sem.run,q1]
 -- the value that stands there,and what is left
 obtain ⟨u,hu1,hu2⟩ : ∃ u,(Instr.mapEntry t (.map (some rr)) (ek k)).run P w = .ok (.tuple #[u,.int .i64 (((midx (msetL L k yo.1) k).getD 0 : Nat) : Int)]) { w with heap:=w.heap.setIfInBounds rr (.map (esSet ek L k u clock es) (clSet L k clock)) } ∧ ∀ ρ,(rowA agg (ev yo.1)).rep ρ M u:=by
  unfold Instr.mapEntry
  rw [run_bind_ok (mapInfo_run ht w)]
  simp only
  cases hm : midx L k with
  | none =>
   have hmg : mget1 L k = none:=by rw [mget1_eq,hm];rfl
   have hyo : yo = (zr,false):=by unfold mgetO at hg;rw [hmg] at hg;exact (Option.some.inj hg).symm
   refine ⟨zv,?_,fun ρ=>by rw [hyo,← hzn];exact A1.norm_rep (z2 ρ M)⟩
   rw [run_bind_ok hgo]
   simp only
   rw [run_bind_ok (g2 _ _ w),run_bind_ok (findKey_run hk hs he k w),hm]
   simp only [Option.bind_none]
   rw [run_bind_ok z1]
   have hix : (midx (msetL L k yo.1) k).getD 0 = clock:=by
    rw [msetL_eq,hm]
    show (midx (L ++ [(k,yo.1)]) k).getD 0 = clock
    rw [midx_app hm,q6.1,hs];rfl
   show (do setObj rr (.map (es.push { key:=ek k,val:=zv,born:=clock }) (clock + 1));pure (Value.tuple #[zv,goInt clock]) : Sem Value).run P w = _
   rw [run_bind_ok (setObj_heap q1),hix]
   unfold esSet clSet
   rw [hm]
   rfl
  | some n =>
   obtain ⟨p,hp,hkp⟩:=midx_spec hm
   obtain ⟨born,hb⟩:=q4 n _ _ (encM_get (a:=p.1) (v:=p.2) hp)
   have hkk : k = p.1:=hk.law _ _ hkp
   have hmg : mget1 L k = some p.2:=by rw [mget1_eq,hm];simp [hp]
   have hyo : yo = (p.2,true):=by unfold mgetO at hg;rw [hmg] at hg;exact (Option.some.inj hg).symm
   have hbn : born = n:=q6.2 n _ hb
   refine ⟨mkVal agg (ev p.2).length (f n),?_,fun ρ=>by rw [hyo];exact rowA_rep (fun h=>h1 h _) (fun jj d hd=>q5 n _ _ jj d (encM_get (a:=p.1) (v:=p.2) hp) hd)⟩
   rw [run_bind_ok hgo]
   simp only
   rw [run_bind_ok (g2 _ _ w),run_bind_ok (findKey_run hk hs he k w),hm]
   simp only [Option.bind_some,hb,Option.map_some,Option.getD_some]
   have hst : (Instr.keyThatStays (ek p.1) (ek k)).run P w = .ok (ek k) w:=by
    unfold Instr.keyThatStays
    rw [← hkk,hk.bits k k (by rw [← hkk] at hkp;exact hkp)]
    rfl
   rw [run_bind_ok hst,run_bind_ok (setObj_heap q1)]
   have hix : (midx (msetL L k yo.1) k).getD 0 = n:=by
    rw [msetL_eq,hm]
    show (midx (L.set n (k,yo.1)) k).getD 0 = n
    rw [midx_set hm];rfl
   rw [hix,hbn]
   unfold esSet clSet
   rw [hm]
   have hmod : es.modify n (fun e=>{ e with key:=ek k }) = es.modify n (fun e=>{ e with key:=ek k,val:=mkVal agg (ev p.2).length (f n) }):=by
    apply Array.ext_getElem?
    intro q
    rw [Array.getElem?_modify,Array.getElem?_modify]
    split
    ·rename_i e;subst e;rw [hb];rfl
    ·rfl
   simp only
   rw [← hmod]
   rfl
 refine ⟨_,{ w with heap:=w.heap.setIfInBounds rr (.map (esSet ek L k u clock es) (clSet L k clock)) },M,fun _=>undef,?_,Mem.le_refl _,fun ρ' h0 _=>⟨⟨#[u,.int .i64 (((midx (msetL L k yo.1) k).getD 0 : Nat) : Int)],rfl,hu2 ρ',Rep.v _,trivial⟩,?_⟩⟩
 ·unfold execOp
  simp only [ex,e1,ei]
  exact bind_value hu1
 ·have ex' : a.eval x = ρ' j:=opnd_rep h0 hx'
  exact h0.heap.mapSet hj' (by rw [← ex',ex,e1]) q1 (hu2 ρ') h1
theorem triEntryStore {K V : Type} [BEq K] {ek : K → Value} {ev : V → List D} {L L' : List (K × V)} {agg : Bool} {t kt et : TypeId} {x i y : Operand} {j n : Nat} {k : K} {z : V} {v : A1} (hn : midx L k = some n) (hx : opnd F x = some (.s (.c (.own j)))) (hj : F.bl j = some (.mp agg (encM ek ev L))) (hi : rdV F i = some (.int .i64 (n : Int))) (hy : opnd F y = some (.s v)) (hv : v.norm = rowA agg (ev z)) (_ht : mapInfo P t = some (kt,et)) (hk : KeyOk P kt ek) (h1 : agg = false → ∀ x,(ev x).length = 1) (hL : msetL L k z = L') (hs : sideOk F true [x,i,y]) :
  TriL P C ops ⟨none,.entryStore t x i y,ty,pos,after,none⟩ ⟨slotsOf [x,i,y],[j],[],[j]⟩ [] [(j,.mp agg (encM ek ev L'))] F:=by
 subst hL
 refine ⟨⟨rfl,rfl⟩,fun F' hS=>?_⟩
 have h2:=opnd_same hS.1
 have hj' : F'.bl j = some (.mp agg (encM ek ev L)):=(hS.2 j (by simp)).trans hj
 have hx':=(h2 x (by simp)).trans hx
 have hy':=(h2 y (by simp)).trans hy
 refine Tri.eff rfl rfl (fun k hk=>dom_over hk) (fun ρ M a w hr=>?_)
 have hR:=reads_of hr rfl (sideOk_same h2 hs)
 have ex : a.eval x = ρ j:=opnd_rep hr hx'
 have ei:=rdV_eval hR (x:=i) (by simp) ((rdV_same (h2 i (by simp))).trans hi)
 obtain ⟨rr,es,clock,f,e1,q1,q2,q3,q4,q5,q6⟩:=hr.heap.inv j _ hj'
 have hs : es.size = L.length:=by rw [q3];simp [encM]
 obtain ⟨p,hp,hkp⟩:=midx_spec hn
 obtain ⟨born,hb⟩:=q4 n _ _ (encM_get (a:=p.1) (v:=p.2) hp)
 have hkk : k = p.1:=hk.law _ _ hkp
 have hnl : n < es.size:=(Array.getElem?_eq_some_iff.1 hb).1
 have hfi : es.findIdx? (fun e=>(e.born : Int) == (n : Int)) = some n:=by
  rw [Array.findIdx?_eq_some_iff_getElem]
  refine ⟨hnl,?_,fun q hq=>?_⟩
  ·have:=q6.2 n _ (Array.getElem?_eq_getElem hnl)
   simp [this]
  ·have:=q6.2 q _ (Array.getElem?_eq_getElem (by omega))
   simp [this];omega
 have hmod : es.modify n (fun e=>{ e with val:=a.eval y }) = esSet ek L k (a.eval y) clock es:=by
  unfold esSet
  rw [hn]
  apply Array.ext_getElem?
  intro q
  rw [Array.getElem?_modify,Array.getElem?_modify]
  split
  ·rename_i e;subst e;rw [hb,hkk];rfl
  ·rfl
 refine ⟨{ w with heap:=w.heap.setIfInBounds rr (.map (esSet ek L k (a.eval y) clock es) (clSet L k clock)) },M,?_,Mem.le_refl _,fun ρ' h0=>?_⟩
 ·have hgo : (getObj rr).run P w = .ok (.map es clock) w:=by simp [getObj,Sem.run,q1]
  unfold execOp
  simp only [ex,e1,ei]
  have key : (Instr.entryStore t (.map (some rr)) (.int .i64 (n : Int)) (a.eval y)).run P w = .ok () { w with heap:=w.heap.setIfInBounds rr (.map (esSet ek L k (a.eval y) clock es) (clSet L k clock)) }:=by
   unfold Instr.entryStore
   simp only
   rw [run_bind_ok hgo]
   simp only
   have hai : (asInt (.int .i64 (n : Int))).run P w = .ok (n : Int) w:=rfl
   rw [run_bind_ok hai,hfi]
   simp only
   rw [hmod,show clSet L k clock = clock by unfold clSet;rw [hn]]
   exact setObj_heap q1
  show (do Instr.entryStore t (.map (some rr)) (.int .i64 (n : Int)) (a.eval y);pure Next.skip : Sem Next).run P w = _
  rw [run_bind_ok key]
  rfl
 ·have ex' : a.eval x = ρ' j:=opnd_rep h0 hx'
  have ey : v.rep ρ' M (a.eval y):=opnd_rep h0 hy'
  exact h0.heap.mapSet hj' (by rw [← ex',ex,e1]) q1 (by rw [← hv];exact A1.norm_rep ey) h1
def fitF (F : FS) (x : A1) : Bool:=match plain1 x with
 | true=>true
 | false=>singleF F x.cells
def fillF (F : FS) (pl : Nat → Option (Nat × Nat)) : List Cell → List Nat → List A1 → Option (List Cell)
 | cs,[],[]=>some cs
 | cs,i :: is,x :: r=>match pl i with
  | some (off,size)=>match fitF F x with
   | true=>match Nat.beq x.cells.length size with
    | true=>match Nat.ble (off + size) cs.length with
     | true=>fillF F pl (setCells cs off x.cells) is r
     | false=>none
    | false=>none
   | false=>none
  | none=>none
 | _,_,_=>none
def buildF (P : Program) (F : FS) (t : TypeId) (is : List Nat) (ps : List A1) : Option A1 :=
 match zeroCells P t with
 | some z=>match place P t with
  | some pl=>match fillF F pl (z.map zcell) is ps with
   | some cs=>some (.agg cs)
   | none=>none
  | none=>none
 | none=>none
theorem fillF_run {F : FS} {ρ : Env} {M : Mem} {w : World} (hF : RelW C F.bl ρ M w) {pl : Nat → Option (Nat × Nat)} : ∀ (is : List Nat) (ps : List A1) (us : List Value) (cs cs' : List Cell) (vs : List Value),fillF F pl cs is ps = some cs' → A1.reps ρ M ps us → Reps ρ M cs vs →
  ∃ vs',Instr.fill pl vs.toArray (is.zip us) = some vs'.toArray ∧ Reps ρ M cs' vs'
 | [],[],[],cs,cs',vs,h,_,hr=>by simp [fillF] at h;subst h;exact ⟨vs,rfl,hr⟩
 | [],[],_ :: _,_,_,_,_,hp,_=>hp.elim
 | i :: is,x :: r,[],_,_,_,_,hp,_=>hp.elim
 | i :: is,x :: r,u :: us,cs,cs',vs,h,hp,hr=>by
  simp only [fillF] at h
  split at h
  ·rename_i off size hpl
   split at h
   ·rename_i hpn
    split at h
    ·rename_i hl
     split at h
     ·rename_i hle
      have hl' : x.cells.length = size:=Nat.eq_of_beq_eq_true hl
      have hle':=Nat.le_of_ble_eq_true hle
      have hc : Reps ρ M x.cells u.cells.toList:=by
       unfold fitF at hpn
       split at hpn
       ·rename_i e;exact A1.cells_rep e hp.1
       ·exact cells_repF hF hpn hp.1
      have hcl:=hc.len
      have hvl:=hr.len
      simp only [List.zip_cons_cons,Instr.fill,hpl]
      rw [if_neg (by
       have : u.cells.size = size:=by simpa [hl'] using hcl
       simp [this,hvl];omega),fill_set]
      exact fillF_run hF is r us (setCells cs off x.cells) cs' _ h hp.2 (by simpa using Reps.setMany off hc hr)
     ·cases h
    ·cases h
   ·cases h
  ·cases h
 | [],_ :: _,_,_,_,_,h,_,_=>by simp [fillF] at h
 | _ :: _,[],_,_,_,_,h,_,_=>by simp [fillF] at h
theorem buildF_run {F : FS} {ρ : Env} {M : Mem} {w : World} (hF : RelW C F.bl ρ M w) {t : TypeId} {is : List Nat} {ps : List A1} {us : List Value} {x : A1} (h : buildF P F t is ps = some x) (hp : A1.reps ρ M ps us) :
  ∃ u,(Instr.build t (is.zip us).toArray).run P w = .ok u w ∧ x.rep ρ M u:=by
 unfold buildF at h
 split at h
 ·rename_i z hz
  split at h
  ·rename_i pl hpl
   split at h
   ·rename_i cs hcs
    cases h
    obtain ⟨zv,hzv,hzc⟩:=zeroCells_run hz w
    obtain ⟨vs',hf,hr'⟩:=fillF_run hF is ps us _ _ z hcs hp (Reps.zero z)
    refine ⟨.agg vs'.toArray,?_,_,rfl,hr'⟩
    unfold Instr.build
    rw [run_bind_ok hzv]
    unfold place at hpl
    split at hpl
    ·rename_i fs hu
     split at hpl
     ·rename_i l hl
      cases hpl
      have hun : (underlying t).run P w = .ok (.struct fs) w:=by simp [underlying,program,Sem.run,hu]
      rw [run_bind_ok hun]
      simp only
      have hm : (fs.mapM fun f=>(do pure (f.offset,← sizeOf f.type) : Sem (Nat × Nat))).run P w = .ok l.toArray w:=by
       rw [← Array.toArray_toList (xs:=fs),List.mapM_toArray,Sem.run_map]
       have:=placesOf_run fs.toList l hl w
       rw [this];rfl
      rw [run_bind_ok hm]
      have e1 : (fun i : Nat=>l.toArray[i]?) = (fun i : Nat=>l[i]?):=by funext i;simp
      simp only [e1,hzc,hf]
      rfl
     ·cases hpl
    ·rename_i n e hu
     split at hpl
     ·rename_i i hi
      cases hpl
      have hun : (underlying t).run P w = .ok (.array n e) w:=by simp [underlying,program,Sem.run,hu]
      rw [run_bind_ok hun]
      simp only
      have hm : (sizeOf e).run P w = .ok i.size w:=by simp [sizeOf,typeInfo,program,Sem.run,hi,bind,Sem.bind,pure]
      rw [run_bind_ok hm]
      simp only [hzc,hf]
      rfl
     ·cases hpl
    ·cases hpl
   ·cases h
  ·cases h
 ·cases h
def ownsAll : List A1 → List Nat
 | []=>[]
 | x :: r=>ownsC x.cells ++ ownsAll r
theorem fillF_same {F F' : FS} {pl : Nat → Option (Nat × Nat)} : ∀ (is : List Nat) (ps : List A1) (cs cs' : List Cell),(∀ j ∈ ownsAll ps,F'.bl j = F.bl j) → fillF F pl cs is ps = some cs' → fillF F' pl cs is ps = some cs'
 | [],[],cs,cs',_,h=>h
 | i :: is,x :: r,cs,cs',hb,h=>by
  simp only [fillF] at h ⊢
  split at h
  ·rename_i off size hpl
   split at h
   ·rename_i hpn
    have : fitF F' x = true:=by
     unfold fitF at hpn ⊢
     cases e : plain1 x with
     | true=>rfl
     | false =>
      rw [e] at hpn
      exact singleF_same (fun k hk=>hb k (by simp [ownsAll,hk])) hpn
    rw [this]
    split at h
    ·rename_i hl
     split at h
     ·rename_i hle
      exact fillF_same is r _ _ (fun k hk=>hb k (by simp [ownsAll,hk])) h
     ·cases h
    ·cases h
   ·cases h
  ·cases h
 | [],_ :: _,_,_,_,h=>by simp [fillF] at h
 | _ :: _,[],_,_,_,h=>by simp [fillF] at h
theorem triBuildF {t : TypeId} {parts : Array (Nat × Operand)} {ps : List A1} {x : A1} (hps : rds F (parts.toList.map (·.2)) = some ps) (h : buildF P F t (parts.toList.map (·.1)) ps = some x) (hs : sideOk F true (parts.toList.map (·.2))) (hd : Nat.blt dst C.n = true) :
  TriL P C ops ⟨some dst,.build t parts,ty,pos,after,none⟩ ⟨slotsOf (parts.toList.map (·.2)),ownsAll ps,[dst],[]⟩ [(dst,.s x)] [] F:=by
 refine ⟨⟨rfl,rfl⟩,fun F' hS=>?_⟩
 have h1:=opnd_same hS.1
 have h' : buildF P F' t (parts.toList.map (·.1)) ps = some x:=by
  unfold buildF at h ⊢
  split at h
  ·rename_i z hz
   split at h
   ·rename_i pl hpl
    split at h
    ·rename_i cs hcs
     rw [fillF_same _ _ _ _ (fun k hk=>hS.2 k hk) hcs];exact h
    ·cases h
   ·cases h
  ·cases h
 refine Tri.quiet rfl rfl hd (fun ρ M a w hr=>?_)
 have hR:=reads_of hr rfl (sideOk_same h1 hs)
 obtain ⟨u,g1,g2⟩:=buildF_run (P:=P) hr.heap h' (rds_rep hR ((rds_same h1).trans hps))
 refine ⟨u,?_,g2⟩
 unfold execOp
 simp only
 rw [zip_parts]
 exact bind_value g1
end Go.E2
end
section
namespace Go.Proofs.YtfoigppmcelgfaaDoor
open Go Go.E2
structure Rect where
 X : Int
 Y : Int
 W : Int
 H : Int
deriving Inhabited
def Rect.cs (x : Rect) : List Go.E2.D:=[dI x.X,dI x.Y,dI x.W,dI x.H]
structure Point where
 X : Int
 Y : Int
deriving Inhabited
def Point.cs (x : Point) : List Go.E2.D:=[dI x.X,dI x.Y]
structure Styled where
 ID : Int
 Style : (Nat → Int)
deriving Inhabited
def Styled.cs (x : Styled) : List Go.E2.D:=[dI x.ID,dI (x.Style 0),dI (x.Style 1),dI (x.Style 2),dI (x.Style 3),dI (x.Style 4),dI (x.Style 5),dI (x.Style 6),dI (x.Style 7),dI (x.Style 8),dI (x.Style 9),dI (x.Style 10),dI (x.Style 11),dI (x.Style 12),dI (x.Style 13),dI (x.Style 14),dI (x.Style 15),dI (x.Style 16),dI (x.Style 17),dI (x.Style 18),dI (x.Style 19),dI (x.Style 20),dI (x.Style 21)]
structure Offset where
 ID : Int
 Y : Int
deriving Inhabited
def Offset.cs (x : Offset) : List Go.E2.D:=[dI x.ID,dI x.Y]
structure Transform where
 Turn : Int
 Mirror : Bool
 Scale : Int
 DX : Int
 DY : Int
deriving Inhabited
def Transform.cs (x : Transform) : List Go.E2.D:=[dI x.Turn,dB x.Mirror,dI x.Scale,dI x.DX,dI x.DY]
structure Section where
 Top : Int
 Height : Int
 Header : Int
deriving Inhabited
def Section.cs (x : Section) : List Go.E2.D:=[dI x.Top,dI x.Height,dI x.Header]
structure FocusState where
 Focused : Int
 Visible : Bool
 Past : (List Int)
deriving Inhabited
def FocusState.cs (x : FocusState) : List Go.E2.D:=[dI x.Focused,dB x.Visible,.sl (List.map (eInt .i64) x.Past)]
structure Glyph where
 ID : Int
 Form : Int
 From : Int
 To : Int
 X : Int
 Advance : Int
 Font : Int
 Size : Int
deriving Inhabited
def Glyph.cs (x : Glyph) : List Go.E2.D:=[dI x.ID,dI x.Form,dI x.From,dI x.To,dI x.X,dI x.Advance,dI x.Font,dI x.Size]
structure Line where
 From : Int
 To : Int
 Level : Int
 X : Int
 Y : Int
 Width : Int
 Ascent : Int
 Descent : Int
 Height : Int
 Glyphs : (List Glyph)
deriving Inhabited
def Line.cs (x : Line) : List Go.E2.D:=[dI x.From,dI x.To,dI x.Level,dI x.X,dI x.Y,dI x.Width,dI x.Ascent,dI x.Descent,dI x.Height,.sl (List.map Glyph.cs x.Glyphs)]
structure Box where
 ID : Int
 Rect : Rect
 Baseline : Int
 Lines : (List Line)
deriving Inhabited
def Box.cs (x : Box) : List Go.E2.D:=[dI x.ID,dI x.Rect.X,dI x.Rect.Y,dI x.Rect.W,dI x.Rect.H,dI x.Baseline,.sl (List.map Line.cs x.Lines)]
def ge_within (p_n : Int) (most : Int) : Option Bool:=some ((decide (p_n ≥ (IntKind.i64.wrap (0 - most)))) && (decide (p_n ≤ most)))
def ge_Validate (p_r : Rect) : Option Int:=(ge_within p_r.X 1048576).bind fun x1=>(gO (!(!x1)) (ge_within p_r.Y 1048576)).bind fun x2=>sel ((((((!x1) || (!x2)) || (decide (p_r.W < 0))) || (decide (p_r.W > 1048576))) || (decide (p_r.H < 0))) || (decide (p_r.H > 1048576))) (some 1) (some 0)
def ge_valid (p_r : Rect) : Option Rect:=(ge_Validate p_r).bind fun x1=>sel (x1 != 0) (some (Rect.mk 0 0 0 0)) (some p_r)
def ge_Contains (p_r : Rect) (p : Point) : Option Bool:=(ge_valid p_r).bind fun x1=>some ((((decide (x1.X ≤ p.X)) && (decide (p.X < (IntKind.i64.wrap (x1.X + x1.W))))) && (decide (x1.Y ≤ p.Y))) && (decide (p.Y < (IntKind.i64.wrap (x1.Y + x1.H)))))
def ge_Check (t : Transform) : Option Int:=(gO (!((((decide (t.Turn < 0)) || (decide (t.Turn > 3))) || (decide (t.Scale < 1))) || (decide (t.Scale > 16)))) (ge_within t.DX 1048576)).bind fun x1=>(gO (!(((((decide (t.Turn < 0)) || (decide (t.Turn > 3))) || (decide (t.Scale < 1))) || (decide (t.Scale > 16))) || (!x1))) (ge_within t.DY 1048576)).bind fun x2=>sel ((((((decide (t.Turn < 0)) || (decide (t.Turn > 3))) || (decide (t.Scale < 1))) || (decide (t.Scale > 16))) || (!x1)) || (!x2)) (some 1) (some 0)
def ge_floor (a : Int) (b : Int) : Option Int:=(nzO b (IntKind.i64.wrap (a.tdiv b))).bind fun x1=>jn (fun (s2 : Int)=>some s2) fun k3=>(nzO b (a.tmod b)).bind fun x4=>sel (decide (x4 < 0)) (k3 (IntKind.i64.wrap (x1 - 1))) (k3 x1)
def ge_Back_L1 (t : Transform) (k8 : (Int × Int) → Option Point) (again13 : (Int × Int × Int) → Option Point) (s12 : Int × Int × Int) : Option Point:=sel (decide (s12.1 < t.Turn)) (again13 (IntKind.i64.wrap (s12.1 + 1),s12.2.2,IntKind.i64.wrap ((IntKind.i64.wrap (0 - s12.2.1)) - 1))) (k8 (s12.2.1,s12.2.2))
def ge_Back (t : Transform) (p : Point) : Option Point:=(ge_Check t).bind fun x1=>(gO (!(x1 != 0)) (ge_within p.X 2097152)).bind fun x2=>(gO (!((x1 != 0) || (!x2))) (ge_within p.Y 2097152)).bind fun x3=>sel (((x1 != 0) || (!x2)) || (!x3)) (some (Point.mk 0 0)) ((ge_floor (IntKind.i64.wrap (p.X - t.DX)) t.Scale).bind fun x5=>(ge_floor (IntKind.i64.wrap (p.Y - t.DY)) t.Scale).bind fun x6=>jn (fun (s7 : Int × Int)=>jn (fun (s9 : Int)=>some (Point.mk s9 s7.2)) fun k10=>sel t.Mirror (k10 (IntKind.i64.wrap ((IntKind.i64.wrap (0 - s7.1)) - 1))) (k10 s7.1)) fun k8=>loopK (ge_Back_L1 t k8) N0 (0,x5,x6))
def widgetry_style_exists (prop : Int) : Option Bool:=some ((decide (prop ≥ 0)) && (decide (prop < 22)))
def widgetry_style_InRange (prop : Int) (p_n : Int) : Option Bool:=(widgetry_style_exists prop).bind fun x1=>(gO x1 (idxO styProps prop)).bind fun x2=>(gO (x1 && (decide (p_n ≥ x2.2.1))) (idxO styProps prop)).bind fun x3=>some ((x1 && (decide (p_n ≥ x2.2.1))) && (decide (p_n ≤ x3.2.2.1)))
def r02_within (p_x : Int) (p_n : Int) : Option Bool:=some ((decide (p_x ≥ (IntKind.i64.wrap (0 - p_n)))) && (decide (p_x ≤ p_n)))
def r02_ValidRect (p_r : Rect) : Option Bool:=(r02_within p_r.X 1048576).bind fun x1=>(gO x1 (r02_within p_r.Y 1048576)).bind fun x2=>some (((((x1 && x2) && (decide (p_r.W ≥ 0))) && (decide (p_r.W ≤ 1048576))) && (decide (p_r.H ≥ 0))) && (decide (p_r.H ≤ 1048576)))
def r02_Contains (p_r : Rect) (p : Point) : Option Bool:=(r02_ValidRect p_r).bind fun x1=>some ((((x1 && (decide (p_r.X ≤ p.X))) && (decide (p.X < (IntKind.i64.wrap (p_r.X + p_r.W))))) && (decide (p_r.Y ≤ p.Y))) && (decide (p.Y < (IntKind.i64.wrap (p_r.Y + p_r.H)))))
def r17_Initial  : Option (Nat → Int):=some (upd (upd (upd (upd (upd (upd (upd (upd (fun _=>0) 1 (-1)) 2 16) 5 1) 6 3) 11 1) 12 (-1)) 14 1048576) 16 1048576)
def r21_Find_L1 (l : (List Box)) (id : Int) (k2 : Unit → Option (Box × Bool)) (again4 : Int → Option (Box × Bool)) (s3 : Int) : Option (Box × Bool):=sel (decide (s3 < (l.length : Int))) ((idxO l s3).bind fun x6=>sel (x6.ID == id) ((idxO l s3).bind fun x8=>some (x8,true)) (again4 (IntKind.i64.wrap (s3 + 1)))) (k2 ())
def r21_Find (l : (List Box)) (id : Int) : Option (Box × Bool):=jn (fun (_s1 : Unit)=>some ((Box.mk 0 (Rect.mk 0 0 0 0) 0 ([] : (List Line))),false)) fun k2=>loopK (r21_Find_L1 l id k2) N0 0
end Go.Proofs.YtfoigppmcelgfaaDoor
end
section
namespace Go.Proofs.YtfoigppmcelgfaaDoor
open Go Go.E2
end Go.Proofs.YtfoigppmcelgfaaDoor
end
section
namespace Go.Proofs.YtfoigppmcelgfaaDoor
open Go Go.E2
structure hit_child where
 id : Int
 x : Int
 y : Int
deriving Inhabited
def hit_child.cs (x : hit_child) : List Go.E2.D:=[dI x.id,dI x.x,dI x.y]
structure hit_origin where
 x : Int
 y : Int
deriving Inhabited
def hit_origin.cs (x : hit_origin) : List Go.E2.D:=[dI x.x,dI x.y]
structure hit_scene where
 root : Int
 nodes : (List (Int × Node))
 styles : (List (Int × (Nat → Int)))
 boxes : (List (Int × Box))
 offsets : (List (Int × Int))
deriving Inhabited
def hit_scene.cs (x : hit_scene) : List Go.E2.D:=[dI x.root,.mp true (encM (kInt .i64) Node.cs x.nodes),.mp true (encM (kInt .i64) (eArr 22 (dInt .i64)) x.styles),.mp true (encM (kInt .i64) Box.cs x.boxes),.mp false (encM (kInt .i64) (eInt .i64) x.offsets)]
def ht_look_L1 (offsets : (List Offset)) (k12 : (List (Int × Int)) → Option (hit_scene × Bool)) (again14 : (Int × (List (Int × Int))) → Option (hit_scene × Bool)) (s13 : Int × (List (Int × Int))) : Option (hit_scene × Bool):=sel (decide (s13.1 ≥ 0)) ((idxO offsets s13.1).bind fun x16=>sel ((decide (x16.Y < (-1099511627776))) || (decide (x16.Y > 1099511627776))) (some ((default : hit_scene),false)) (again14 (IntKind.i64.wrap (s13.1 - 1),msetL s13.2 x16.ID x16.Y))) (k12 s13.2)
def ht_look_L2 (boxes : (List Box)) (s3 : (List (Int × Node)) × (List (Int × (Nat → Int)))) (s5 : (List (Int × Box))) (k8 : Unit → Option (hit_scene × Bool)) (again21 : Int → Option (hit_scene × Bool)) (s20 : Int) : Option (hit_scene × Bool):=sel (decide (s20 < (boxes.length : Int))) ((idxO boxes s20).bind fun x23=>(mgetO s3.1 x23.ID (Node.mk 0 0 0 ByteArray.empty ([] : (List Attr)) ([] : (List Action)) ([] : (List Int)))).bind fun x24=>(mgetO s5 x24.1.Parent (Box.mk 0 (Rect.mk 0 0 0 0) 0 ([] : (List Line)))).bind fun x25=>sel ((!x24.2) || ((x24.1.Parent != 0) && (!x25.2))) (some ((default : hit_scene),false)) (again21 (IntKind.i64.wrap (s20 + 1)))) (k8 ())
def ht_look_L3 (boxes : (List Box)) (k6 : (List (Int × Box)) → Option (hit_scene × Bool)) (again28 : (Int × (List (Int × Box))) → Option (hit_scene × Bool)) (s27 : Int × (List (Int × Box))) : Option (hit_scene × Bool):=sel (decide (s27.1 < (boxes.length : Int))) ((idxO boxes s27.1).bind fun x30=>(gO (decide (s27.1 > 0)) (idxO boxes (IntKind.i64.wrap (s27.1 - 1)))).bind fun x31=>(gO (!((decide (s27.1 > 0)) && (decide (x30.ID ≤ x31.ID)))) (ge_Validate x30.Rect)).bind fun x32=>sel (((decide (s27.1 > 0)) && (decide (x30.ID ≤ x31.ID))) || (x32 != 0)) (some ((default : hit_scene),false)) (again28 (IntKind.i64.wrap (s27.1 + 1),msetL s27.2 x30.ID x30))) (k6 s27.2)
def ht_look_L4 (k43 : Unit → Option (hit_scene × Bool)) (x47 : Styled) (again49 : Int → Option (hit_scene × Bool)) (s48 : Int) : Option (hit_scene × Bool):=sel (decide (s48 < 22)) ((ixO 22 s48).bind fun x51=>(widgetry_style_InRange s48 (x47.Style x51)).bind fun x52=>sel (!x52) (some ((default : hit_scene),false)) (again49 (IntKind.i64.wrap (s48 + 1)))) (k43 ())
def ht_look_L5 (t : Tree) (st : (List Styled)) (k4 : ((List (Int × Node)) × (List (Int × (Nat → Int)))) → Option (hit_scene × Bool)) (again35 : (Int × (List (Int × Node)) × (List (Int × (Nat → Int)))) → Option (hit_scene × Bool)) (s34 : Int × (List (Int × Node)) × (List (Int × (Nat → Int)))) : Option (hit_scene × Bool):=sel (decide (s34.1 < (t.Nodes.length : Int))) (jn (fun (s37 : (List (Int × Node)) × (List (Int × (Nat → Int))))=>again35 (IntKind.i64.wrap (s34.1 + 1),s37.1,s37.2)) fun k38=>(idxO t.Nodes s34.1).bind fun x39=>(idxO st s34.1).bind fun x40=>sel (x40.ID != x39.ID) (some ((default : hit_scene),false)) (jn (fun (_s42 : Unit)=>(idxO st s34.1).bind fun x44=>(mgetO s34.2.1 x39.ID (Node.mk 0 0 0 ByteArray.empty ([] : (List Attr)) ([] : (List Action)) ([] : (List Int)))).bind fun _x45=>(mgetO s34.2.2 x39.ID (fun _=>0)).bind fun _x46=>k38 (msetL s34.2.1 x39.ID x39,msetL s34.2.2 x39.ID x44.Style)) fun k43=>(idxO st s34.1).bind fun x47=>loopK (ht_look_L4 k43 x47) N0 0)) (k4 (s34.2.1,s34.2.2))
def ht_look (t : Tree) (st : (List Styled)) (boxes : (List Box)) (offsets : (List Offset)) : Option (hit_scene × Bool):=(vw_Check t).bind fun x1=>sel ((x1 != 0) || ((st.length : Int) != (t.Nodes.length : Int))) (some ((default : hit_scene),false)) (jn (fun (s3 : (List (Int × Node)) × (List (Int × (Nat → Int))))=>jn (fun (s5 : (List (Int × Box)))=>jn (fun (_s7 : Unit)=>jn (fun (s9 : (List (Int × Int)))=>some ((hit_scene.mk t.Root s3.1 s3.2 s5 s9),true)) fun k10=>jn (fun (s11 : (List (Int × Int)))=>k10 s11) fun k12=>loopK (ht_look_L1 offsets k12) N0 (IntKind.i64.wrap ((offsets.length : Int) - 1),([] : (List (Int × Int))))) fun k8=>loopK (ht_look_L2 boxes s3 s5 k8) N0 0) fun k6=>loopK (ht_look_L3 boxes k6) N0 (0,([] : (List (Int × Box))))) fun k4=>loopK (ht_look_L5 t st k4) N0 (0,([] : (List (Int × Node))),([] : (List (Int × (Nat → Int))))))
def ht_valid (p : Point) : Option Bool:=some ((((decide (p.X ≥ (-2097152))) && (decide (p.X ≤ 2097152))) && (decide (p.Y ≥ (-2097152)))) && (decide (p.Y ≤ 2097152)))
end Go.Proofs.YtfoigppmcelgfaaDoor
end
section
namespace Go.Proofs.YtfoigppmcelgfaaDoor
open Go Go.E2
def vw_Attr_L1 (l : (List Attr)) (name : Str) (k2 : Unit → Option (AValue × Bool)) (again4 : Int → Option (AValue × Bool)) (s3 : Int) : Option (AValue × Bool):=sel (decide (s3 < (l.length : Int))) ((idxO l s3).bind fun x6=>sel (x6.Name.toList == name.toList) ((vw_value N0 x6.Value).bind fun x8=>some (x8,true)) (again4 (IntKind.i64.wrap (s3 + 1)))) (k2 ())
def vw_Attr (l : (List Attr)) (name : Str) : Option (AValue × Bool):=jn (fun (_s1 : Unit)=>some ((AValue.mk 0 0 ByteArray.empty ([] : (List AValue))),false)) fun k2=>loopK (vw_Attr_L1 l name k2) N0 0
def vw_Number (l : (List Attr)) (name : Str) (other : Int) : Option Int:=(vw_Attr l name).bind fun x1=>sel (x1.1.Kind == 1) (some x1.1.N) (some other)
def vw_Flag (l : (List Attr)) (name : Str) : Option Bool:=(vw_Attr l name).bind fun x1=>some ((x1.1.Kind == 2) && (x1.1.N == 1))
end Go.Proofs.YtfoigppmcelgfaaDoor
end
section
namespace Go.Proofs.YtfoigppmcelgfaaDoor
open Go Go.E2
def widgetry_scroll_within_1 (p_n : Int) : Option Bool:=some ((decide (p_n < (-1099511627776))) || (decide (p_n > 1099511627776)))
def sl_IndexFunc_within_L1 (p_s : (List Int)) (k2 : Unit → Option Int) (again4 : Int → Option Int) (s3 : Int) : Option Int:=sel (decide (s3 < (p_s.length : Int))) ((idxO p_s s3).bind fun x6=>(widgetry_scroll_within_1 x6).bind fun x7=>sel x7 (some s3) (again4 (IntKind.i64.wrap (s3 + 1)))) (k2 ())
def sl_IndexFunc_within (p_s : (List Int)) : Option Int:=jn (fun (_s1 : Unit)=>some (-1)) fun k2=>loopK (sl_IndexFunc_within_L1 p_s k2) N0 0
def sl_ContainsFunc_within (p_s : (List Int)) : Option Bool:=(sl_IndexFunc_within p_s).bind fun x1=>some (decide (x1 ≥ 0))
def widgetry_scroll_within (l : (List Int)) : Option Bool:=(sl_ContainsFunc_within l).bind fun x1=>some (!x1)
def widgetry_scroll_heights_1 (p_n : Int) : Option Bool:=some ((decide (p_n < 0)) || (decide (p_n > 1099511627776)))
def sl_IndexFunc_heights_L1 (p_s : (List Int)) (k2 : Unit → Option Int) (again4 : Int → Option Int) (s3 : Int) : Option Int:=sel (decide (s3 < (p_s.length : Int))) ((idxO p_s s3).bind fun x6=>(widgetry_scroll_heights_1 x6).bind fun x7=>sel x7 (some s3) (again4 (IntKind.i64.wrap (s3 + 1)))) (k2 ())
def sl_IndexFunc_heights (p_s : (List Int)) : Option Int:=jn (fun (_s1 : Unit)=>some (-1)) fun k2=>loopK (sl_IndexFunc_heights_L1 p_s k2) N0 0
def sl_ContainsFunc_heights (p_s : (List Int)) : Option Bool:=(sl_IndexFunc_heights p_s).bind fun x1=>some (decide (x1 ≥ 0))
def widgetry_scroll_heights (l : (List Int)) : Option Bool:=(sl_ContainsFunc_heights l).bind fun x1=>some (!x1)
def widgetry_scroll_Pinned_L1 (l : (List Section)) (offset : Int) (k4 : (List Int) → Option (List Int)) (again6 : ((List Int) × Int) → Option (List Int)) (s5 : (List Int) × Int) : Option (List Int):=sel (decide (s5.2 < (l.length : Int))) ((idxO l s5.2).bind fun x8=>(widgetry_scroll_within ([x8.Top])).bind fun x9=>(gO (!(!x9)) (widgetry_scroll_heights ([x8.Height,x8.Header]))).bind fun x10=>sel ((!x9) || (!x10)) (some ([] : (List Int))) (jn (fun (s12 : Int)=>(appO s5.1 ([s12])).bind fun x14=>again6 (x14,IntKind.i64.wrap (s5.2 + 1))) fun k13=>sel (decide (x8.Header ≤ x8.Height)) (k13 (mxI x8.Top (mnI offset (IntKind.i64.wrap ((IntKind.i64.wrap (x8.Top + x8.Height)) - x8.Header))))) (k13 x8.Top))) (k4 s5.1)
def widgetry_scroll_Pinned (l : (List Section)) (offset : Int) : Option (List Int):=(gO (!(decide ((l.length : Int) > 10000))) (widgetry_scroll_within ([offset]))).bind fun x1=>sel ((decide ((l.length : Int) > 10000)) || (!x1)) (some ([] : (List Int))) (jn (fun (s3 : (List Int))=>some s3) fun k4=>loopK (widgetry_scroll_Pinned_L1 l offset k4) N0 (([] : (List Int)),0))
def ht_scene_turn (p_s : hit_scene) (id : Int) (o : hit_origin) : Option (Transform × Bool):=(mgetO p_s.nodes id (Node.mk 0 0 0 ByteArray.empty ([] : (List Attr)) ([] : (List Action)) ([] : (List Int)))).bind fun x1=>(vw_Number x1.1.Attrs (ByteArray.mk #[116,117,114,110]) 0).bind fun x2=>(vw_Number x1.1.Attrs (ByteArray.mk #[115,99,97,108,101]) 1).bind fun x3=>sel (((((decide (x2 < 0)) || (decide (x2 > 3))) || (decide (x3 < 1))) || (decide (x3 > 16))) || ((x2 == 0) && (x3 == 1))) (some ((Transform.mk 0 false 0 0 0),false)) (some ((Transform.mk x2 false x3 o.x o.y),true))
def ht_scene_rect (p_s : hit_scene) (id : Int) (o : hit_origin) : Option Rect:=(mgetO p_s.boxes id (Box.mk 0 (Rect.mk 0 0 0 0) 0 ([] : (List Line)))).bind fun x1=>some (Rect.mk o.x o.y x1.1.Rect.W x1.1.Rect.H)
def ht_scene_pin_L1 (p_s : hit_scene) (p_n : Node) (k6 : Int → Option Int) (again13 : (Int × Int) → Option Int) (s12 : Int × Int) : Option Int:=sel (decide (s12.2 < (p_n.Kids.length : Int))) (jn (fun (s15 : Int)=>again13 (s15,IntKind.i64.wrap (s12.2 + 1))) fun k16=>(idxO p_n.Kids s12.2).bind fun x17=>(mgetO p_s.boxes x17 (Box.mk 0 (Rect.mk 0 0 0 0) 0 ([] : (List Line)))).bind fun x18=>sel x18.2 (k16 (mxI s12.1 (IntKind.i64.wrap (x18.1.Rect.Y + x18.1.Rect.H)))) (k16 s12.1)) (k6 s12.1)
def ht_scene_pin_L2 (p_s : hit_scene) (p_n : Node) (i : Int) (x2 : Box × Bool) (k4 : (Int × Bool) → Option Int) (again21 : Int → Option Int) (s20 : Int) : Option Int:=sel (decide (s20 < (p_n.Kids.length : Int))) (jn (fun (_s23 : Unit)=>again21 (IntKind.i64.wrap (s20 + 1))) fun k24=>(idxO p_n.Kids s20).bind fun x25=>(mgetO p_s.boxes x25 (Box.mk 0 (Rect.mk 0 0 0 0) 0 ([] : (List Line)))).bind fun x26=>sel (!x26.2) (k24 ()) ((gO (decide (s20 > i)) (mgetO p_s.nodes x25 (Node.mk 0 0 0 ByteArray.empty ([] : (List Attr)) ([] : (List Action)) ([] : (List Int))))).bind fun x28=>(gO (decide (s20 > i)) (vw_Flag x28.1.Attrs (ByteArray.mk #[112,105,110,110,101,100]))).bind fun x29=>sel ((decide (s20 > i)) && x29) (k4 (x26.1.Rect.Y,true)) (k24 ()))) (k4 (IntKind.i64.wrap (x2.1.Rect.Y + x2.1.Rect.H),false))
def ht_scene_pin (p_s : hit_scene) (p_n : Node) (i : Int) : Option Int:=(idxO p_n.Kids i).bind fun x1=>(mgetO p_s.boxes x1 (Box.mk 0 (Rect.mk 0 0 0 0) 0 ([] : (List Line)))).bind fun x2=>jn (fun (s3 : Int × Bool)=>jn (fun (s5 : Int)=>(mgetO p_s.offsets p_n.ID 0).bind fun x7=>(widgetry_scroll_Pinned ([(Section.mk x2.1.Rect.Y (mxI 0 (IntKind.i64.wrap (s5 - x2.1.Rect.Y))) x2.1.Rect.H)]) x7.1).bind fun x8=>sel ((x8.length : Int) == 0) (some x2.1.Rect.Y) ((idxO x8 0).bind fun x10=>some x10)) fun k6=>sel (!s3.2) (loopK (ht_scene_pin_L1 p_s p_n k6) N0 (s3.1,0)) (k6 s3.1)) fun k4=>loopK (ht_scene_pin_L2 p_s p_n i x2 k4) N0 0
def ht_meets (p_r : Rect) (frame : Rect) : Option Bool:=some (((((decide (p_r.W > 0)) && (decide (p_r.H > 0))) && (decide (frame.H > 0))) && (decide (p_r.Y < (IntKind.i64.wrap (frame.Y + frame.H))))) && (decide (frame.Y < (IntKind.i64.wrap (p_r.Y + p_r.H)))))
def ht_scene_children_L1 (p_s : hit_scene) (id : Int) (o : hit_origin) (x1 : Node × Bool) (x2 : Rect) (k4 : ((List hit_child) × (List hit_child)) → Option (List hit_child)) (again7 : ((List hit_child) × (List hit_child) × Int) → Option (List hit_child)) (s6 : (List hit_child) × (List hit_child) × Int) : Option (List hit_child):=sel (decide (s6.2.2 < (x1.1.Kids.length : Int))) (jn (fun (s9 : (List hit_child) × (List hit_child))=>again7 (s9.1,s9.2,IntKind.i64.wrap (s6.2.2 + 1))) fun k10=>(idxO x1.1.Kids s6.2.2).bind fun x11=>(mgetO p_s.boxes x11 (Box.mk 0 (Rect.mk 0 0 0 0) 0 ([] : (List Line)))).bind fun x12=>sel (!x12.2) (k10 (s6.1,s6.2.1)) (sel (!(x1.1.Kind == 8)) ((appO s6.1 ([(hit_child.mk x11 (IntKind.i64.wrap (o.x + x12.1.Rect.X)) (IntKind.i64.wrap (o.y + x12.1.Rect.Y)))])).bind fun x15=>k10 (x15,s6.2.1)) ((mgetO p_s.nodes x11 (Node.mk 0 0 0 ByteArray.empty ([] : (List Attr)) ([] : (List Action)) ([] : (List Int)))).bind fun x16=>(vw_Flag x16.1.Attrs (ByteArray.mk #[112,105,110,110,101,100])).bind fun x17=>sel x17 ((ht_scene_pin p_s x1.1 s6.2.2).bind fun x19=>(mgetO p_s.offsets id 0).bind fun x20=>(appO s6.2.1 ([(hit_child.mk x11 (IntKind.i64.wrap (o.x + x12.1.Rect.X)) (IntKind.i64.wrap ((IntKind.i64.wrap (o.y + x19)) - x20.1)))])).bind fun x21=>k10 (s6.1,x21)) ((mgetO p_s.offsets id 0).bind fun x22=>(ht_meets (Rect.mk (IntKind.i64.wrap (o.x + x12.1.Rect.X)) (IntKind.i64.wrap ((IntKind.i64.wrap (o.y + x12.1.Rect.Y)) - x22.1)) x12.1.Rect.W x12.1.Rect.H) x2).bind fun x23=>sel x23 ((appO s6.1 ([(hit_child.mk x11 (IntKind.i64.wrap (o.x + x12.1.Rect.X)) (IntKind.i64.wrap ((IntKind.i64.wrap (o.y + x12.1.Rect.Y)) - x22.1)))])).bind fun x25=>k10 (x25,s6.2.1)) (k10 (s6.1,s6.2.1)))))) (k4 (s6.1,s6.2.1))
def ht_scene_children (p_s : hit_scene) (id : Int) (o : hit_origin) : Option (List hit_child):=(mgetO p_s.nodes id (Node.mk 0 0 0 ByteArray.empty ([] : (List Attr)) ([] : (List Action)) ([] : (List Int)))).bind fun x1=>(ht_scene_rect p_s id o).bind fun x2=>jn (fun (s3 : (List hit_child) × (List hit_child))=>(appO s3.1 s3.2).bind fun x5=>some x5) fun k4=>loopK (ht_scene_children_L1 p_s id o x1 x2 k4) N0 (([] : (List hit_child)),([] : (List hit_child)),0)
def ht_scene_hits_L1 (self0 : hit_scene → Int → hit_origin → Point → Option (List Int)) (p_s : hit_scene) (id : Int) (s1 : Int × Int × Int × Int) (x14 : (List hit_child)) (k16 : Unit → Option (List Int)) (again18 : Int → Option (List Int)) (s17 : Int) : Option (List Int):=sel (decide (s17 ≥ 0)) ((idxO x14 s17).bind fun x20=>(self0 p_s x20.id (hit_origin.mk x20.x x20.y) (Point.mk s1.2.2.1 s1.2.2.2)).bind fun x21=>sel (decide ((x21.length : Int) > 0)) ((appO ([id]) x21).bind fun x23=>some x23) (again18 (IntKind.i64.wrap (s17 - 1)))) (k16 ())
def ht_scene_hits_B (self0 : hit_scene → Int → hit_origin → Point → Option (List Int)) (p_s : hit_scene) (id : Int) (o : hit_origin) (p : Point) : Option (List Int):=jn (fun (s1 : Int × Int × Int × Int)=>(ht_scene_rect p_s id (hit_origin.mk s1.1 s1.2.1)).bind fun x3=>jn (fun (_s4 : Unit)=>(mgetO p_s.styles id (fun _=>0)).bind fun x6=>(gO ((x6.1 21) == 0) (mgetO p_s.nodes id (Node.mk 0 0 0 ByteArray.empty ([] : (List Attr)) ([] : (List Action)) ([] : (List Int))))).bind fun x7=>(gO ((x6.1 21) == 0) (vw_Flag x7.1.Attrs (ByteArray.mk #[112,97,115,115]))).bind fun x8=>(gO (((x6.1 21) == 0) && (!x8)) (ge_Contains x3 (Point.mk s1.2.2.1 s1.2.2.2))).bind fun x9=>sel ((((x6.1 21) == 0) && (!x8)) && x9) (some ([id])) (some ([] : (List Int)))) fun k5=>(mgetO p_s.nodes id (Node.mk 0 0 0 ByteArray.empty ([] : (List Attr)) ([] : (List Action)) ([] : (List Int)))).bind fun x11=>(gO (!(x11.1.Kind != 8)) (ge_Contains x3 (Point.mk s1.2.2.1 s1.2.2.2))).bind fun x12=>sel ((x11.1.Kind != 8) || x12) ((ht_scene_children p_s id (hit_origin.mk s1.1 s1.2.1)).bind fun x14=>jn (fun (_s15 : Unit)=>k5 ()) fun k16=>loopK (ht_scene_hits_L1 self0 p_s id s1 x14 k16) N0 (IntKind.i64.wrap ((x14.length : Int) - 1))) (k5 ())) fun k2=>(ht_scene_turn p_s id o).bind fun x26=>sel x26.2 ((ge_Check x26.1).bind fun x28=>sel (x28 != 0) (some ([] : (List Int))) ((ge_Back x26.1 p).bind fun x30=>(ht_valid x30).bind fun x31=>sel (!x31) (some ([] : (List Int))) (k2 (0,0,x30.X,x30.Y)))) (k2 (o.x,o.y,p.X,p.Y))
def ht_scene_hits : Nat → hit_scene → Int → hit_origin → Point → Option (List Int)
 | 0,_,_,_,_=>none
 | n + 1,p_s,id,o,p=>ht_scene_hits_B (ht_scene_hits n) p_s id o p
def ht_Test (t : Tree) (st : (List Styled)) (boxes : (List Box)) (offsets : (List Offset)) (p : Point) : Option (List Int):=(ht_look t st boxes offsets).bind fun x1=>sel x1.2 ((gO (!(!true)) (ht_valid p)).bind fun x2=>sel ((!true) || (!x2)) (some ([] : (List Int))) ((mgetO x1.1.boxes x1.1.root (Box.mk 0 (Rect.mk 0 0 0 0) 0 ([] : (List Line)))).bind fun x4=>sel (!x4.2) (some ([] : (List Int))) ((ht_scene_hits N0 x1.1 x1.1.root (hit_origin.mk x4.1.Rect.X x4.1.Rect.Y) p).bind fun x6=>some x6))) ((gO (!(!false)) (ht_valid p)).bind fun _x2=>some ([] : (List Int)))
end Go.Proofs.YtfoigppmcelgfaaDoor
end
section
namespace Go.Proofs.YtfoigppmcelgfaaDoor
open Go Go.E2
def r11_join_B (self0 : AType → AType → Option (AType × Bool)) (a : AType) (b : AType) : Option (AType × Bool):=sel (a.Kind != b.Kind) (some ((AType.mk 0 ([] : (List AType))),false)) (sel ((a.Of.length : Int) == 0) (some (b,true)) (sel ((b.Of.length : Int) == 0) (some (a,true)) ((idxO a.Of 0).bind fun x4=>(idxO b.Of 0).bind fun x5=>(self0 x4 x5).bind fun x6=>sel (!x6.2) (some ((AType.mk 0 ([] : (List AType))),false)) (some ((AType.mk a.Kind ([x6.1])),true)))))
def r11_join : Nat → AType → AType → Option (AType × Bool)
 | 0,_,_=>none
 | n + 1,a,b=>r11_join_B (r11_join n) a b
def r11_check_L1 (self0 : AValue → Int → Int → Option (AType × Int × Int)) (v : AValue) (depth : Int) (k8 : (Int × Bool × (List AType)) → Option (AType × Int × Int)) (again11 : (Int × Bool × Int × (List AType)) → Option (AType × Int × Int)) (s10 : Int × Bool × Int × (List AType)) : Option (AType × Int × Int):=sel (decide (s10.2.2.1 < (v.L.length : Int))) (jn (fun (s13 : Int × Bool × (List AType))=>again11 (s13.1,s13.2.1,IntKind.i64.wrap (s10.2.2.1 + 1),s13.2.2)) fun k14=>(idxO v.L s10.2.2.1).bind fun x15=>(self0 x15 (IntKind.i64.wrap (depth + 1)) s10.1).bind fun x16=>sel (x16.2.2 != 0) (some ((AType.mk 0 ([] : (List AType))),x16.2.1,x16.2.2)) (sel (!s10.2.1) (k14 (x16.2.1,s10.2.1,s10.2.2.2)) (sel ((s10.2.2.2.length : Int) == 0) (k14 (x16.2.1,s10.2.1,[x16.1])) ((idxO s10.2.2.2 0).bind fun x20=>(r11_join N0 x20 x16.1).bind fun x21=>k14 (x16.2.1,x21.2,[x21.1]))))) (k8 (s10.1,s10.2.1,s10.2.2.2))
def r11_check_B (self0 : AValue → Int → Int → Option (AType × Int × Int)) (v : AValue) (depth : Int) (met : Int) : Option (AType × Int × Int):=sel ((v.Kind == 4) && (decide (depth > 16))) (some ((AType.mk 0 ([] : (List AType))),IntKind.i64.wrap (met + 1),8)) (sel (((((decide (v.Kind < 1)) || (decide (v.Kind > 4))) || (((v.N != 0) && (v.Kind != 1)) && (v.Kind != 2))) || ((!(v.S.toList == (ByteArray.mk #[]).toList)) && (v.Kind != 3))) || ((decide ((v.L.length : Int) > 0)) && (!(v.Kind == 4)))) (some ((AType.mk 0 ([] : (List AType))),IntKind.i64.wrap (met + 1),9)) (sel (((v.Kind == 1) && ((decide (v.N < (-1099511627776))) || (decide (v.N > 1099511627776)))) || (((v.Kind == 2) && (v.N != 0)) && (v.N != 1))) (some ((AType.mk 0 ([] : (List AType))),IntKind.i64.wrap (met + 1),1)) (sel (((decide ((v.S.size : Int) > 2000)) || (decide ((v.L.length : Int) > 100))) || (decide ((IntKind.i64.wrap (met + 1)) > 1000))) (some ((AType.mk 0 ([] : (List AType))),IntKind.i64.wrap (met + 1),2)) ((r11_UTF8 v.S).bind fun x5=>sel (!x5) (some ((AType.mk 0 ([] : (List AType))),IntKind.i64.wrap (met + 1),3)) (jn (fun (s7 : Int × Bool × (List AType))=>sel (!s7.2.1) (some ((AType.mk 0 ([] : (List AType))),s7.1,5)) (some ((AType.mk v.Kind s7.2.2),s7.1,0))) fun k8=>loopK (r11_check_L1 self0 v depth k8) N0 (IntKind.i64.wrap (met + 1),true,0,([] : (List AType))))))))
def r11_check : Nat → AValue → Int → Int → Option (AType × Int × Int)
 | 0,_,_,_=>none
 | n + 1,v,depth,met=>r11_check_B (r11_check n) v depth met
def r11_TypeOf (v : AValue) : Option (AType × Int):=(r11_check N0 v 1 0).bind fun x1=>some (x1.1,x1.2.2)
def r11_Check (v : AValue) : Option Int:=(r11_TypeOf v).bind fun x1=>some x1.2
end Go.Proofs.YtfoigppmcelgfaaDoor
end
section
namespace Go.Proofs.YtfoigppmcelgfaaDoor
open Go Go.E2
def r14_validate_L1 (self0 : View → Int → Int → Option (Int × Int)) (v : View) (depth : Int) (k14 : Int → Option (Int × Int)) (again16 : (Int × Int) → Option (Int × Int)) (s15 : Int × Int) : Option (Int × Int):=sel (decide (s15.2 < (v.Kids.length : Int))) ((idxO v.Kids s15.2).bind fun x18=>(self0 x18 (IntKind.i64.wrap (depth + 1)) s15.1).bind fun x19=>sel (x19.2 != 0) (some (x19.1,x19.2)) (again16 (x19.1,IntKind.i64.wrap (s15.2 + 1)))) (k14 s15.1)
def r14_validate_L2 (v : View) (met : Int) (s21 : Int) (k27 : Unit → Option (Int × Int)) (again29 : Int → Option (Int × Int)) (s28 : Int) : Option (Int × Int):=sel (decide (s28 < s21)) ((idxO v.Kids s21).bind fun x31=>(gO (!(x31.Key.toList == (ByteArray.mk #[]).toList)) (idxO v.Kids s21)).bind fun x32=>(gO (!(x31.Key.toList == (ByteArray.mk #[]).toList)) (idxO v.Kids s28)).bind fun x33=>sel ((!(x31.Key.toList == (ByteArray.mk #[]).toList)) && (x32.Key.toList == x33.Key.toList)) (some (IntKind.i64.wrap (met + 1),6)) (again29 (IntKind.i64.wrap (s28 + 1)))) (k27 ())
def r14_validate_L3 (v : View) (met : Int) (k12 : Unit → Option (Int × Int)) (again22 : Int → Option (Int × Int)) (s21 : Int) : Option (Int × Int):=sel (decide (s21 < (v.Kids.length : Int))) (jn (fun (_s24 : Unit)=>again22 (IntKind.i64.wrap (s21 + 1))) fun k25=>jn (fun (_s26 : Unit)=>k25 ()) fun k27=>loopK (r14_validate_L2 v met s21 k27) N0 0) (k12 ())
def r14_validate_L4 (met : Int) (x40 : Action) (k48 : Unit → Option (Int × Int)) (again50 : Int → Option (Int × Int)) (s49 : Int) : Option (Int × Int):=sel (decide (s49 < (x40.Args.length : Int))) ((idxO x40.Args s49).bind fun x52=>(r11_Check x52).bind fun x53=>sel (x53 != 0) (some (IntKind.i64.wrap (met + 1),x53)) (again50 (IntKind.i64.wrap (s49 + 1)))) (k48 ())
def r14_validate_L5 (v : View) (met : Int) (k10 : Unit → Option (Int × Int)) (again36 : Int → Option (Int × Int)) (s35 : Int) : Option (Int × Int):=sel (decide (s35 < (v.Actions.length : Int))) (jn (fun (_s38 : Unit)=>again36 (IntKind.i64.wrap (s35 + 1))) fun k39=>(idxO v.Actions s35).bind fun x40=>(r11_Name x40.Event).bind fun x41=>(gO (!(!x41)) (r11_Name x40.Handler)).bind fun x42=>sel ((!x41) || (!x42)) (some (IntKind.i64.wrap (met + 1),4)) ((gO (decide (s35 > 0)) (idxO v.Actions (IntKind.i64.wrap (s35 - 1)))).bind fun x44=>sel ((decide (s35 > 0)) && (Op.bytesLess x40.Event.toList x44.Event.toList || x40.Event.toList == x44.Event.toList)) (some (IntKind.i64.wrap (met + 1),10)) (sel ((decide ((x40.Instance.size : Int) > 400)) || (decide ((x40.Args.length : Int) > 100))) (some (IntKind.i64.wrap (met + 1),2)) (jn (fun (_s47 : Unit)=>k39 ()) fun k48=>loopK (r14_validate_L4 met x40 k48) N0 0)))) (k10 ())
def r14_validate_L6 (v : View) (met : Int) (k8 : Unit → Option (Int × Int)) (again56 : Int → Option (Int × Int)) (s55 : Int) : Option (Int × Int):=sel (decide (s55 < (v.Attrs.length : Int))) ((idxO v.Attrs s55).bind fun x58=>(r11_Name x58.Name).bind fun x59=>sel (!x59) (some (IntKind.i64.wrap (met + 1),4)) ((gO (decide (s55 > 0)) (idxO v.Attrs s55)).bind fun x61=>(gO (decide (s55 > 0)) (idxO v.Attrs (IntKind.i64.wrap (s55 - 1)))).bind fun x62=>sel ((decide (s55 > 0)) && (Op.bytesLess x61.Name.toList x62.Name.toList || x61.Name.toList == x62.Name.toList)) (some (IntKind.i64.wrap (met + 1),10)) ((idxO v.Attrs s55).bind fun x64=>(r11_Check x64.Value).bind fun x65=>sel (x65 != 0) (some (IntKind.i64.wrap (met + 1),x65)) (again56 (IntKind.i64.wrap (s55 + 1)))))) (k8 ())
def r14_validate_B (self0 : View → Int → Int → Option (Int × Int)) (v : View) (depth : Int) (met : Int) : Option (Int × Int):=sel (decide (depth > 16)) (some (IntKind.i64.wrap (met + 1),8)) (sel (decide ((IntKind.i64.wrap (met + 1)) > 400)) (some (IntKind.i64.wrap (met + 1),2)) (sel ((decide (v.Kind < 1)) || (decide (v.Kind > 13))) (some (IntKind.i64.wrap (met + 1),9)) ((r14_Key v.Key).bind fun x4=>sel (!x4) (some (IntKind.i64.wrap (met + 1),4)) (sel (((decide ((v.Attrs.length : Int) > 24)) || (decide ((v.Actions.length : Int) > 24))) || (decide ((v.Kids.length : Int) > 100))) (some (IntKind.i64.wrap (met + 1),2)) (jn (fun (_s7 : Unit)=>jn (fun (_s9 : Unit)=>jn (fun (_s11 : Unit)=>jn (fun (s13 : Int)=>some (s13,0)) fun k14=>loopK (r14_validate_L1 self0 v depth k14) N0 (IntKind.i64.wrap (met + 1),0)) fun k12=>loopK (r14_validate_L3 v met k12) N0 0) fun k10=>loopK (r14_validate_L5 v met k10) N0 0) fun k8=>loopK (r14_validate_L6 v met k8) N0 0)))))
def r14_validate : Nat → View → Int → Int → Option (Int × Int)
 | 0,_,_,_=>none
 | n + 1,v,depth,met=>r14_validate_B (r14_validate n) v depth met
def r14_Validate (v : View) : Option Int:=(r14_validate N0 v 1 0).bind fun x1=>some x1.2
end Go.Proofs.YtfoigppmcelgfaaDoor
end
section
namespace Go.Proofs.YtfoigppmcelgfaaDoor
open Go Go.E2
def r14_build_L1 (self0 : View → Int → Tree → Option Tree) (v : View) (t : Tree) (k3 : ((List Int) × Int × Int × (List Node)) → Option Tree) (again7 : ((List Int) × Int × Int × Int × (List Node)) → Option Tree) (s6 : (List Int) × Int × Int × Int × (List Node)) : Option Tree:=sel (decide (s6.2.1 < (v.Kids.length : Int))) ((appO s6.1 ([s6.2.2.2.1])).bind fun x9=>(idxO v.Kids s6.2.1).bind fun x10=>(self0 x10 t.Next (Tree.mk s6.2.2.1 s6.2.2.2.1 s6.2.2.2.2)).bind fun x11=>again7 (x9,IntKind.i64.wrap (s6.2.1 + 1),x11.Root,x11.Next,x11.Nodes)) (k3 (s6.1,s6.2.2.1,s6.2.2.2.1,s6.2.2.2.2))
def r14_build_B (self0 : View → Int → Tree → Option Tree) (v : View) (parent : Int) (t : Tree) : Option Tree:=(appO t.Nodes ([(Node.mk t.Next parent v.Kind v.Key v.Attrs v.Actions ([] : (List Int)))])).bind fun x1=>jn (fun (s2 : (List Int) × Int × Int × (List Node))=>(ixO s2.2.2.2.length (t.Nodes.length : Int)).bind fun x4=>(s2.2.2.2[x4]?).bind fun x5=>some (Tree.mk s2.2.1 s2.2.2.1 (List.set s2.2.2.2 x4 (Node.mk x5.ID x5.Parent x5.Kind x5.Key x5.Attrs x5.Actions s2.1)))) fun k3=>loopK (r14_build_L1 self0 v t k3) N0 (([] : (List Int)),0,t.Root,IntKind.i64.wrap (t.Next + 1),x1)
def r14_build : Nat → View → Int → Tree → Option Tree
 | 0,_,_,_=>none
 | n + 1,v,parent,t=>r14_build_B (r14_build n) v parent t
def r14_Build (v : View) (next : Int) : Option (Tree × Int):=(r14_Validate v).bind fun x1=>sel (x1 != 0) (some ((Tree.mk 0 0 ([] : (List Node))),x1)) (sel ((decide (next < 1)) || (decide (next > 1099511627376))) (some ((Tree.mk 0 0 ([] : (List Node))),1)) ((r14_build N0 v 0 (Tree.mk next next ([] : (List Node)))).bind fun x4=>some (x4,0)))
end Go.Proofs.YtfoigppmcelgfaaDoor
end
section
namespace Go.Proofs.YtfoigppmcelgfaaDoor
open Go Go.E2
structure widgetrybase_Src where
 L : (List Int)
 At : Int
deriving Inhabited
def widgetrybase_Src.cs (x : widgetrybase_Src) : List Go.E2.D:=[.sl (List.map (eInt .i64) x.L),dI x.At]
def b_New (l : (List Int)) : Option widgetrybase_Src:=jn (fun (s1 : (List Int))=>some (widgetrybase_Src.mk s1 0)) fun k2=>sel (decide ((l.length : Int) > 4000)) ((slcO l 0 4000).bind fun x4=>k2 x4) (k2 l)
def b_Src_N (p_s : widgetrybase_Src) (p_n : Int) : Option (Int × widgetrybase_Src):=sel ((decide (p_s.At ≥ (p_s.L.length : Int))) || (decide (p_n < 1))) (some (0,p_s)) ((idxO p_s.L p_s.At).bind fun x2=>(nzO p_n (x2.tmod p_n)).bind fun x3=>jn (fun (s4 : Int)=>some (s4,(widgetrybase_Src.mk p_s.L (IntKind.i64.wrap (p_s.At + 1))))) fun k5=>sel (decide (x3 < 0)) (k5 (IntKind.i64.wrap (x3 + p_n))) (k5 x3))
def b_Src_Range (p_s : widgetrybase_Src) (low : Int) (high : Int) : Option (Int × widgetrybase_Src):=(b_Src_N p_s (IntKind.i64.wrap ((IntKind.i64.wrap (high - low)) + 1))).bind fun x1=>some (IntKind.i64.wrap (low + x1.1),x1.2)
end Go.Proofs.YtfoigppmcelgfaaDoor
end
section
namespace Go.Proofs.YtfoigppmcelgfaaDoor
open Go Go.E2
def l29_awake_L1 (k3 : ((List Styled) × (List Box)) → Option Bool) (again8 : ((List Styled) × (List Box) × Int) → Option Bool) (s7 : (List Styled) × (List Box) × Int) : Option Bool:=sel (decide (s7.2.2 ≤ 3)) ((r17_Initial).bind fun x10=>(appO s7.1 ([(Styled.mk s7.2.2 x10)])).bind fun x11=>(appO s7.2.1 ([(Box.mk s7.2.2 (Rect.mk (IntKind.i64.wrap (2 * s7.2.2)) 0 10 10) 0 ([] : (List Line)))])).bind fun x12=>again8 (x11,x12,IntKind.i64.wrap (s7.2.2 + 1))) (k3 (s7.1,s7.2.1))
def l29_awake  : Option Bool:=(r14_Build (View.mk 1 ByteArray.empty ([] : (List Attr)) ([] : (List Action)) ([(View.mk 1 ByteArray.empty ([] : (List Attr)) ([] : (List Action)) ([] : (List View))),(View.mk 1 ByteArray.empty ([] : (List Attr)) ([] : (List Action)) ([] : (List View)))])) 1).bind fun x1=>jn (fun (s2 : (List Styled) × (List Box))=>(ht_Test x1.1 s2.1 s2.2 ([] : (List Offset)) (Point.mk 10 5)).bind fun x4=>(gO ((x4.length : Int) == 2) (idxO x4 0)).bind fun x5=>(gO (((x4.length : Int) == 2) && (x5 == 1)) (idxO x4 1)).bind fun x6=>some ((((x4.length : Int) == 2) && (x5 == 1)) && (x6 == 3))) fun k3=>loopK (l29_awake_L1 k3) N0 (([] : (List Styled)),([] : (List Box)),1)
def l29_HitOrder_L1 (s4 : (List Box) × (List Styled) × (List Int) × Int × (List View)) (x16 : Int × widgetrybase_Src) (x17 : Int × widgetrybase_Src) (k19 : Int → Option Bool) (again25 : (Int × Int) → Option Bool) (s24 : Int × Int) : Option Bool:=sel (decide (s24.2 < (s4.1.length : Int))) (jn (fun (s27 : Int)=>again25 (s27,IntKind.i64.wrap (s24.2 + 1))) fun k28=>(idxO s4.1 s24.2).bind fun x29=>(r02_Contains x29.Rect (Point.mk x16.1 x17.1)).bind fun x30=>sel x30 ((idxO s4.1 s24.2).bind fun x32=>k28 x32.ID) (k28 s24.1)) (k19 s24.1)
def l29_HitOrder_L2 (s4 : (List Box) × (List Styled) × (List Int) × Int × (List View)) (x6 : Tree × Int) (k8 : Unit → Option Bool) (again12 : (Int × (List Int) × Int) → Option Bool) (s11 : Int × (List Int) × Int) : Option Bool:=sel (decide (s11.1 < 8)) (jn (fun (s14 : (List Int) × Int)=>again12 (IntKind.i64.wrap (s11.1 + 1),s14.1,s14.2)) fun k15=>(b_Src_Range (widgetrybase_Src.mk s11.2.1 s11.2.2) (-25) 75).bind fun x16=>(b_Src_Range x16.2 (-25) 75).bind fun x17=>jn (fun (s18 : Int)=>(ht_Test x6.1 s4.2.1 s4.1 ([] : (List Offset)) (Point.mk x16.1 x17.1)).bind fun x20=>sel ((s18 == 0) != ((x20.length : Int) == 0)) (some false) ((gO ((decide (s18 > 0)) && (decide ((x20.length : Int) > 0))) (idxO x20 (IntKind.i64.wrap ((x20.length : Int) - 1)))).bind fun x22=>sel (((decide (s18 > 0)) && (decide ((x20.length : Int) > 0))) && (x22 != s18)) (some false) (k15 (x17.2.L,x17.2.At)))) fun k19=>loopK (l29_HitOrder_L1 s4 x16 x17 k19) N0 (0,0)) (k8 ())
def l29_HitOrder_L3 (x2 : Int × widgetrybase_Src) (k5 : ((List Box) × (List Styled) × (List Int) × Int × (List View)) → Option Bool) (again34 : ((List Box) × (List Styled) × Int × (List Int) × Int × (List View)) → Option Bool) (s33 : (List Box) × (List Styled) × Int × (List Int) × Int × (List View)) : Option Bool:=sel (decide (s33.2.2.1 < x2.1)) ((appO s33.2.2.2.2.2 ([(View.mk 3 ByteArray.empty ([] : (List Attr)) ([] : (List Action)) ([] : (List View)))])).bind fun x36=>(b_Src_Range (widgetrybase_Src.mk s33.2.2.2.1 s33.2.2.2.2.1) (-20) 40).bind fun x37=>(b_Src_Range x37.2 (-20) 40).bind fun x38=>(b_Src_N x38.2 40).bind fun x39=>(b_Src_N x39.2 40).bind fun x40=>(appO s33.1 ([(Box.mk (IntKind.i64.wrap (s33.2.2.1 + 2)) (Rect.mk x37.1 x38.1 x39.1 x40.1) 0 ([] : (List Line)))])).bind fun x41=>(r17_Initial).bind fun x42=>(appO s33.2.1 ([(Styled.mk (IntKind.i64.wrap (s33.2.2.1 + 2)) x42)])).bind fun x43=>again34 (x41,x43,IntKind.i64.wrap (s33.2.2.1 + 1),x40.2.L,x40.2.At,x36)) (k5 (s33.1,s33.2.1,s33.2.2.2.1,s33.2.2.2.2.1,s33.2.2.2.2.2))
def l29_HitOrder (l : (List Int)) : Option Bool:=(b_New l).bind fun x1=>(b_Src_Range x1 1 8).bind fun x2=>(r17_Initial).bind fun x3=>jn (fun (s4 : (List Box) × (List Styled) × (List Int) × Int × (List View))=>(r14_Build (View.mk 1 ByteArray.empty ([] : (List Attr)) ([] : (List Action)) s4.2.2.2.2) 1).bind fun x6=>jn (fun (_s7 : Unit)=>(r21_Find s4.1 1).bind fun x9=>(gO x9.2 l29_awake).bind fun x10=>some (x9.2 && x10)) fun k8=>loopK (l29_HitOrder_L2 s4 x6 k8) N0 (0,s4.2.2.1,s4.2.2.2.1)) fun k5=>loopK (l29_HitOrder_L3 x2 k5) N0 ([(Box.mk 1 (Rect.mk 0 0 50 50) 0 ([] : (List Line)))],[(Styled.mk 1 x3)],0,x2.2.L,x2.2.At,([] : (List View)))
end Go.Proofs.YtfoigppmcelgfaaDoor
end

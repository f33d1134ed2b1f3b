/-
  Part 2 of the texts under the law ShortcutBack: the calculus, the plain functions, their walks, plain facts.
-/
import Derived.Test.YtobiohcdpfpefaaDoorShortcutBackB1
import Derived.KernelRfl
import Derived.ProofKit
import Derived.OpenShut
import Derived.ShutString
import Derived.ChangeOld
import Derived.Below
import Derived.Carry
import Derived.Test.YtobiohcdpfpefaaDoorProg
import Derived.Shelf.Strings.OnBuilder
import Derived.Shelf.Strings.FieldsFuncAny
import Derived.WalkKit
import Derived.Shelf.Unicode.DecodeAny
import Derived.Shelf.Strings.BuilderK
import Derived.Shelf.Strings.BuilderRune
import Derived.IntWalk
import Derived.RegionTactic
import Derived.Deep.RegionWith
import Derived.Deep.QuietTactic
import Derived.RangeFuncIn
section
namespace Go.E2
variable {P : Program} {C : Ctx} {F : FS} {ops : Array Oper} {dst : Nat} {op : Op} {ty : TypeId} {pos : String} {after : Array Edge}
theorem catO_spec {s t u : Str} (h : catO s t = some u) : s.size + t.size ≤ 1152921504606846976 ∧ u = s ++ t:=by
 unfold catO at h
 split at h
 ·rename_i hc;cases h;exact ⟨hc,rfl⟩
 ·cases h
theorem cat_run {t : TypeId} {x y : Operand} {a b c : Str} (h : catO a b = some c) (w : World) : (eqGuard .add t x y (.string a) (.string b) >>= fun _=>binOp .add t (.string a) (.string b)).run P w = .ok (.string c) w:=by
 obtain ⟨h1,rfl⟩:=catO_spec h
 have h2 : ¬ (((a.size + b.size : Nat) : Int) > IntKind.i64.max):=by
  have : IntKind.i64.max = 9223372036854775807:=by decide
  rw [this];omega
 simp only [eqGuard,binOp,Op.stringOp,h2,if_false]
 rfl
theorem triCat {t t' : TypeId} {x y : Operand} {a b c : Str} (h : catO a b = some c) (hx : rdV F x = some (.string a)) (hy : rdV F y = some (.string b)) (hs : sideOk F true [x,y]) (hn : Nat.blt dst C.n = true) :
  TriL P C ops ⟨some dst,.binOp .add t x y t',ty,pos,after,none⟩ ⟨slotsOf [x,y],[],[dst],[]⟩ [(dst,.s (.c (.d (.v (.string c)))))] [] F:=by
 refine ⟨⟨rfl,rfl⟩,fun F' hS=>?_⟩
 have h1:=opnd_same hS.1
 refine Tri.quiet (x:=.c (.d (.v (.string c)))) rfl rfl hn (fun ρ M a' w hr=>⟨_,?_,Rep.v _⟩)
 have hR:=reads_of hr rfl (sideOk_same h1 hs)
 unfold execOp
 simp only
 rw [rdV_eval hR (by simp) ((rdV_same (h1 x (by simp))).trans hx),rdV_eval hR (by simp) ((rdV_same (h1 y (by simp))).trans hy)]
 exact bind_value (cat_run h w)
def isStr (P : Program) (t : TypeId) : Bool:=match P.underlying t with
 | some .string=>true
 | _=>false
theorem isStr_run {t : TypeId} (h : isStr P t = true) (w : World) : (underlying t).run P w = .ok .string w:=by
 unfold isStr at h
 split at h
 ·rename_i hu;simp [underlying,program,Sem.run,hu]
 ·cases h
theorem sidx_run {t : TypeId} {s : Str} {k : IntKind} {i n : Int} (h : sidxO s i = some n) (ht : isStr P t = true) (w : World) : (Instr.index t (.string s) (.int k i)).run P w = .ok (.int .u8 n) w:=by
 unfold sidxO at h
 split at h
 ·rename_i h0
  cases hb : s[i.toNat]? with
  | none=>rw [hb] at h;cases h
  | some b =>
   rw [hb] at h
   simp only [Option.map_some,Option.some.injEq] at h
   subst h
   unfold Instr.index
   have hk : (asIntOf (.int k i)).run P w = .ok (k,i) w:=rfl
   rw [run_bind_ok hk]
   simp only
   rw [run_bind_ok (isStr_run ht w)]
   simp only [h0,if_true,hb]
   rfl
 ·cases h
theorem triSIdx {t : TypeId} {x i : Operand} {s : Str} {k : IntKind} {n m : Int} (h : sidxO s n = some m) (hx : rdV F x = some (.string s)) (hi : rdV F i = some (.int k n)) (ht : isStr P t = true) (hs : sideOk F true [x,i]) (hn : Nat.blt dst C.n = true) :
  TriL P C ops ⟨some dst,.index t x i,ty,pos,after,none⟩ ⟨slotsOf [x,i],[],[dst],[]⟩ [(dst,.s (.c (.d (.v (.int .u8 m)))))] [] F:=by
 refine ⟨⟨rfl,rfl⟩,fun F' hS=>?_⟩
 have h1:=opnd_same hS.1
 refine Tri.quiet (x:=.c (.d (.v (.int .u8 m)))) rfl rfl hn (fun ρ M a' w hr=>⟨_,?_,Rep.v _⟩)
 have hR:=reads_of hr rfl (sideOk_same h1 hs)
 unfold execOp
 simp only
 rw [rdV_eval hR (by simp) ((rdV_same (h1 x (by simp))).trans hx),rdV_eval hR (by simp) ((rdV_same (h1 i (by simp))).trans hi)]
 exact bind_value (sidx_run h ht w)
theorem sslc_run {t : TypeId} {s u : Str} {lo hi : Int} (h : sslcO s lo hi = some u) (ht : isStr P t = true) {ol oh : Option Value} (hl : Bnd ol 0 lo) (hh : Bnd oh s.size hi) (w : World) : (Instr.sliceAt t (.string s) ol oh none).run P w = .ok (.string u) w:=by
 unfold sslcO at h
 split at h
 ·rename_i hc
  cases h
  obtain ⟨h0,h1,h2⟩:=hc
  have hb : (Instr.sliceBounds false s.size s.size ol oh none).run P w = .ok (lo.toNat,hi.toNat,s.size) w:=by
   unfold Instr.sliceBounds
   simp only [pure_bind]
   rcases hh with ⟨rfl,rfl⟩ | ⟨k,rfl⟩
   ·rcases hl with ⟨rfl,rfl⟩ | ⟨k',rfl⟩
    ·simp only [Int.toNat_natCast,Int.toNat_zero];rfl
    ·simp only
     rw [run_bind_ok (sliceBound_run h0 (by omega) w)]
     simp only [Int.toNat_natCast];rfl
   ·simp only
    rw [run_bind_ok (sliceBound_run (by omega) (by omega) w)]
    rcases hl with ⟨rfl,rfl⟩ | ⟨k',rfl⟩
    ·rfl
    ·simp only
     rw [run_bind_ok (sliceBound_run h0 (by omega) w)]
     rfl
  have hu:=isStr_run ht w
  unfold Instr.sliceAt
  rw [run_bind_ok hu]
  simp only
  unfold Instr.slice
  rw [run_bind_ok hu]
  simp only [Option.isSome_none,Bool.false_eq_true,if_false]
  rw [run_bind_ok hb]
  rfl
 ·cases h
theorem triSSlc {t : TypeId} {x : Operand} {s u : Str} {lo hi : Int} {l h : Option Operand} {vl vh : Option Value} (hr : sslcO s lo hi = some u) (hx : rdV F x = some (.string s)) (hl : rdO F l = some vl) (hh : rdO F h = some vh) (bl : Bnd vl 0 lo) (bh : Bnd vh s.size hi) (ht : isStr P t = true) (hs : sideOk F true ([x] ++ l.toList ++ h.toList)) (hd : Nat.blt dst C.n = true) :
  TriL P C ops ⟨some dst,.slice t x l h none,ty,pos,after,none⟩ ⟨slotsOf ([x] ++ l.toList ++ h.toList),[],[dst],[]⟩ [(dst,.s (.c (.d (.v (.string u)))))] [] F:=by
 refine ⟨⟨rfl,rfl⟩,fun F' hS=>?_⟩
 have h1:=opnd_same hS.1
 refine Tri.quiet (x:=.c (.d (.v (.string u)))) rfl rfl hd (fun ρ M a w hr'=>⟨_,?_,Rep.v _⟩)
 have hR:=reads_of hr' rfl (sideOk_same h1 hs)
 unfold execOp
 simp only
 rw [rdV_eval hR (by simp) ((rdV_same (h1 x (by simp))).trans hx),rdO_eval hR (fun y hy=>by simp [hy]) ((rdO_same (fun y hy=>h1 y (by simp [hy]))).trans hl),rdO_eval hR (fun y hy=>by simp [hy]) ((rdO_same (fun y hy=>h1 y (by simp [hy]))).trans hh)]
 exact bind_value (sslc_run hr ht bl bh w)
theorem triSSlcG {t : TypeId} {x : Operand} {s u : Str} {lo hi : Int} {l h : Option Operand} {vl vh : Option Value} {gk : Nat} {want g : Bool} (hr : g = true → sslcO s lo hi = some u) (hb : guardB F ops gk want = some g) (hx : rdV F x = some (.string s)) (hl : rdO F l = some vl) (hh : rdO F h = some vh) (bl : Bnd vl 0 lo) (bh : Bnd vh s.size hi) (ht : isStr P t = true) (hs : sideOk F g ([x] ++ l.toList ++ h.toList)) (hd : Nat.blt dst C.n = true) :
  TriL P C ops ⟨some dst,.slice t x l h none,ty,pos,after,some (gk,want)⟩ ⟨gSlot ops gk ++ slotsOf ([x] ++ l.toList ++ h.toList),[],[dst],[]⟩ [(dst,.gd g (.c (.d (.v (.string u)))))] [] F:=by
 refine ⟨⟨rfl,rfl⟩,fun F' hS=>?_⟩
 have h1:=opnd_same (F:=F) (F':=F') (xs:=[x] ++ l.toList ++ h.toList) (fun t ht=>hS.1 t (by simp only [List.mem_append];exact .inr ht))
 refine Tri.quietG (x:=.c (.d (.v (.string u)))) rfl ((guardB_same (fun t ht=>hS.1 t (by simp only [List.mem_append];exact .inl ht))).trans hb) rfl hd (fun hg ρ M a w hr'=>⟨_,?_,Rep.v _⟩)
 have hR:=reads_of hr' hg (sideOk_same h1 hs)
 unfold execOp
 simp only
 rw [rdV_eval hR (by simp) ((rdV_same (h1 x (by simp))).trans hx),rdO_eval hR (fun y hy=>by simp [hy]) ((rdO_same (fun y hy=>h1 y (by simp [hy]))).trans hl),rdO_eval hR (fun y hy=>by simp [hy]) ((rdO_same (fun y hy=>h1 y (by simp [hy]))).trans hh)]
 exact bind_value (sslc_run (hr hg) ht bl bh w)
theorem runesFrom_eq (s : Str) : ∀ (n i : Nat) (acc : Array Value),Conv.runesFrom s n i acc = acc ++ ((runesF s n i).map fun r=>Value.int .i32 r).toArray
 | 0,i,acc=>by simp [Conv.runesFrom,runesF]
 | n + 1,i,acc=>by
  unfold Conv.runesFrom runesF
  split
  ·show Conv.runesFrom s n (i + (Utf8.decode s i).2) (acc.push (Value.int IntKind.i32 (Int.ofNat (Utf8.decode s i).1))) = _
   rw [runesFrom_eq s n]
   apply Array.ext'
   simp
  ·simp
theorem RelW.allocM' {bl : Nat → Option Ob} {ρ : Env} {M : Mem} {w : World} {vs : List Value} {t : TypeId} {d : Nat} (h : RelW C bl ρ M w) (n : Nat) (hn : n ≤ vs.length) : RelW C bl ρ (M.put w.heap.size 0 (vs.take n)) (World.alloc { w with drawn:=d } (.cells vs.toArray t)) :=
 (h.drew d).allocM n hn
def runeSl (P : Program) (s d : TypeId) : Bool:=match P.underlying s with
 | some .string=>match P.underlying d with
  | some (.slice e)=>match P.underlying e with
   | some (.int .i32)=>true
   | _=>false
  | _=>false
 | _=>false
theorem triRunes {s d : TypeId} {x : Operand} {u : Str} (hx : rdV F x = some (.string u)) (ht : runeSl P s d = true) (hs : sideOk F true [x]) (hd : Nat.blt dst C.n = true) :
  TriL P C ops ⟨some dst,.convert s d x,ty,pos,after,none⟩ ⟨slotsOf [x],[],[dst],[]⟩ [(dst,.s (.c (.d (.sl (List.map (eInt .i32) (runes u))))))] [] F:=by
 refine ⟨⟨rfl,rfl⟩,fun F' hS=>?_⟩
 have h1:=opnd_same hS.1
 refine Tri.val [] rfl rfl hd (fun _ h=>by cases h) (fun k hk=>by rw [over_nil];exact hk) (fun _ h=>by cases h) (fun ρ M a w hr=>?_)
 have hR:=reads_of hr rfl (sideOk_same h1 hs)
 have ex:=rdV_eval hR (by simp) ((rdV_same (h1 x (by simp))).trans hx)
 unfold runeSl at ht
 split at ht
 ·rename_i hu1
  split at ht
  ·rename_i e hu2
   split at ht
   ·rename_i hu3
    let vs : List Value:=(runes u).map fun r=>Value.int .i32 r
    let q : Question:=.appendCap vs.length 0 e
    let cap:=q.cut (w.tape w.drawn q)
    have hcap : vs.length ≤ cap:=by simp [cap,q,Question.cut]
    let all : List Value:=vs ++ List.replicate (cap - vs.length) (.int .i32 0)
    have hrun : (convert s d (.string u)).run P w = .ok (.slice (some ⟨w.heap.size,0,none⟩) vs.length cap) (World.alloc { w with drawn:=w.drawn + 1 } (.cells all.toArray e)):=by
     unfold convert
     have r1 : (underlying s).run P w = .ok .string w:=by simp [underlying,program,Sem.run,hu1]
     have r2 : (underlying d).run P w = .ok (.slice e) w:=by simp [underlying,program,Sem.run,hu2]
     have r3 : (underlying e).run P w = .ok (.int .i32) w:=by simp [underlying,program,Sem.run,hu3]
     rw [run_bind_ok r1,run_bind_ok r2]
     simp only
     rw [run_bind_ok r3]
     simp only [Conv.stringToRunes]
     have e1 : Conv.runesFrom u u.size 0 #[] = vs.toArray:=by rw [runesFrom_eq];simp [vs,runes]
     rw [e1]
     simp only [List.size_toArray]
     have e2 : vs.toArray ++ Array.replicate (cap - vs.length) (Value.int .i32 0) = all.toArray:=by apply Array.ext';simp [all]
     have hch : ∀ (K : Nat → Sem Value),(choose q >>= K).run P w = (K cap).run P { w with drawn:=w.drawn + 1 }:=fun K=>by simp [choose,Sem.run,Question.forced,bind,Sem.bind,q,cap]
     rw [hch,e2]
     rfl
    have hno:=hr.heap.mem.none (Nat.le_refl w.heap.size)
    have hle : M.le (M.put w.heap.size 0 (all.take vs.length)):=Mem.put_le (fun o _=>hno.1 o)
    have htk : all.take vs.length = vs:=by simp [all]
    refine ⟨.slice (some ⟨w.heap.size,0,none⟩) vs.length cap,World.alloc { w with drawn:=w.drawn + 1 } (.cells all.toArray e),M.put w.heap.size 0 (all.take vs.length),fun _=>undef,?_,hle,fun ρ' h0 _=>⟨?_,by rw [over_nil];exact h0.heap.allocM' vs.length (by simp [all])⟩⟩
    ·unfold execOp
     simp only
     rw [ex]
     exact bind_value hrun
    ·show Rep _ _ _
     have hl : vs.length = (List.map (eInt .i32) (runes u)).length:=by simp [vs]
     rw [hl]
     refine Rep.ofFlat (sz:=1) (vs:=vs) (by rw [← hl];exact hcap) (rows_map (enc:=eInt .i32) (fun _=>rfl) _) ?_ (fun k v hk=>?_)
     ·have key : ∀ l : List Int,RepsD (M.put w.heap.size 0 (all.take (List.map (eInt .i32) (runes u)).length)) (List.map (eInt .i32) l).flatten (l.map fun r=>Value.int .i32 r):=by
       intro l
       induction l with
       | nil=>trivial
       | cons y r ih=>exact ⟨Rep.v _,ih⟩
      exact key (runes u)
     ·have:=Mem.put_at (M:=M) (b:=w.heap.size) (off:=0) (vs:=all.take (List.map (eInt .i32) (runes u)).length) (k:=k) (u:=v) (by rw [← hl,htk];exact hk)
      exact this
   ·cases ht
  ·cases ht
 ·cases ht
def shO {α : Type} (y : Int) (x : α) : Option α:=if y < 0 then none else some x
theorem shO_spec {α : Type} {y : Int} {x z : α} (h : shO y x = some z) : ¬ y < 0 ∧ z = x:=by
 unfold shO at h
 split at h
 ·cases h
 ·rename_i hb;cases h;exact ⟨hb,rfl⟩
theorem shl_run {t : TypeId} {x y : Operand} {k k' : IntKind} {a b : Int} (hb : ¬ b < 0) (w : World) : (eqGuard .shl t x y (.int k a) (.int k' b) >>= fun _=>binOp .shl t (.int k a) (.int k' b)).run P w = .ok (.int k (bShl k a b)) w:=by
 simp only [eqGuard,binOp,Op.shift,hb,if_false]
 rfl
theorem triShl {t t' : TypeId} {x y : Operand} {k k' : IntKind} {a b c : Int} (h : shO b (bShl k a b) = some c) (hx : rdV F x = some (.int k a)) (hy : rdV F y = some (.int k' b)) (hs : sideOk F true [x,y]) (hn : Nat.blt dst C.n = true) :
  TriL P C ops ⟨some dst,.binOp .shl t x y t',ty,pos,after,none⟩ ⟨slotsOf [x,y],[],[dst],[]⟩ [(dst,.s (.c (.d (.v (.int k c)))))] [] F:=by
 obtain ⟨hb,rfl⟩:=shO_spec h
 refine ⟨⟨rfl,rfl⟩,fun F' hS=>?_⟩
 have h1:=opnd_same hS.1
 refine Tri.quiet (x:=.c (.d (.v (.int k (bShl k a b))))) rfl rfl hn (fun ρ M a' w hr=>⟨_,?_,Rep.v _⟩)
 have hR:=reads_of hr rfl (sideOk_same h1 hs)
 unfold execOp
 simp only
 rw [rdV_eval hR (by simp) ((rdV_same (h1 x (by simp))).trans hx),rdV_eval hR (by simp) ((rdV_same (h1 y (by simp))).trans hy)]
 exact bind_value (shl_run hb w)
def ExtP (P : Program) (f : FuncId) (vs : List Value) (v : Value) : Prop:=∀ w : World,(callFunc f vs.toArray).run P w = .ok (.value v) w
theorem triExt {f : FuncId} {args : Array Operand} {argTypes : Array TypeId} {vs : List Value} {v : Value} {x : A1} (he : ExtP P f vs v) (hv : rdVs F args.toList = some vs) (hx : ofV v = x) (hs : sideOk F true args.toList) (hn : Nat.blt dst C.n = true) :
  TriL P C ops ⟨some dst,.call ⟨.value (.func f),args,argTypes⟩,ty,pos,after,none⟩ ⟨slotsOf args.toList,[],[dst],[]⟩ [(dst,.s x)] [] F:=by
 subst hx
 refine ⟨⟨rfl,rfl⟩,fun F' hS=>?_⟩
 have h1:=opnd_same hS.1
 refine Tri.quiet (x:=ofV v) rfl rfl hn (fun ρ M a w hr=>⟨v,?_,ofV_rep v ρ M⟩)
 have e0:=rdVs_eval (reads_of hr rfl (sideOk_same h1 hs)) ((rdVs_same h1).trans hv)
 unfold execOp
 have e1 : args.map a.eval = vs.toArray:=by
  rw [← e0];apply Array.ext';simp
 simp only [resolve,e1,Act.eval,Deferred.ofValue,pure_bind,invoke,Array.append_empty,Array.empty_append]
 exact he w
def arrC {α : Type} (n : Nat) (e1 : α → D) (a : Nat → α) : List Cell:=(List.range n).map fun i=>.d (e1 (a i))
def upd {α : Type} (a : Nat → α) (k : Nat) (x : α) : Nat → α:=fun i=>if i = k then x else a i
theorem arrC_len {α : Type} (n : Nat) (e1 : α → D) (a : Nat → α) : (arrC n e1 a).length = n:=by simp [arrC]
theorem arr_get {α : Type} {n : Nat} {e1 : α → D} {a : Nat → α} {pre post : List Cell} {p k : Nat} (hp : pre.length = p) (hk : k < n) : (pre ++ (arrC n e1 a ++ post))[p + k]? = some (.d (e1 (a k))):=by
 subst hp
 rw [List.getElem?_append_right (by omega),show pre.length + k - pre.length = k by omega,List.getElem?_append_left (by rw [arrC_len];exact hk)]
 simp [arrC,hk]
theorem arr_set {α : Type} {n : Nat} {e1 : α → D} {a : Nat → α} {pre post : List Cell} {p k : Nat} {x : α} (hp : pre.length = p) (hk : k < n) : (pre ++ (arrC n e1 a ++ post)).set (p + k) (.d (e1 x)) = pre ++ (arrC n e1 (upd a k x) ++ post):=by
 subst hp
 rw [List.set_append_right _ _ (by omega),show pre.length + k - pre.length = k by omega,List.set_append_left _ _ (by rw [arrC_len];exact hk)]
 congr 2
 apply List.ext_getElem?
 intro i
 rcases Nat.lt_or_ge i n with hi | hi
 ·by_cases e : k = i
  ·subst e
   rw [List.getElem?_set_self (by rw [arrC_len];exact hk)]
   simp [arrC,hi,upd]
  ·rw [List.getElem?_set_ne e]
   have : i ≠ k:=Ne.symm e
   simp [arrC,hi,upd,this]
 ·rw [List.getElem?_eq_none (by simp [arrC_len];exact hi),List.getElem?_eq_none (by simp [arrC_len];exact hi)]
theorem triIdxA {t n j off : Nat} {x i : Operand} {ik : IntKind} {z : Int} {k : Nat} (hi : ixO n z = some k) (hx : rd F x = some (.c (.loc j off))) (hz : rdV F i = some (.int ik z)) (ht : arrInfo P t = some (n,1)) (hs : sideOk F true [x,i]) (hd : Nat.blt dst C.n = true) :
  TriL P C ops ⟨some dst,.indexAddr t x i,ty,pos,after,none⟩ ⟨slotsOf [x,i],[],[dst],[]⟩ [(dst,.s (.c (.loc j (off + k))))] [] F:=by
 obtain ⟨rfl,hk⟩:=ixO_spec hi
 refine ⟨⟨rfl,rfl⟩,fun F' hS=>?_⟩
 have h1:=opnd_same hS.1
 refine Tri.quiet (x:=.c (.loc j (off + k))) rfl rfl hd (fun ρ M a w hr=>?_)
 have hR:=reads_of hr rfl (sideOk_same h1 hs)
 have e : a.eval x = ptr ρ j off:=hR x (by simp) _ ((rd_same (h1 x (by simp))).trans hx)
 refine ⟨_,?_,rfl⟩
 unfold execOp
 simp only
 rw [e,rdV_eval hR (by simp) ((rdV_same (h1 i (by simp))).trans hz)]
 have:=arrInfo_run (P:=P) (b:=blockOf (ρ j)) (off:=off) (k:=ik) ht (Int.natCast_nonneg k) (Int.ofNat_lt.mpr hk) w
 rw [Int.toNat_natCast,Nat.mul_one] at this
 exact bind_value this
theorem triIdxAG {t n j off : Nat} {x i : Operand} {ik : IntKind} {z : Int} {k : Nat} {gk : Nat} {want g : Bool} (hi : g = true → ixO n z = some k) (hb : guardB F ops gk want = some g) (hx : rd F x = some (.c (.loc j off))) (hz : rdV F i = some (.int ik z)) (ht : arrInfo P t = some (n,1)) (hs : sideOk F g [x,i]) (hd : Nat.blt dst C.n = true) :
  TriL P C ops ⟨some dst,.indexAddr t x i,ty,pos,after,some (gk,want)⟩ ⟨gSlot ops gk ++ slotsOf [x,i],[],[dst],[]⟩ [(dst,.gd g (.c (.loc j (off + k))))] [] F:=by
 refine ⟨⟨rfl,rfl⟩,fun F' hS=>?_⟩
 have h1:=opnd_same (F:=F) (F':=F') (xs:=[x,i]) (fun t ht=>hS.1 t (by simp [ht]))
 refine Tri.quietG (x:=.c (.loc j (off + k))) rfl ((guardB_same (fun t ht=>hS.1 t (by simp [ht]))).trans hb) rfl hd (fun hg ρ M a w hr=>?_)
 obtain ⟨rfl,hk⟩:=ixO_spec (hi hg)
 have hR:=reads_of hr hg (sideOk_same h1 hs)
 have e : a.eval x = ptr ρ j off:=hR x (by simp) _ ((rd_same (h1 x (by simp))).trans hx)
 refine ⟨_,?_,rfl⟩
 unfold execOp
 simp only
 rw [e,rdV_eval hR (by simp) ((rdV_same (h1 i (by simp))).trans hz)]
 have:=arrInfo_run (P:=P) (b:=blockOf (ρ j)) (off:=off) (k:=ik) ht (Int.natCast_nonneg k) (Int.ofNat_lt.mpr hk) w
 rw [Int.toNat_natCast,Nat.mul_one] at this
 exact bind_value this
theorem loadAt_run {ρ : Env} {M : Mem} {w : World} {j o t : Nat} {cs : List Cell} {u : TypeId} {c : Cell} (hi : Inv1 ρ M w (.blk cs u) (ρ j)) (hc : cs[o]? = some c) (ht : tinfo P t = some (1,false)) : ∃ v,(Instr.loadAt t (ptr ρ j o)).run P w = .ok v w ∧ c.rep ρ M v:=by
 obtain ⟨⟨arr,g1,g2⟩,_⟩:=hi
 obtain ⟨v,h1,h2⟩:=g2.get o c hc
 refine ⟨v,?_,h2⟩
 show (loadVar t ⟨blockOf (ρ j),o,none⟩).run P w = _
 unfold loadVar
 rw [run_bind_ok (tinfo_agg ht w),if_neg (by simp)]
 refine load_run ?_
 simp only [World.cell?,g1]
 simpa using h1
theorem triLoadA {t j o : Nat} {x : Operand} {cs : List Cell} {u : TypeId} {c : Cell} (hc : cs[o]? = some c) (hx : rd F x = some (.c (.loc j o))) (hj : F.bl j = some (.blk cs u)) (ht : tinfo P t = some (1,false)) (hs : sideOk F true [x]) (hd : Nat.blt dst C.n = true) :
  TriL P C ops ⟨some dst,.load t x,ty,pos,after,none⟩ ⟨slotsOf [x],[j],[dst],[]⟩ [(dst,.s (.c c))] [] F:=by
 refine ⟨⟨rfl,rfl⟩,fun F' hS=>?_⟩
 have h1:=opnd_same hS.1
 refine Tri.quiet (x:=.c c) rfl rfl hd (fun ρ M a w hr=>?_)
 have hR:=reads_of hr rfl (sideOk_same h1 hs)
 have e : a.eval x = ptr ρ j o:=hR x (by simp) _ ((rd_same (h1 x (by simp))).trans hx)
 obtain ⟨v,g1,g2⟩:=loadAt_run (P:=P) (hr.heap.inv j _ ((hS.2 j (by simp)).trans hj)) hc ht
 refine ⟨v,?_,g2⟩
 unfold execOp
 simp only
 rw [e]
 exact bind_value g1
theorem triLoadAG {t j o : Nat} {x : Operand} {cs : List Cell} {u : TypeId} {c : Cell} {gk : Nat} {want g : Bool} (hc : g = true → cs[o]? = some c) (hb : guardB F ops gk want = some g) (hx : rd F x = some (.c (.loc j o))) (hj : F.bl j = some (.blk cs u)) (ht : tinfo P t = some (1,false)) (hs : sideOk F g [x]) (hd : Nat.blt dst C.n = true) :
  TriL P C ops ⟨some dst,.load t x,ty,pos,after,some (gk,want)⟩ ⟨gSlot ops gk ++ slotsOf [x],[j],[dst],[]⟩ [(dst,.gd g (.c c))] [] F:=by
 refine ⟨⟨rfl,rfl⟩,fun F' hS=>?_⟩
 have h1:=opnd_same (F:=F) (F':=F') (xs:=[x]) (fun t ht=>hS.1 t (by simp [ht]))
 refine Tri.quietG (x:=.c c) rfl ((guardB_same (fun t ht=>hS.1 t (by simp [ht]))).trans hb) rfl hd (fun hg ρ M a w hr=>?_)
 have hR:=reads_of hr hg (sideOk_same h1 hs)
 have e : a.eval x = ptr ρ j o:=hR x (by simp) _ ((rd_same (h1 x (by simp))).trans hx)
 obtain ⟨v,g1,g2⟩:=loadAt_run (P:=P) (hr.heap.inv j _ ((hS.2 j (by simp)).trans hj)) (hc hg) ht
 refine ⟨v,?_,g2⟩
 unfold execOp
 simp only
 rw [e]
 exact bind_value g1
theorem triStoreA {t j o : Nat} {x y : Operand} {cs cs' : List Cell} {u : TypeId} {c : Cell} {b : Bool} (hset : cs.set o c = cs') (ho : o < cs.length) (hx : opnd F x = some (.s (.c (.loc j o)))) (hj : F.bl j = some (.blk cs u)) (hy : opnd F y = some (.s (.c c))) (hp : c.single = true) (ht : tinfo P t = some (1,b)) :
  TriL P C ops ⟨none,.store t x y,ty,pos,after,none⟩ ⟨slotsOf [x,y],[j],[],[j]⟩ [] [(j,.blk cs' u)] F :=
 triStore hx hj hy hp (by simp [A1.cells,allSingle,hp]) ht rfl (Nat.ble_eq.mpr (by omega)) (by simp [A1.cells,setCells,hset])
theorem triCallGW [HasTab P C] {f : FuncId} {args : Array Operand} {argTypes : Array TypeId} {ys as0 : List A1} {bl bl' : List (Nat × Ob)} {x : A1} {gk : Nat} {want g : Bool} (σ : Nat → Nat) (x' : A1) (Wb : List (Nat × Ob)) (hc : g = true → Con P f as0 bl (.s x) bl') (hoff : g = false → bl' = bl) (hb : guardB F ops gk want = some g) (hy : rds F args.toList = some ys) (hfit : Fits ys (as0.map (A1.ren σ))) (hs : sideOk F g args.toList) (hf : Entry P f)
  (hl : lentOk F σ bl) (hdom : domB bl' bl = true) (hap : apart σ bl' = true) (hsc : blIn bl bl = true) (hsa : a1sIn bl as0 = true) (hnew : newNames σ bl bl' = []) (hn : Nat.blt dst C.n = true) (hres : x.ren σ = x') (hWb : renBl σ bl' = Wb) :
  TriL P C ops ⟨some dst,.call ⟨.value (.func f),args,argTypes⟩,ty,pos,after,some (gk,want)⟩ ⟨gSlot ops gk ++ slotsOf args.toList,Wb.map (·.1),[dst],Wb.map (·.1)⟩ [(dst,.gd g x')] Wb F:=by
 subst hres hWb
 refine ⟨⟨rfl,rfl⟩,fun F' hS=>?_⟩
 have h1:=opnd_same (F:=F) (F':=F') (xs:=args.toList) (fun t ht=>hS.1 t (by simp [ht]))
 have hb':=(guardB_same (want:=want) (fun t ht=>hS.1 t (by simp [ht]))).trans hb
 obtain ⟨fn,hf1,hf2,hf3⟩:=hf
 have hbb : ∀ i,look bl' i ≠ none → F'.bl (σ i) = F.bl (σ i):=fun i hi=>by
  obtain ⟨o2,ho2⟩:=Option.ne_none_iff_exists'.1 hi
  have:=renBl_look hap i o2 ho2
  exact hS.2 _ (mem_of_look (by rw [this];simp))
 have hl' : lentOk F' σ bl:=by
  have : ∀ (l : List (Nat × Ob)),(∀ p ∈ l,look bl' p.1 ≠ none) → lentOk F σ l → lentOk F' σ l:=by
   intro l
   induction l with
   | nil=>intro _ _;trivial
   | cons p r ih =>
    obtain ⟨i,o⟩:=p
    intro hm h
    exact ⟨(hbb i (hm (i,o) (by simp))).trans h.1,ih (fun q hq=>hm q (by simp [hq])) h.2⟩
  exact this bl (fun p hp=>domB_spec hdom p.1 (look_of_mem (List.mem_map_of_mem hp))) hl
 cases g with
 | false =>
  intro Q' K' hK ρ M a w hr
  rw [guardB_wanted hr.at rfl hb',if_neg (by simp)]
  have e:=hoff rfl
  subst e
  have hover : over (renBl σ bl') F'.bl = F'.bl:=by
   funext k
   unfold over
   cases hk : look (renBl σ bl') k with
   | none=>rfl
   | some o =>
    obtain ⟨i,o',_,h2,h3,h4⟩:=renBl_inv hk
    rw [h2,lentOk_spec hl' i o' (h4 hap),h3]
  refine hK ρ M _ _ fun ρ' ha=>?_
  have h0:=hr ρ' (fun j hj=>ha j (by show over (renBl σ bl') F'.bl j ≠ none;rw [hover];exact hj))
  exact h0.put (v:=.gd false (x.ren σ)) (Nat.blt_eq.mp hn) rfl (Mem.le_refl _) (by rw [hover];exact h0.heap)
 | true =>
  intro Q' K' hK ρ M a w hr
  -- as the call without a guard
  have ht:=Tri.call (P:=P) (C:=C) (F:=F') (ops:=ops) (o:=⟨some dst,.call ⟨.value (.func f),args,argTypes⟩,ty,pos,after,none⟩) (σ:=σ) rfl rfl hn (hc rfl) hl' hdom hap hsc (by rw [hnew];trivial) hsa (fun ρ M a w hr=>⟨args.toList.map a.eval,call_run rfl hf1 hf2 hf3,Fits.reps hfit (rds_rep (reads_of hr rfl (sideOk_same h1 hs)) ((rds_same h1).trans hy))⟩) Q' K' (fun ρ M a w hr=>hK ρ M a w (fun ρ' ha=>by
   have h0:=hr ρ' ha
   refine ⟨h0.defers,h0.size,fun s v hv=>?_,h0.heap⟩
   have hv' : over [(dst,AV.gd true (x.ren σ))] F'.sl s = some v:=hv
   rw [over_one] at hv'
   split at hv'
   ·rename_i e
    subst e
    cases hv'
    exact h0.slots dst (.s (x.ren σ)) (by show over [(dst,AV.s (x.ren σ))] F'.sl dst = _;rw [over_one,if_pos rfl])
   ·rename_i e
    exact h0.slots s v (by show over [(dst,AV.s (x.ren σ))] F'.sl s = _;rw [over_one,if_neg e];exact hv'))) ρ M a w hr
  rw [guardB_wanted hr.at rfl hb',if_pos rfl]
  rw [if_pos (wanted_none rfl)] at ht
  exact ht
theorem Conv.nilO {sl : List (Nat × AV)} {bl : List (Nat × Ob)} {nx : Nat} (j i jn sz : Nat) (cs cs' : List Cell) (u : TypeId) (nx' : Nat) (hj : look bl j = some (.blk cs u)) (hi : cs[i]? = some (.d (.v (.slice none 0 0)))) (hcs : cs.set i (.tl jn []) = cs') (hn : look bl jn = none) : Conv C ⟨sl,bl,nx⟩ ⟨sl,(j,.blk cs' u) :: (jn,.tail sz) :: bl,nx'⟩:=by
 subst hcs
 intro ρ M a w hr
 have hne : j ≠ jn:=fun e=>by subst e;rw [hj] at hn;cases hn
 refine ⟨fun k=>if k = jn then .slice none 0 0 else ρ k,M,fun ρ' ha=>?_⟩
 have hag : Agree (look bl) ρ ρ':=fun k hk=>by
  have hnk : k ≠ jn:=fun e=>hk (e ▸ hn)
  have:=ha k (by
   show look ((j,_) :: (jn,_) :: bl) k ≠ none
   rw [look_cons];split
   ·simp
   ·rw [look_cons,if_neg (Ne.symm hnk)];exact hk)
  rw [this];exact if_neg hnk
 have hnj : ρ' jn = .slice none 0 0:=by
  have:=ha jn (by show look ((j,_) :: (jn,_) :: bl) jn ≠ none;rw [look_cons,if_neg hne,look_cons,if_pos rfl];simp)
  rw [this];exact if_pos rfl
 have h0:=hr ρ' hag
 refine ⟨h0.defers,h0.size,h0.slots,?_⟩
 -- first the room,then the cell
 have h1 : RelW C (look ((jn,Ob.tail sz) :: bl)) ρ' M w:=by
  refine h0.heap.change jn (fun _=>False) (fun _ h=>h.elim) ⟨rfl,rfl,rfl,Nat.le_refl _⟩ (fun _ _ _=>rfl) (Mem.le_refl _) (fun _ _ _=>⟨fun _=>rfl,rfl⟩) (fun b _=>⟨fun o v hv=>h0.heap.mem.cell b o v hv,fun o ho=>h0.heap.mem.obj b o ho⟩) (fun k ob hk=>?_)
  rw [look_cons] at hk
  split at hk
  ·rename_i e
   subst e
   cases hk
   refine .inr (.inr ⟨rfl,?_,fun b hb=>?_⟩)
   ·rw [hnj];exact ⟨none,0,0,rfl,Nat.le_refl _,fun h=>absurd h (Nat.lt_irrefl _)⟩
   ·rw [hnj] at hb;cases hb
  ·exact .inr (.inl ⟨hk,fun _ _ h=>h⟩)
 have hj1 : look ((jn,Ob.tail sz) :: bl) j = some (.blk cs u):=by rw [look_cons,if_neg (Ne.symm hne)];exact hj
 refine h1.change j (fun b=>b = blockOf (ρ' j)) ?_ ⟨rfl,rfl,rfl,Nat.le_refl _⟩ (fun _ _ _=>rfl) (Mem.le_refl _) (fun _ _ _=>⟨fun _=>rfl,rfl⟩) (fun b _=>⟨fun o v hv=>h1.mem.cell b o v hv,fun o ho=>h1.mem.obj b o ho⟩) (fun k ob hk=>?_) (fun b hb=>h1.noJunk hj1 (by rw [hb];rfl))
 ·rintro b rfl _
  exact h1.priv j _ _ hj1 rfl
 ·have hk' : look ((j,Ob.blk (cs.set i (.tl jn [])) u) :: (jn,Ob.tail sz) :: bl) k = some ob:=hk
  rw [look_cons] at hk'
  split at hk'
  ·rename_i e
   subst e
   cases hk'
   refine .inr (.inr ⟨rfl,?_,fun b hb=>.inl (by cases hb;rfl)⟩)
   obtain ⟨⟨arr,g1,g2⟩,g3⟩:=h1.inv j _ hj1
   refine ⟨⟨arr,g1,?_⟩,g3⟩
   obtain ⟨v,h2,h3⟩:=g2.get i _ hi
   have hv:=Rep.v_inv h3
   have:=Reps.set (ρ:=ρ') (M:=M) (c:=.tl jn []) (v:=v) ⟨by rw [hv,hnj],by rw [hv];exact Rep.nil⟩ i g2
   have e : arr.toList.set i v = arr.toList:=by
    apply List.ext_getElem?
    intro q
    by_cases hq : i = q
    ·subst hq
     rw [List.getElem?_set_self (List.getElem?_eq_some_iff.1 h2).1,h2]
    ·rw [List.getElem?_set_ne hq]
   rw [e] at this
   exact this
  ·rename_i e
   refine .inr (.inl ⟨hk',fun b hb hS=>?_⟩)
   subst hS
   exact e ((h1.dist k j _ _ _ hk' hj1 hb rfl).symm)
theorem Conv.norm {sl : List (Nat × AV)} {bl : List (Nat × Ob)} {nx : Nat} (j : Nat) (cs cs' : List Cell) (u : TypeId) (nx' : Nat) (hj : look bl j = some (.blk cs u)) (hcs : cs.map Cell.norm = cs') : Conv C ⟨sl,bl,nx⟩ ⟨sl,(j,.blk cs' u) :: bl,nx'⟩:=by
 subst hcs
 intro ρ M a w hr
 refine ⟨ρ,M,fun ρ' ha=>?_⟩
 have h0:=hr ρ' (fun k hk=>ha k (by
  show look ((j,_) :: bl) k ≠ none
  rw [look_cons];split
  ·simp
  ·exact hk))
 refine ⟨h0.defers,h0.size,h0.slots,?_⟩
 refine h0.heap.change j (fun b=>b = blockOf (ρ' j)) ?_ ⟨rfl,rfl,rfl,Nat.le_refl _⟩ (fun _ _ _=>rfl) (Mem.le_refl _) (fun _ _ _=>⟨fun _=>rfl,rfl⟩) (fun b _=>⟨fun o v hv=>h0.heap.mem.cell b o v hv,fun o ho=>h0.heap.mem.obj b o ho⟩) (fun k ob hk=>?_) (fun b hb=>h0.heap.noJunk hj (by rw [hb];rfl))
 ·rintro b rfl _
  exact h0.heap.priv j _ _ hj rfl
 ·have hk' : look ((j,Ob.blk (cs.map Cell.norm) u) :: bl) k = some ob:=hk
  rw [look_cons] at hk'
  split at hk'
  ·rename_i e
   subst e
   cases hk'
   refine .inr (.inr ⟨rfl,?_,fun b hb=>.inl (by cases hb;rfl)⟩)
   obtain ⟨⟨arr,g1,g2⟩,g3⟩:=h0.heap.inv j _ hj
   exact ⟨⟨arr,g1,g2.norm⟩,g3⟩
  ·rename_i e
   refine .inr (.inl ⟨hk',fun b hb hS=>?_⟩)
   subst hS
   exact e ((h0.heap.dist k j _ _ _ hk' hj hb rfl).symm)
theorem ext_of {f : FuncId} {fn : Func} {e : Array Value → Sem Value} {vs : List Value} {v : Value} (hf : P.funcs[f]? = some fn) (h1 : (fn.name == "runtime.NumGoroutine") = false) (h2 : fn.body.isNone = true) (h3 : (Extern.findNext fn).isNone = true) (h4 : Extern.find fn = some e) (h5 : ∀ w : World, (e vs.toArray).run P w = .ok v w) : ExtP P f vs v := by
 intro w
 have h3' : Extern.findNext fn = none:=by simpa using h3
 unfold callFunc
 have hp : (program : Sem Program).run P w = .ok P w:=rfl
 rw [run_bind_ok hp]
 simp only [hf]
 rw [if_neg (by rw [h1];simp),if_pos h2]
 have hm : (mark (.extern f) : Sem Unit).run P w = .ok () w:=rfl
 rw [run_bind_ok hm]
 simp only [h3',h4]
 rw [run_bind_ok (h5 w)]
 rfl
def idxByte (s : Str) (c : Int) : Int:=match (List.range s.size).find? fun i=>s[i]! == c.toNat.toUInt8 with
 | some i=>(i : Int)
 | none=>-1
def cntByte (s : Str) (c : Int) : Int:=s.foldl (fun (n : Int) x=>if x == c.toNat.toUInt8 then n + 1 else n) ((0 : Nat) : Int)
theorem idxByte_run (s : Str) (c : Int) (w : World) : (Extern.BytealgIndexByte.indexByte #[.string s,.int .u8 c]).run P w = .ok (.int .i64 (idxByte s c)) w:=by
 have h : (Extern.BytealgIndexByte.indexByte #[.string s,.int .u8 c]).run P w = (match (List.range s.size).find? (fun i=>s[i]! == c.toNat.toUInt8) with | some i=>pure (goInt i) | none=>pure (goInt (-1)) : Sem Value).run P w:=by kernel_rfl
 rw [h]
 unfold idxByte
 split <;> rfl
theorem cntByte_run (s : Str) (c : Int) (w : World) : (Extern.BytealgCount.count #[.string s,.int .u8 c]).run P w = .ok (.int .i64 (cntByte s c)) w:=by
 have h : (Extern.BytealgCount.count #[.string s,.int .u8 c]).run P w = (do let b ← Extern.Bytes.bytesOf (.string s);let c ← Extern.Bytes.asByte (.int .u8 c);pure (goInt (b.foldl (fun n x=>if x == c then n + 1 else n) (0 : Nat))) : Sem Value).run P w:=by kernel_rfl
 rw [h]
 rfl
end Go.E2
end
section
namespace Go.E2
open Go.RowKit (Below)
open Go.ChangeShapes Go.WideShapes Go.ChangeAt Go.RowKit
def M1 (W : World) : Mem:=memW ⟨fun _ _=>none,fun _=>none,fun _=>none⟩ W
theorem M1_in (W : World) : InW (M1 W) W:=memW_in ⟨fun _ _ _ h=>(by cases h),fun _ _ h=>(by cases h),fun _ _ h=>(by cases h)⟩
theorem M1_cell {W : World} {b o : Nat} {v : Value} (h : W.cell? ⟨b,o,none⟩ = some v) : (M1 W).cell b o = some v:=by
 simp only [World.cell?] at h
 simp only [M1,memW]
 split at h
 ·rename_i c t f hc;rw [hc];simpa using h
 ·cases h
def RowRep (M : Mem) : List D → List Value → Prop
 | [],[]=>True
 | d :: ds,v :: vs=>Rep M d v ∧ RowRep M ds vs
 | _,_=>False
theorem RowRep.len {M : Mem} : ∀ {ds : List D} {vs : List Value},RowRep M ds vs → ds.length = vs.length
 | [],[],_=>rfl
 | _ :: _,_ :: _,h=>by rw [List.length_cons,List.length_cons,RowRep.len h.2]
 | [],_ :: _,h=>h.elim
 | _ :: _,[],h=>h.elim
theorem RowRep.at {M : Mem} : ∀ {ds : List D} {vs : List Value},RowRep M ds vs → ∀ (j : Nat) d,ds[j]? = some d → ∃ v,vs[j]? = some v ∧ Rep M d v
 | [],[],_,_,_,h=>by cases h
 | _ :: _,_ :: _,h,j,d,hd=>by
  cases j with
  | zero=>cases hd;exact ⟨_,rfl,h.1⟩
  | succ j=>exact RowRep.at h.2 j d hd
 | [],_ :: _,h,_,_,_=>h.elim
 | _ :: _,[],h,_,_,_=>h.elim
theorem RowRep.app {M : Mem} : ∀ {a : List D} {x : List Value} {b : List D} {y : List Value},RowRep M a x → RowRep M b y → RowRep M (a ++ b) (x ++ y)
 | [],[],_,_,_,h=>h
 | _ :: _,_ :: _,_,_,h,h'=>⟨h.1,RowRep.app h.2 h'⟩
 | [],_ :: _,_,_,h,_=>h.elim
 | _ :: _,[],_,_,h,_=>h.elim
theorem RowRep.reps {M : Mem} {ρ : Env} : ∀ {ds : List D} {vs : List Value},RowRep M ds vs → Reps ρ M (ds.map Cell.d) vs
 | [],[],_=>trivial
 | _ :: _,_ :: _,h=>⟨h.1,RowRep.reps h.2⟩
 | [],_ :: _,h=>h.elim
 | _ :: _,[],h=>h.elim
def Rd (k : Nat) (P : Program) (t : TypeId) {α : Type} (e : α → List D) (Q : α → Prop) : Prop :=
 ∀ (H : Type) (enc : TypeId × Value → H) (W : World) (fuel : Nat) (cs : List Value) (x : DataW H × List MemPlace),fuel ≤ k → DataW.trod enc P W 0 (fun _=>true) true fuel t cs = some x → ∃ a,Q a ∧ RowRep (M1 W) (e a) cs
section
variable {P : Program} {t : TypeId} {α β : Type}
theorem Rd.map {k : Nat} {e : α → List D} {e' : β → List D} {Q : α → Prop} {Q' : β → Prop} (h : Rd k P t e Q) (g : α → β) (hg : ∀ a,e' (g a) = e a) (hQ : ∀ a,Q a → Q' (g a)) : Rd k P t e' Q':=fun H enc W fuel cs x hk hx=>by
 obtain ⟨a,h1,h2⟩:=h H enc W fuel cs x hk hx
 exact ⟨g a,hQ a h1,by rw [hg];exact h2⟩
theorem rd_int {m : Nat} {k : IntKind} (hu : P.underlying t = some (.int k)) : Rd m P t (eInt k) (fun n=>(Lit.int k n).wf = true):=fun _ _ _ _ _ _ _ hx=>by
 obtain ⟨n,rfl,_,hw⟩:=DataW.trod_int hu hx
 exact ⟨n,hw,.v _,trivial⟩
theorem rd_str {m : Nat} (hu : P.underlying t = some .string) : Rd m P t eStr (fun s=>s.size ≤ maxLen):=fun _ _ _ _ _ _ _ hx=>by
 obtain ⟨n,rfl,_,h⟩:=DataW.trod_string hu hx
 exact ⟨n,h,.v _,trivial⟩
theorem add_spot {a : Addr} {n j : Nat} {W : World} {v : Value} (h : W.cell? ((a.add n).add j) = some v) : W.cell? ⟨a.block,a.off + n + j,none⟩ = some v ∧ (n = 0 → j = 0 → a.spot = none):=by
 unfold Addr.add at h
 by_cases hn : n = 0
 ·subst hn
  by_cases hj : j = 0
  ·subst hj
   simp only [if_true] at h
   have hs : a.spot = none:=by
    unfold World.cell? at h
    split at h
    ·split at h
     ·cases h
     ·rename_i _ hs;cases hsp : a.spot with
      | none=>rfl
      | some x=>rw [hsp] at hs;simp at hs
    ·cases h
   obtain ⟨b,o,s⟩:=a
   cases hs
   exact ⟨h,fun _ _=>rfl⟩
  ·simp only [if_true,if_neg hj] at h
   exact ⟨h,fun _ h=>absurd h hj⟩
 ·by_cases hj : j = 0
  ·subst hj
   simp only [if_true,if_neg hn] at h
   exact ⟨h,fun h=>absurd h hn⟩
  ·simp only [if_neg hn,if_neg hj] at h
   exact ⟨h,fun h=>absurd h hn⟩
theorem rd_slice {k : Nat} {e : TypeId} {en : α → List D} {Q : α → Prop} {sz : Nat} (hu : P.underlying t = some (.slice e)) (he : Rd k P e en Q) (hc : P.cellsOf e = sz) (h0 : 0 < sz) (hsz : ∀ a,(en a).length = sz) :
  Rd k P t (eSl en) (fun L=>L.length ≤ maxLen ∧ ∀ a ∈ L,Q a):=fun H enc W fuel cs x hk hx=>by
 rcases DataW.trod_slice hu hx with ⟨rfl,_⟩ | ⟨a,len,cap,elems,rest,n,hfuel,rfl,_,_,hle,hcap,hel,hat,_,_⟩
 ·exact ⟨[],⟨Nat.zero_le _,fun _ h=>by cases h⟩,.nil,trivial⟩
 ·have key : ∀ m,m ≤ len → ∃ L : List α,L.length = m ∧ (∀ x ∈ L,Q x) ∧ ∀ (i : Nat) y,L[i]? = some y → ∃ cs,W.cells? 0 (a.add (i * sz)) sz = some cs ∧ RowRep (M1 W) (en y) cs:=by
   intro m
   induction m with
   | zero=>exact fun _=>⟨[],rfl,fun _ h=>(by cases h),fun _ _ h=>by cases h⟩
   | succ m ih =>
    intro hm
    obtain ⟨L,hl,hq,hL⟩:=ih (by omega)
    have h1:=hat m (by omega)
    rw [hc,List.getElem?_eq_getElem (by omega : m < elems.length)] at h1
    obtain ⟨cs,hcs,h2⟩:=Option.bind_eq_some_iff.1 h1
    obtain ⟨y,hy,hr⟩:=he _ _ _ _ _ _ (by omega) h2
    refine ⟨L ++ [y],by simp [hl],fun x hx=>?_,fun i z hz=>?_⟩
    ·rcases List.mem_append.1 hx with h | h
     ·exact hq x h
     ·simp at h;subst h;exact hy
    ·by_cases hi : i < L.length
     ·rw [List.getElem?_append_left hi] at hz;exact hL i z hz
     ·rw [List.getElem?_append_right (by omega)] at hz
      have : i = m:=by
       have:=(List.getElem?_eq_some_iff.1 hz).1
       simp at this;omega
      subst this
      rw [hl,Nat.sub_self] at hz
      cases hz
      exact ⟨cs,hcs,hr⟩
  obtain ⟨L,hl,hq,hL⟩:=key len (Nat.le_refl _)
  refine ⟨L,⟨by omega,hq⟩,?_,trivial⟩
  cases hL0 : L with
  | nil=>rw [hL0] at hl;simp at hl;subst hl;exact .nil
  | cons y ys =>
   rw [← hL0]
   have cellAt : ∀ (i : Nat) y (j : Nat),L[i]? = some y → j < sz → ∃ v cs,W.cells? 0 (a.add (i * sz)) sz = some cs ∧ cs[j]? = some v ∧ RowRep (M1 W) (en y) cs ∧ W.cell? ⟨a.block,a.off + i * sz + j,none⟩ = some v ∧ (i = 0 → j = 0 → a.spot = none):=by
    intro i y j hy hj
    obtain ⟨cs,h1,h2⟩:=hL i y hy
    have hlen : cs.length = sz:=by rw [← h2.len,hsz]
    have h3:=h1
    unfold World.cells? at h3
    rw [if_pos (Nat.zero_le _)] at h3
    have h4:=mapM_some_get h3 j j (by simp [hj])
    rw [List.getElem?_eq_getElem (by omega : j < cs.length)] at h4
    obtain ⟨h5,h6⟩:=add_spot h4
    exact ⟨_,cs,h1,List.getElem?_eq_getElem (by omega),h2,h5,fun hi hj=>h6 (by rw [hi,Nat.zero_mul]) hj⟩
   have hsp : a.spot = none:=by
    obtain ⟨_,_,_,_,_,_,h⟩:=cellAt 0 y 0 (by rw [hL0];rfl) h0
    exact h rfl rfl
   obtain ⟨b,off,sp⟩:=a
   cases hsp
   have hll : (List.map en L).length = len:=by rw [List.length_map,hl]
   rw [← hll]
   refine .sl (sz:=sz) (f:=fun i j=>((M1 W).cell b (off + i * sz + j)).getD (.bool false)) (by omega) (fun i row hr=>?_) (fun i row j d hi hj=>?_) (fun i row j d hi hj=>?_)
   ·rw [List.getElem?_map] at hr
    obtain ⟨y,_,rfl⟩:=Option.map_eq_some_iff.1 hr
    exact hsz y
   ·rw [List.getElem?_map] at hi
    obtain ⟨y,hy,rfl⟩:=Option.map_eq_some_iff.1 hi
    have hjz : j < sz:=by rw [← hsz y];exact (List.getElem?_eq_some_iff.1 hj).1
    obtain ⟨v,cs,_,_,_,h5,_⟩:=cellAt i y j hy hjz
    rw [M1_cell h5];rfl
   ·rw [List.getElem?_map] at hi
    obtain ⟨y,hy,rfl⟩:=Option.map_eq_some_iff.1 hi
    have hjz : j < sz:=by rw [← hsz y];exact (List.getElem?_eq_some_iff.1 hj).1
    obtain ⟨v,cs,_,h4,h3,h5,_⟩:=cellAt i y j hy hjz
    obtain ⟨u,h6,h7⟩:=h3.at j d hj
    rw [M1_cell h5]
    rw [h4] at h6;cases h6
    exact h7
def RdF (k : Nat) (P : Program) (off : Nat) (fs : List Field) (tot : Nat) {α : Type} (e : α → List D) (Q : α → Prop) : Prop :=
 ∀ (H : Type) (enc : TypeId × Value → H) (W : World) (n : Nat) (cs : List Value),n ≤ k → cs.length = tot →
  (∀ (j : Nat) (f : Field),fs[j]? = some f → ∃ x,DataW.trod enc P W 0 (fun _=>true) true n f.type ((cs.drop f.offset).take (P.cellsOf f.type)) = some x) → ∃ a,Q a ∧ RowRep (M1 W) (e a) (cs.drop off)
theorem rdF_nil {k tot : Nat} : RdF k P tot [] tot (fun _ : Unit=>[]) (fun _=>True):=fun _ _ _ _ _ _ hl _=>⟨(),trivial,by rw [List.drop_eq_nil_of_le (by omega)];trivial⟩
theorem rdF_cons {k off tot sz : Nat} {f : Field} {fs : List Field} {e1 : α → List D} {e2 : β → List D} {Q1 : α → Prop} {Q2 : β → Prop} (ho : f.offset = off) (hc : P.cellsOf f.type = sz) (h1 : Rd k P f.type e1 Q1) (h2 : RdF k P (off + sz) fs tot e2 Q2) :
  RdF k P off (f :: fs) tot (fun p : α × β=>e1 p.1 ++ e2 p.2) (fun p=>Q1 p.1 ∧ Q2 p.2):=fun H enc W n cs hn hl hf=>by
 obtain ⟨x,hx⟩:=hf 0 f rfl
 obtain ⟨a,qa,ra⟩:=h1 _ _ _ _ _ _ hn hx
 obtain ⟨b,qb,rb⟩:=h2 H enc W n cs hn hl (fun j g hj=>hf (j + 1) g hj)
 refine ⟨(a,b),⟨qa,qb⟩,?_⟩
 have : cs.drop off = (cs.drop off).take sz ++ cs.drop (off + sz):=by
  rw [← List.drop_drop];exact (List.take_append_drop sz (cs.drop off)).symm
 rw [this]
 rw [ho,hc] at ra
 exact ra.app rb
theorem rd_struct1 {k : Nat} {fs : Array Field} {tot : Nat} {e : α → List D} {Q : α → Prop} (hu : P.underlying t = some (.struct fs)) (hc : P.cellsOf t = tot) (h : RdF k P 0 fs.toList tot e Q) : Rd (k + 1) P t e Q:=fun H enc W fuel cs x hk hx=>by
 obtain ⟨xs,n,hfuel,_,hl,hxl,hat⟩:=DataW.trod_struct hu hx
 obtain ⟨a,qa,ra⟩:=h H enc W n cs (by omega) (by rw [hl,hc]) (fun j f hj=>by
  have hj' : fs[j]? = some f:=by simpa using hj
  have h1:=hat j f hj'
  have hjl : j < xs.length:=by rw [hxl];exact (Array.getElem?_eq_some_iff.1 hj').1
  exact ⟨xs[j],by rw [← List.getElem?_eq_getElem hjl];exact h1⟩)
 exact ⟨a,qa,by simpa using ra⟩
theorem rd_struct {k : Nat} {fs : Array Field} {tot : Nat} {e : α → List D} {Q : α → Prop} (hu : P.underlying t = some (.struct fs)) (hc : P.cellsOf t = tot) (h : RdF k P 0 fs.toList tot e Q) : Rd k P t e Q:=fun H enc W fuel cs x hk hx =>
 rd_struct1 hu hc h H enc W fuel cs x (by omega) hx
def oneCell (P : Program) (t : TypeId) : Bool:=match P.underlying t with
 | some (.int _) | some .bool | some .string | some (.slice _)=>true
 | _=>false
theorem oneCell_cells {W : World} {r : Reach} {b0 : Nat} {v : Value} (h : oneCell P t = true) (hv : Value.okWide P W r b0 t v) : v.cells.toList = [v]:=by
 unfold oneCell at h
 split at h
 ·rename_i hu;obtain ⟨n,rfl⟩:=okWide_int hu hv;rfl
 ·rename_i hu;obtain ⟨n,rfl⟩:=okWide_bool hu hv;rfl
 ·rename_i hu;obtain ⟨n,rfl⟩:=okWide_string hu hv;rfl
 ·rename_i hu;obtain ⟨a,n,c,rfl⟩:=okWide_slice hu hv;rfl
 ·cases h
theorem open_one {H : Type} {enc : TypeId × Value → H} {W : World} {r : Reach} {b0 : Nat} {v : Value} {d : DataW H} {p : List MemPlace} {e : α → List D} {Q : α → Prop} (hr : ∀ k,Rd k P t e Q) (h1 : oneCell P t = true) (hv : Value.okWide P W r b0 t v) (h : DataW.Trod enc P W 0 (fun _=>true) true t v d p) :
  ∃ a,Q a ∧ ∀ x,e a = [x] → ∀ ρ,A1.rep ρ (M1 W) (.c (.d x)) v:=by
 obtain ⟨fuel,hf⟩:=h
 obtain ⟨a,qa,ra⟩:=hr fuel _ _ _ _ _ _ (Nat.le_refl _) hf
 rw [oneCell_cells h1 hv] at ra
 exact ⟨a,qa,fun x hx ρ=>by rw [hx] at ra;exact ra.1⟩
theorem law_walk {f : FuncId} {args : List A1} {vs : List Value} {W : World} (h : Con P f args [] (.s (.c (.d (.v (.bool true))))) []) (hT : Tab P (M1 W)) (hr : ∀ ρ,A1.reps ρ (M1 W) args vs) :
  Calls P f vs.toArray W fun e W'=>e = .returned (.bool true) ∧ Below W.heap.size W W':=by
 refine (h (fun _=>.bool false) (M1 W) W (fun _=>False) vs hT (fun ρ' _=>⟨⟨fun j ob h=>(by cases h),fun i j x y b h=>(by cases h),fun j ob b h=>(by cases h),M1_in W,Mem.le_refl _,fun b _ _=>⟨fun _=>rfl,rfl⟩,Kept.refl _ _,fun j hj=>absurd rfl hj,fun b s h=>(by cases h)⟩,hr ρ'⟩)).mono ?_
 rintro e W' ⟨u,ρ1,M',rfl,h2⟩
 obtain ⟨h3,h4⟩:=h2 ρ1 (Agree.refl _ _)
 cases h3
 exact ⟨rfl,h4.kept.below⟩
end
section
variable {H : Type} {enc : TypeId × Value → H} {P : Program} {w : World} {base : Nat} {spare : Nat → Bool} {held : Bool}
theorem trodAll_stays (hl : laidOutB P = true) {W W' : World} (hb : Below W.heap.size W W') : ∀ (ts : List TypeId) (vs : List Value) (ds : List (DataW H)) (ps : List MemPlace),(ts.all fun t=>P.readableRec t && decide (t < P.types.size)) = true →
  DataW.TrodAll enc P W 0 (fun _=>true) true ts vs ds ps → DataW.TrodAll enc P W' 0 (fun b=>decide (b < W.heap.size)) true ts vs ds ps
 | [],vs,ds,ps,_,h=>by
  obtain ⟨rfl,rfl,rfl⟩:=trodAll_nil h
  exact trodAll_mk0
 | t :: ts,vs,ds,ps,ht,h=>by
  obtain ⟨v,vs',d,ds',p,q,rfl,rfl,rfl,h1,h2⟩:=trodAll_cons h
  simp only [List.all_cons,Bool.and_eq_true,decide_eq_true_eq] at ht
  have hlt : ∀ x ∈ p,x.block < W.heap.size:=by obtain ⟨m,hm⟩:=h1;exact DataW.trod_lt m _ _ _ hm
  exact trodAll_cons_mk (Below.trod hl ht.1.1 ht.1.2 h1 hb hlt) (trodAll_stays hl hb ts vs' ds' q ht.2 h2)
theorem law_post {f : Func} {s : ChangeSpec} {W W' : World} {args : Array Value} {ds gs : List (DataW H)} {before : List MemPlace} {tb : TypeId} (hl : laidOutB P = true) (hp : (f.params.toList.all fun t=>P.readableRec t && decide (t < P.types.size)) = true)
  (hr : f.resultTypes = #[tb]) (hub : P.underlying tb = some .bool) (hv : s.vars = []) (hres : (s.fn H ds).results = [.lit (.bool true)]) (hargs : (s.fn H ds).args = ds) (hvars : (s.fn H ds).vars = [])
  (hW : DataW.Whole enc P f.params.toList s.vars false W args.toList ds gs before) (bel : Below W.heap.size W W') : s.post enc P f false true false false W args (.bool true) W':=by
 have hW':=hW
 obtain ⟨p,q,hA,hV,rfl,_,_⟩:=hW
 rw [hv] at hV
 obtain ⟨rfl,rfl⟩:=trodVars_none hV
 refine ⟨ds,[],p ++ [],[],p,[],hW',?_,?_,?_,bel.frame _,fun h=>by cases h⟩
 ·rw [List.append_nil,hres,hr]
  exact trodAll_mk1 (shut_bool hub _)
 ·rw [List.append_nil,hargs]
  exact trodAll_stays hl bel _ _ _ _ hp hA
 ·rw [List.append_nil,hvars,hv]
  rfl
end
end Go.E2
end
section
namespace Go.E2
open Go.ChangeShapes
variable {P : Program} {W : World}
theorem laidVars_mem : ∀ {laid : List (String × DataW Unit)} {ps : List MemPlace} {n : String} {d : DataW Unit},DataW.LaidVars P W laid ps → (n,d) ∈ laid →
  ∃ g t cs fuel p,P.globalNamed n = some g ∧ (P.globals[g]?).map (·.type) = some t ∧ W.var? P n = some cs ∧ DataW.trod (fun _=>()) P W 0 (fun _=>true) false fuel t cs.toList = some (d,p)
 | [],_,_,_,_,hm=>by cases hm
 | (m,e) :: r,ps,n,d,h,hm=>by
  obtain ⟨g,t,cs,fuel,p,q,h1,h2,h3,h4,h5,_⟩:=h
  rcases List.mem_cons.1 hm with e1 | e1
  ·cases e1;exact ⟨g,t,cs,fuel,p,h1,h2,h3,h4⟩
  ·exact laidVars_mem h5 e1
theorem var_cell {n : String} {g : Nat} {cs : Array Value} (hg : P.globalNamed n = some g) (hv : W.var? P n = some cs) {k : Nat} {v : Value} (hk : cs.toList[k]? = some v) : (M1 W).cell g k = some v:=by
 refine M1_cell ?_
 unfold World.var? at hv
 rw [hg] at hv
 simp only [Option.bind_some] at hv
 unfold World.cell?
 simp only
 split at hv
 ·rename_i c e f hh
  cases hv
  rw [hh]
  simpa using hk
 ·cases hv
theorem chunk {cs : List Value} {i sz : Nat} {l : List Value} (h : (cs.drop (i * sz)).take sz = l) {j : Nat} (hj : j < sz) {v : Value} (hv : l[j]? = some v) : cs[i * sz + j]? = some v:=by
 subst h
 rw [List.getElem?_take_of_lt hj,List.getElem?_drop] at hv
 exact hv
theorem tab_first {H : Type} {enc : TypeId × Value → H} {fuel t e : Nat} {cs : List Value} {d : DataW H} {p : List MemPlace} (h : DataW.trod enc P W 0 (fun _=>true) false fuel t cs = some (d,p)) (hu : P.underlying t = some (.array 256 e)) (he : P.underlying e = some (.int .u8)) (hc : P.cellsOf e = 1) (hd : d = .agg (utf8First.map fun n=>.lit (.int .u8 n))) :
  ∀ (k : Nat) x,utf8First[k]? = some x → cs[k]? = some (.int .u8 x):=by
 obtain ⟨xs,m,_,hx,_,hl,hat⟩:=DataW.trod_array hu h
 intro k x hk
 have hkl : k < 256:=by
  have:=(List.getElem?_eq_some_iff.1 hk).1
  have e : utf8First.length = 256:=by decide +kernel
  omega
 have h1:=hat k hkl
 rw [List.getElem?_eq_getElem (by omega)] at h1
 obtain ⟨n,q1,q2,_⟩:=DataW.trod_int he h1
 have h2 : xs.map (·.1) = utf8First.map fun n=>.lit (.int .u8 n):=by
  have:=hx.symm.trans (by rw [hd] : (d,p) = (.agg (utf8First.map fun n=>.lit (.int .u8 n)),p))
  simp only [Prod.mk.injEq,DataW.agg.injEq] at this
  exact this.1
 have h3 : (xs.map (·.1))[k]? = some (.lit (.int .u8 x)):=by rw [h2,List.getElem?_map,hk];rfl
 rw [List.getElem?_map,List.getElem?_eq_getElem (show k < xs.length by omega),q2] at h3
 simp only [Option.map_some,Option.some.injEq,DataW.lit.injEq,Lit.int.injEq,true_and] at h3
 subst h3
 rw [hc] at q1
 have:=chunk q1 (j:=0) (by omega) rfl
 simpa using this
theorem tab_accept {H : Type} {enc : TypeId × Value → H} {fuel t e e1 : Nat} {cs : List Value} {d : DataW H} {p : List MemPlace} {f0 f1 : Field} (h : DataW.trod enc P W 0 (fun _=>true) false fuel t cs = some (d,p)) (hu : P.underlying t = some (.array 16 e)) (he : P.underlying e = some (.struct #[f0,f1])) (hc : P.cellsOf e = 2)
  (t0 : f0.type = e1) (o0 : f0.offset = 0) (t1 : f1.type = e1) (o1 : f1.offset = 1) (he1 : P.underlying e1 = some (.int .u8)) (hc1 : P.cellsOf e1 = 1) (hd : d = .agg (utf8Accept.map fun n=>.agg [.lit (.int .u8 n.1),.lit (.int .u8 n.2)])) :
  ∀ (k : Nat) x,utf8Accept[k]? = some x → cs[k * 2]? = some (.int .u8 x.1) ∧ cs[k * 2 + 1]? = some (.int .u8 x.2):=by
 obtain ⟨xs,m,_,hx,_,hl,hat⟩:=DataW.trod_array hu h
 intro k x hk
 have hkl : k < 16:=by
  have:=(List.getElem?_eq_some_iff.1 hk).1
  have e : utf8Accept.length = 16:=by decide +kernel
  omega
 have h1:=hat k hkl
 rw [List.getElem?_eq_getElem (by omega)] at h1
 obtain ⟨ys,m2,_,g1,g2,g3,g4⟩:=DataW.trod_struct he h1
 have h2 : xs.map (·.1) = utf8Accept.map fun n=>.agg [.lit (.int .u8 n.1),.lit (.int .u8 n.2)]:=by
  have:=hx.symm.trans (by rw [hd] : (d,p) = (.agg (utf8Accept.map fun n=>.agg [.lit (.int .u8 n.1),.lit (.int .u8 n.2)]),p))
  simp only [Prod.mk.injEq,DataW.agg.injEq] at this
  exact this.1
 have h3 : (xs.map (·.1))[k]? = some (.agg [.lit (.int .u8 x.1),.lit (.int .u8 x.2)]):=by rw [h2,List.getElem?_map,hk];rfl
 rw [List.getElem?_map,List.getElem?_eq_getElem (show k < xs.length by omega),g1] at h3
 simp only [Option.map_some,Option.some.injEq,DataW.agg.injEq] at h3
 have r0:=g4 0 f0 rfl
 have r1:=g4 1 f1 rfl
 match ys,h3 with
 | [y0,y1],h3 =>
  simp only [List.map_cons,List.map_nil,List.cons.injEq,and_true] at h3
  rw [t0,o0] at r0
  rw [t1,o1] at r1
  obtain ⟨n0,q0,q0',_⟩:=DataW.trod_int he1 (r0.trans rfl)
  obtain ⟨n1,q1,q1',_⟩:=DataW.trod_int he1 (r1.trans rfl)
  rw [q0',q1'] at h3
  simp only [DataW.lit.injEq,Lit.int.injEq,true_and] at h3
  obtain ⟨e0,e1'⟩:=h3
  subst e0 e1'
  rw [hc1] at q0 q1
  rw [hc] at q0 q1
  have c0:=chunk (cs:=(cs.drop (k * 2)).take 2) (i:=0) (sz:=1) (by simpa using q0) (j:=0) (by omega) rfl
  have c1:=chunk (cs:=(cs.drop (k * 2)).take 2) (i:=1) (sz:=1) q1 (j:=0) (by omega) rfl
  refine ⟨?_,?_⟩
  ·have:=chunk (cs:=cs) (i:=k) (sz:=2) rfl (j:=0) (by omega) (by simpa using c0)
   simpa using this
  ·exact chunk (cs:=cs) (i:=k) (sz:=2) rfl (j:=1) (by omega) (by simpa using c1)
theorem tab_sty {H : Type} {enc : TypeId × Value → H} {fuel t e eb ei : Nat} {cs : List Value} {d : DataW H} {p : List MemPlace} {f0 f1 f2 f3 : Field} (h : DataW.trod enc P W 0 (fun _=>true) false fuel t cs = some (d,p)) (hu : P.underlying t = some (.array 22 e)) (he : P.underlying e = some (.struct #[f0,f1,f2,f3])) (hc : P.cellsOf e = 4)
  (t0 : f0.type = eb) (o0 : f0.offset = 0) (t1 : f1.type = ei) (o1 : f1.offset = 1) (t2 : f2.type = ei) (o2 : f2.offset = 2) (t3 : f3.type = ei) (o3 : f3.offset = 3) (heb : P.underlying eb = some .bool) (hcb : P.cellsOf eb = 1) (hei : P.underlying ei = some (.int .i64)) (hci : P.cellsOf ei = 1)
  (hd : d = .agg (styProps.map fun n=>.agg [.lit (.bool n.1),.lit (.int .i64 n.2.1),.lit (.int .i64 n.2.2.1),.lit (.int .i64 n.2.2.2)])) :
  ∀ (k : Nat) x,styProps[k]? = some x → cs[k * 4]? = some (.bool x.1) ∧ cs[k * 4 + 1]? = some (.int .i64 x.2.1) ∧ cs[k * 4 + 2]? = some (.int .i64 x.2.2.1) ∧ cs[k * 4 + 3]? = some (.int .i64 x.2.2.2):=by
 obtain ⟨xs,m,_,hx,_,hl,hat⟩:=DataW.trod_array hu h
 intro k x hk
 have hkl : k < 22:=by
  have:=(List.getElem?_eq_some_iff.1 hk).1
  have e : styProps.length = 22:=by decide +kernel
  omega
 have h1:=hat k hkl
 rw [List.getElem?_eq_getElem (by omega)] at h1
 obtain ⟨ys,m2,_,g1,g2,g3,g4⟩:=DataW.trod_struct he h1
 have h2 : xs.map (·.1) = styProps.map fun n=>.agg [.lit (.bool n.1),.lit (.int .i64 n.2.1),.lit (.int .i64 n.2.2.1),.lit (.int .i64 n.2.2.2)]:=by
  have:=hx.symm.trans (by rw [hd] : (d,p) = (.agg (styProps.map fun n=>.agg [.lit (.bool n.1),.lit (.int .i64 n.2.1),.lit (.int .i64 n.2.2.1),.lit (.int .i64 n.2.2.2)]),p))
  simp only [Prod.mk.injEq,DataW.agg.injEq] at this
  exact this.1
 have h3 : (xs.map (·.1))[k]? = some (.agg [.lit (.bool x.1),.lit (.int .i64 x.2.1),.lit (.int .i64 x.2.2.1),.lit (.int .i64 x.2.2.2)]):=by rw [h2,List.getElem?_map,hk];rfl
 rw [List.getElem?_map,List.getElem?_eq_getElem (show k < xs.length by omega),g1] at h3
 simp only [Option.map_some,Option.some.injEq,DataW.agg.injEq] at h3
 have r0:=g4 0 f0 rfl
 have r1:=g4 1 f1 rfl
 have r2:=g4 2 f2 rfl
 have r3:=g4 3 f3 rfl
 match ys,h3 with
 | [y0,y1,y2,y3],h3 =>
  simp only [List.map_cons,List.map_nil,List.cons.injEq,and_true] at h3
  rw [t0,o0] at r0
  rw [t1,o1] at r1
  rw [t2,o2] at r2
  rw [t3,o3] at r3
  obtain ⟨n0,q0,q0'⟩:=DataW.trod_bool heb (r0.trans rfl)
  obtain ⟨n1,q1,q1',_⟩:=DataW.trod_int hei (r1.trans rfl)
  obtain ⟨n2,q2,q2',_⟩:=DataW.trod_int hei (r2.trans rfl)
  obtain ⟨n3,q3,q3',_⟩:=DataW.trod_int hei (r3.trans rfl)
  rw [q0',q1',q2',q3'] at h3
  simp only [DataW.lit.injEq,Lit.int.injEq,Lit.bool.injEq,true_and] at h3
  obtain ⟨e0,e1',e2',e3'⟩:=h3
  subst e0 e1' e2' e3'
  rw [hcb] at q0
  rw [hci] at q1 q2 q3
  rw [hc] at q0 q1 q2 q3
  have c0:=chunk (cs:=(cs.drop (k * 4)).take 4) (i:=0) (sz:=1) (by simpa using q0) (j:=0) (by omega) rfl
  have c1:=chunk (cs:=(cs.drop (k * 4)).take 4) (i:=1) (sz:=1) q1 (j:=0) (by omega) rfl
  have c2:=chunk (cs:=(cs.drop (k * 4)).take 4) (i:=2) (sz:=1) q2 (j:=0) (by omega) rfl
  have c3:=chunk (cs:=(cs.drop (k * 4)).take 4) (i:=3) (sz:=1) q3 (j:=0) (by omega) rfl
  refine ⟨?_,?_,?_,?_⟩
  ·have:=chunk (cs:=cs) (i:=k) (sz:=4) rfl (j:=0) (by omega) (by simpa using c0)
   simpa using this
  ·exact chunk (cs:=cs) (i:=k) (sz:=4) rfl (j:=1) (by omega) (by simpa using c1)
  ·exact chunk (cs:=cs) (i:=k) (sz:=4) rfl (j:=2) (by omega) (by simpa using c2)
  ·exact chunk (cs:=cs) (i:=k) (sz:=4) rfl (j:=3) (by omega) (by simpa using c3)
theorem tab_of {laid : List (String × DataW Unit)} {t1 e1 t2 e2 e3 : Nat} {f0 f1 : Field} {d1 d2 : DataW Unit} (h : laidMetH P laid W) (hh : (laid.filter fun x => x.2.handleName?.isSome) = []) (m1 : ("unicode/utf8.first", d1) ∈ laid) (m2 : ("unicode/utf8.acceptRanges", d2) ∈ laid)
  (n1 : (P.globalNamed "unicode/utf8.first").bind (fun g => (P.globals[g]?).map (·.type)) = some t1) (n2 : (P.globalNamed "unicode/utf8.acceptRanges").bind (fun g => (P.globals[g]?).map (·.type)) = some t2)
  (hu1 : P.underlying t1 = some (.array 256 e1)) (he1 : P.underlying e1 = some (.int .u8)) (hc1 : P.cellsOf e1 = 1) (hd1 : d1 = .agg (utf8First.map fun n=>.lit (.int .u8 n)))
  (hu2 : P.underlying t2 = some (.array 16 e2)) (he2 : P.underlying e2 = some (.struct #[f0,f1])) (hc2 : P.cellsOf e2 = 2) (ft0 : f0.type = e3) (fo0 : f0.offset = 0) (ft1 : f1.type = e3) (fo1 : f1.offset = 1) (he3 : P.underlying e3 = some (.int .u8)) (hc3 : P.cellsOf e3 = 1)
  (hd2 : d2 = .agg (utf8Accept.map fun n=>.agg [.lit (.int .u8 n.1),.lit (.int .u8 n.2)]))
  (h3 : P.globalNamed "widgetry/style.absent" = none ∨ ∃ (d3 : DataW Unit) (t3 e3 eb ei : Nat) (f0 f1 f2 f3 : Field), ("widgetry/style.absent", d3) ∈ laid ∧ (P.globalNamed "widgetry/style.absent").bind (fun g => (P.globals[g]?).map (·.type)) = some t3 ∧ P.underlying t3 = some (.array 22 e3) ∧ P.underlying e3 = some (.struct #[f0, f1, f2, f3]) ∧ P.cellsOf e3 = 4 ∧
   f0.type = eb ∧ f0.offset = 0 ∧ f1.type = ei ∧ f1.offset = 1 ∧ f2.type = ei ∧ f2.offset = 2 ∧ f3.type = ei ∧ f3.offset = 3 ∧ P.underlying eb = some .bool ∧ P.cellsOf eb = 1 ∧ P.underlying ei = some (.int .i64) ∧ P.cellsOf ei = 1 ∧
   d3 = .agg (styProps.map fun n=>.agg [.lit (.bool n.1),.lit (.int .i64 n.2.1),.lit (.int .i64 n.2.2.1),.lit (.int .i64 n.2.2.2)])) : Tab P (M1 W):=by
 unfold laidMetH at h
 rw [hh] at h
 obtain ⟨ps,hv,_,_⟩:=h
 refine ⟨?_,?_,?_⟩
 ·intro g hg k x hk
  obtain ⟨g',t,cs,fuel,p,a1,a2,a3,a4⟩:=laidVars_mem hv m1
  rw [hg] at a1;cases a1
  rw [hg] at n1
  simp only [Option.bind_some] at n1
  rw [a2] at n1;cases n1
  exact var_cell hg a3 (tab_first a4 hu1 he1 hc1 hd1 k x hk)
 ·intro g hg k x hk
  obtain ⟨g',t,cs,fuel,p,a1,a2,a3,a4⟩:=laidVars_mem hv m2
  rw [hg] at a1;cases a1
  rw [hg] at n2
  simp only [Option.bind_some] at n2
  rw [a2] at n2;cases n2
  have:=tab_accept a4 hu2 he2 hc2 ft0 fo0 ft1 fo1 he3 hc3 hd2 k x hk
  exact ⟨var_cell hg a3 this.1,var_cell hg a3 this.2⟩
 ·intro g hg k x hk
  rcases h3 with h3 | ⟨d3,t3,e3,eb,ei,f0,f1,f2,f3,m3,n3,hu3,hef,hc,t0,o0,t1,o1,t2,o2,t3',o3,heb,hcb,hei,hci,hd3⟩
  ·rw [h3] at hg;cases hg
  obtain ⟨g',t,cs,fuel,p,a1,a2,a3,a4⟩:=laidVars_mem hv m3
  rw [hg] at a1;cases a1
  rw [hg] at n3
  simp only [Option.bind_some] at n3
  rw [a2] at n3;cases n3
  have:=tab_sty a4 hu3 hef hc t0 o0 t1 o1 t2 o2 t3' o3 heb hcb hei hci hd3 k x hk
  exact ⟨var_cell hg a3 this.1,var_cell hg a3 this.2.1,var_cell hg a3 this.2.2.1,var_cell hg a3 this.2.2.2⟩
end Go.E2
end
section
namespace Go.E2
variable {P : Program} {C : Ctx} {F : FS} {ops : Array Oper} {dst : Nat} {op : Op} {ty : TypeId} {pos : String} {after : Array Edge}
section plain
variable {K V : Type} [BEq K]
end plain
structure KeyOk (P : Program) (kt : TypeId) {K : Type} [BEq K] (ek : K → Value) : Prop where
 law : ∀ a b : K,(a == b) = true → a = b
 d : ∃ d,P.underlying kt = some d ∧ (∀ a b,Instr.sameNow d (ek a) (ek b) = some (a == b)) ∧ ∀ e a w,(Instr.checkKey e 10000 kt (ek a)).run P w = .ok () w
 bits : ∀ a b,(a == b) = true → Instr.sameBits 10000 (ek a) (ek b) = true
end Go.E2
end
section
namespace Go.E2
variable {P : Program} {C : Ctx} {F : FS} {ops : Array Oper} {dst : Nat} {op : Op} {ty : TypeId} {pos : String} {after : Array Edge}
def dI (x : Int) : D:=.v (.int .i64 x)
def dB (x : Bool) : D:=.v (.bool x)
def dS (x : Str) : D:=.v (.string x)
def cI (x : Int) : Cell:=.d (.v (.int .i64 x))
def cB_ (x : Bool) : Cell:=.d (.v (.bool x))
def aI (x : Int) : A1:=.c (.d (.v (.int .i64 x)))
def aB (x : Bool) : A1:=.c (.d (.v (.bool x)))
def aS (x : Str) : A1:=.c (.d (.v (.string x)))
theorem OkOps.x {o : Op} {rest : List Oper} {Q : AState → Prop} {sl : List (Nat × AV)} {bl : List (Nat × Ob)} {nx : Nat} (x : A1) (he : evQ P ⟨look sl,look bl⟩ ty o = some x) (hs : sideOk ⟨look sl,look bl⟩ true o.operands.toList) (hn : Nat.blt dst C.n = true) (h : OkOps P C ops rest Q ⟨(dst,.s x) :: sl,bl,nx⟩) :
  OkOps P C ops (⟨some dst,o,ty,pos,after,none⟩ :: rest) Q ⟨sl,bl,nx⟩:=OkOps.q (triQ he hs hn) h
theorem OkD.x {o : Op} {rest : List Oper} {ss0 : List Sum} {Q : AState → Prop} {sl : List (Nat × AV)} {bl : List (Nat × Ob)} {nx : Nat} (x : A1) (he : evQ P ⟨look sl,look bl⟩ ty o = some x) (hs : sideOk ⟨look sl,look bl⟩ true o.operands.toList) (hn : Nat.blt dst C.n = true)
  (h : OkD P C ops rest (⟨slotsOf o.operands.toList,ldBlk ⟨look sl,look bl⟩ o,[dst],[]⟩ :: ss0) Q ⟨(dst,.s x) :: sl,bl,nx⟩) : OkD P C ops (⟨some dst,o,ty,pos,after,none⟩ :: rest) ss0 Q ⟨sl,bl,nx⟩:=OkD.q (triQ he hs hn) h
theorem OkOps.y {o : Op} {rest : List Oper} {Q : AState → Prop} {sl : List (Nat × AV)} {bl : List (Nat × Ob)} {nx : Nat} (x : A1) (h : OkOps P C ops rest Q ⟨(dst,.s x) :: sl,bl,nx⟩) (he : evQ P ⟨look sl,look bl⟩ ty o = some x:=by exact rfl) (hs : sideOk ⟨look sl,look bl⟩ true o.operands.toList:=by exact trivial) (hn : Nat.blt dst C.n = true:=by exact rfl) :
  OkOps P C ops (⟨some dst,o,ty,pos,after,none⟩ :: rest) Q ⟨sl,bl,nx⟩:=OkOps.x x he hs hn h
theorem triCl [HasTab P C] {f : FuncId} {args : Array Operand} {argTypes : Array TypeId} {ys las : List A1} {bl bl' : List (Nat × Ob)} {res : AV} (σ : Nat → Nat) (res' : AV) (Wb : List (Nat × Ob)) (hc : Con P f las bl res bl') (hy : rds F args.toList = some ys) (hfit : Fits ys (las.map (A1.ren σ))) (hs : sideOk F true args.toList) (hf : Entry P f) (hl : lentOk F σ bl)
  (hdom : domB bl' bl = true:=by exact rfl) (hap : apart σ bl' = true:=by exact rfl) (hsc : blIn bl bl = true:=by exact rfl) (hsa : a1sIn bl las = true:=by exact rfl) (hnew : allNone F (newNames σ bl bl'):=by exact trivial) (hn : Nat.blt dst C.n = true:=by exact rfl) (hres : res.ren σ = res':=by exact rfl) (hWb : renBl σ bl' = Wb:=by exact rfl) :
  TriL P C ops ⟨some dst,.call ⟨.value (.func f),args,argTypes⟩,ty,pos,after,none⟩ ⟨slotsOf args.toList,Wb.map (·.1),[dst],Wb.map (·.1)⟩ [(dst,res')] Wb F:=triCall σ res' Wb hc hy hfit hs hf hl hdom hap hsc hsa hnew hn hres hWb
end Go.E2
end
section
namespace Go.E2
variable {P : Program} {C : Ctx} {F : FS} {ops : Array Oper} {dst : Nat} {ty : TypeId} {pos : String} {after : Array Edge}
end Go.E2
end
section
namespace Go.Proofs.YtobiohcdpfpefaaDoor
open Go Go.E2
theorem entry7 : Entry Tryd.prog 7:=⟨_,Tryd.func7,by kernel_rfl,by kernel_rfl⟩
theorem entry8 : Entry Tryd.prog 8:=⟨_,Tryd.func8,by kernel_rfl,by kernel_rfl⟩
theorem entry9 : Entry Tryd.prog 9:=⟨_,Tryd.func9,by kernel_rfl,by kernel_rfl⟩
theorem entry11 : Entry Tryd.prog 11:=⟨_,Tryd.func11,by kernel_rfl,by kernel_rfl⟩
theorem entry12 : Entry Tryd.prog 12:=⟨_,Tryd.func12,by kernel_rfl,by kernel_rfl⟩
theorem entry13 : Entry Tryd.prog 13:=⟨_,Tryd.func13,by kernel_rfl,by kernel_rfl⟩
theorem entry14 : Entry Tryd.prog 14:=⟨_,Tryd.func14,by kernel_rfl,by kernel_rfl⟩
theorem entry16 : Entry Tryd.prog 16:=⟨_,Tryd.func16,by kernel_rfl,by kernel_rfl⟩
theorem entry18 : Entry Tryd.prog 18:=⟨_,Tryd.func18,by kernel_rfl,by kernel_rfl⟩
theorem entry22 : Entry Tryd.prog 22:=⟨_,Tryd.func22,by kernel_rfl,by kernel_rfl⟩
theorem entry23 : Entry Tryd.prog 23:=⟨_,Tryd.func23,by kernel_rfl,by kernel_rfl⟩
theorem entry24 : Entry Tryd.prog 24:=⟨_,Tryd.func24,by kernel_rfl,by kernel_rfl⟩
theorem entry25 : Entry Tryd.prog 25:=⟨_,Tryd.func25,by kernel_rfl,by kernel_rfl⟩
theorem entry27 : Entry Tryd.prog 27:=⟨_,Tryd.func27,by kernel_rfl,by kernel_rfl⟩
theorem entry28 : Entry Tryd.prog 28:=⟨_,Tryd.func28,by kernel_rfl,by kernel_rfl⟩
theorem entry29 : Entry Tryd.prog 29:=⟨_,Tryd.func29,by kernel_rfl,by kernel_rfl⟩
theorem entry30 : Entry Tryd.prog 30:=⟨_,Tryd.func30,by kernel_rfl,by kernel_rfl⟩
theorem entry31 : Entry Tryd.prog 31:=⟨_,Tryd.func31,by kernel_rfl,by kernel_rfl⟩
theorem entry34 : Entry Tryd.prog 34:=⟨_,Tryd.func34,by kernel_rfl,by kernel_rfl⟩
theorem entry35 : Entry Tryd.prog 35:=⟨_,Tryd.func35,by kernel_rfl,by kernel_rfl⟩
theorem entry44 : Entry Tryd.prog 44:=⟨_,Tryd.func44,by kernel_rfl,by kernel_rfl⟩
theorem entry45 : Entry Tryd.prog 45:=⟨_,Tryd.func45,by kernel_rfl,by kernel_rfl⟩
theorem entry46 : Entry Tryd.prog 46:=⟨_,Tryd.func46,by kernel_rfl,by kernel_rfl⟩
theorem entry47 : Entry Tryd.prog 47:=⟨_,Tryd.func47,by kernel_rfl,by kernel_rfl⟩
theorem entry48 : Entry Tryd.prog 48:=⟨_,Tryd.func48,by kernel_rfl,by kernel_rfl⟩
theorem entry49 : Entry Tryd.prog 49:=⟨_,Tryd.func49,by kernel_rfl,by kernel_rfl⟩
theorem entry50 : Entry Tryd.prog 50:=⟨_,Tryd.func50,by kernel_rfl,by kernel_rfl⟩
theorem entry57 : Entry Tryd.prog 57:=⟨_,Tryd.func57,by kernel_rfl,by kernel_rfl⟩
theorem entry58 : Entry Tryd.prog 58:=⟨_,Tryd.func58,by kernel_rfl,by kernel_rfl⟩
theorem entry70 : Entry Tryd.prog 70:=⟨_,Tryd.func70,by kernel_rfl,by kernel_rfl⟩
theorem entry71 : Entry Tryd.prog 71:=⟨_,Tryd.func71,by kernel_rfl,by kernel_rfl⟩
theorem entry72 : Entry Tryd.prog 72:=⟨_,Tryd.func72,by kernel_rfl,by kernel_rfl⟩
theorem entry91 : Entry Tryd.prog 91:=⟨_,Tryd.func91,by kernel_rfl,by kernel_rfl⟩
theorem entry92 : Entry Tryd.prog 92:=⟨_,Tryd.func92,by kernel_rfl,by kernel_rfl⟩
theorem entry107 : Entry Tryd.prog 107:=⟨_,Tryd.func107,by kernel_rfl,by kernel_rfl⟩
theorem eqok34 : EqOk Tryd.prog 34:=⟨by kernel_rfl,by kernel_rfl,by kernel_rfl,by kernel_rfl⟩
end Go.Proofs.YtobiohcdpfpefaaDoor
end
section
namespace Go.E2
open Go.RowKit (Below)
variable {P : Program}
theorem InW.below {M : Mem} {w w' : World} (h : InW M w) (hb : Below w.heap.size w w') : InW M w':=by
 refine ⟨fun b o v hc=>?_,fun b o ho=>?_,fun b s hs=>?_⟩
 ·have h1:=h.cell b o v hc
  have hl:=h.lt hc
  unfold World.cell? at h1 ⊢
  simp only at h1 ⊢
  rw [hb.block b hl];exact h1
 ·obtain ⟨h1,h2⟩:=h.obj b o ho
  exact ⟨(hb.block b (h.ltO ho)).trans h1,h2⟩
 ·obtain ⟨⟨arr,ty,h1,h2⟩,h3⟩:=h.junk b s hs
  exact ⟨⟨arr,ty,(hb.block b (h.ltJ hs)).trans h1,h2⟩,h3⟩
theorem Con.ofCalls {f : FuncId} {args : List A1} {res : AV}
  (h : ∀ (M : Mem) (w : World) (vs : List Value),InW M w → Tab P M → (∀ ρ,A1.reps ρ M args vs) → Calls P f vs.toArray w fun e w'=>Below w.heap.size w w' ∧ ∃ u M',e = .returned u ∧ (∀ ρ,res.rep ρ M' u) ∧ M.le M' ∧ (∀ b,b < w.heap.size → (∀ o,M'.cell b o = M.cell b o) ∧ M'.obj b = M.obj b) ∧ M'.junk = M.junk ∧ InW M' w') :
  Con P f args [] res []:=by
 intro ρ M w g vs hT hr
 have hR:=(hr ρ (Agree.refl _ _)).1
 have hA : ∀ ρ',A1.reps ρ' M args vs:=fun ρ'=>(hr ρ' (fun j hj=>absurd rfl hj)).2
 refine (h M w vs hR.mem hT hA).mono ?_
 rintro e w' ⟨hb,u,M',rfl,hu,hle,hold,hj,hin⟩
 refine ⟨u,ρ,M',rfl,fun ρ' _=>⟨hu ρ',?_⟩⟩
 refine ⟨fun j ob hj=>(by cases hj),fun i j x y b hx=>(by cases hx),fun j ob b hj=>(by cases hj),hin,hle,fun b hb' hg=>hold b hb',⟨hb.os,hb.tape,hb.output,hb.size,fun k hk _=>hb.block k hk⟩,fun j hj=>absurd rfl hj,fun b s hs=>?_⟩
 rw [hj] at hs
 exact ⟨(hR.junkP b s hs).1,fun j ob hj=>(by cases hj)⟩
theorem Con.ofCallsV {f : FuncId} {args : List A1} {v : Value}
  (h : ∀ (M : Mem) (w : World) (vs : List Value),InW M w → (∀ ρ,A1.reps ρ M args vs) → Calls P f vs.toArray w fun e w'=>e = .returned v ∧ Below w.heap.size w w') :
  Con P f args [] (.s (.c (.d (.v v)))) [] :=
 Con.ofCalls fun M w vs hM _ hA=>(h M w vs hM hA).mono fun _e _w' ⟨he,hb⟩=>⟨hb,v,M,he,fun _ρ=>Rep.v v,Mem.le_refl M,fun _ _=>⟨fun _=>rfl,rfl⟩,rfl,hM.below hb⟩
end Go.E2
end
section
namespace Go.Proofs
open Go.Shelf
def Tryd.lays156_ren : Go.Shelf.Ren:=⟨fun | 156=>31 | 165=>56 | 166=>53 | 169=>55 | 240=>74 | 241=>76 | 276=>93 | 277=>95 | n=>n,fun | 31=>27 | 9=>9 | 3=>3 | 4=>4 | 0=>0 | 20=>20 | 72=>117 | 76=>120 | 70=>114 | 37=>115 | 75=>119 | 127=>147 | 164=>177 | 5=>5 | 80=>123 | n=>n,fun | n=>n⟩
theorem Tryd.lays156 : Go.Proofs.Lays.n156 Tryd.prog Tryd.lays156_ren:={
 mixed:=by kernel_rfl
 f156:=Tryd.func31.trans (congrArg some (by kernel_rfl))
 f165:=Tryd.func56.trans (congrArg some (by kernel_rfl))
 f166:=Tryd.func53.trans (congrArg some (by kernel_rfl))
 f169:=Tryd.func55.trans (congrArg some (by kernel_rfl))
 f240:=Tryd.func74.trans (congrArg some (by kernel_rfl))
 f241:=Tryd.func76.trans (congrArg some (by kernel_rfl))
 f276:=Tryd.func93.trans (congrArg some (by kernel_rfl))
 f277:=Tryd.func95.trans (congrArg some (by kernel_rfl))
 t0:=Tryd.underlying0
 a0:=Tryd.isAgg0
 z0:=Tryd.sizeOf0
 v0:=Tryd.zeroValue0
 t3:=Tryd.underlying3
 a3:=Tryd.isAgg3
 z3:=Tryd.sizeOf3
 v3:=Tryd.zeroValue3
 t4:=Tryd.underlying4
 a4:=Tryd.isAgg4
 z4:=Tryd.sizeOf4
 v4:=Tryd.zeroValue4
 t9:=Tryd.underlying9
 a9:=Tryd.isAgg9
 z9:=Tryd.sizeOf9
 v9:=Tryd.zeroValue9
 t20:=Tryd.underlying20
 a20:=Tryd.isAgg20
 z20:=Tryd.sizeOf20
 v20:=Tryd.zeroValue20
 t31:=Tryd.underlying27
 a31:=Tryd.isAgg27
 z31:=Tryd.sizeOf27
 v31:=Tryd.zeroValue27
 t37:=Tryd.underlying115
 a37:=Tryd.isAgg115
 z37:=Tryd.sizeOf115
 v37:=Tryd.zeroValue115
 t70:=Tryd.underlying114
 a70:=Tryd.isAgg114
 z70:=Tryd.sizeOf114
 v70:=Tryd.zeroValue114
 t72:=Tryd.underlying117
 a72:=Tryd.isAgg117
 z72:=Tryd.sizeOf117
 v72:=Tryd.zeroValue117
 t75:=Tryd.underlying119
 a75:=Tryd.isAgg119
 z75:=Tryd.sizeOf119
 v75:=Tryd.zeroValue119
 t76:=Tryd.underlying120
 a76:=Tryd.isAgg120
 z76:=Tryd.sizeOf120
 v76:=Tryd.zeroValue120
 t127:=Tryd.underlying147
 a127:=Tryd.isAgg147
 z127:=Tryd.sizeOf147
 v127:=Tryd.zeroValue147
 t164:=Tryd.underlying177
 a164:=Tryd.isAgg177
 z164:=Tryd.sizeOf177
 v164:=Tryd.zeroValue177 }
theorem Tryd.Builder_Extra_156 : Builder.Extra Tryd.prog Tryd.lays156_ren:={
 sizeBuilder:=by kernel_rfl
 liesBuilder:=by kernel_rfl
 t5:=Tryd.underlying5
 a5:=Tryd.isAgg5
 z5:=Tryd.sizeOf5
 v5:=Tryd.zeroValue5
 infoByte:=by kernel_rfl
 cellsByte:=by kernel_rfl
 sizeByte:=by kernel_rfl
 neB5:=by decide }
open Go.RowKit in
theorem Tryd.strings_Join_none (a : Option Addr) (c : Nat) (sep : ByteArray) (w : World) :
  Calls Tryd.prog 31 #[.slice a 0 c,.string sep] w fun e w'=>e = .returned (.string ⟨#[]⟩) ∧ w' = w:=Any.strings_Join_none Tryd.lays156 Tryd.Builder_Extra_156 a c sep w
open Go.RowKit in
theorem Tryd.strings_Join (bk o c : Nat) (xs : List ByteArray) (sep : ByteArray) (w : World) (hcells : ∀ (j : Nat) x,xs[j]? = some x → w.cell? ⟨bk,o + j,none⟩ = some (.string x)) (hbk : bk < w.heap.size) (hN : xs.length ≤ 140737488355328) (hcap : xs.length ≤ c) (hlen : (Lib.join (xs.map (·.data.toList)) sep.data.toList).length ≤ 140737488355328) :
  Calls Tryd.prog 31 #[.slice (some ⟨bk,o,none⟩) xs.length c,.string sep] w fun e w'=>e = .returned (.string ⟨(Lib.join (xs.map (·.data.toList)) sep.data.toList).toArray⟩) ∧ Below w.heap.size w w':=Any.strings_Join Tryd.lays156 Tryd.Builder_Extra_156 bk o c xs sep w hcells hbk hN hcap hlen
end Go.Proofs
namespace Go.Proofs.YtobiohcdpfpefaaDoor
open Go Go.E2
def joinS (l : List Str) (sep : Str) : Str:=⟨(Go.Lib.join (l.map (·.data.toList)) sep.data.toList).toArray⟩
def strings_Join (l : List Str) (sep : Str) : Option Str:=if l.length ≤ 140737488355328 ∧ (Go.Lib.join (l.map (·.data.toList)) sep.data.toList).length ≤ 140737488355328 then some (joinS l sep) else none
theorem strRow {M : Mem} {b off k : Nat} {x : Str} {f : Nat → Nat → Value} {l : List Str} {sz : Nat} (hl : ∀ (i : Nat) row,(List.map eStr l)[i]? = some row → row.length = sz) (hm : ∀ (i : Nat) row (j : Nat) d,(List.map eStr l)[i]? = some row → row[j]? = some d → M.cell b (off + i * sz + j) = some (f i j)) (he : ∀ (i : Nat) row (j : Nat) d,(List.map eStr l)[i]? = some row → row[j]? = some d → Rep M d (f i j)) (hk : l[k]? = some x) : M.cell b (off + k) = some (.string x):=by
 have h1 : (List.map eStr l)[k]? = some (eStr x):=by rw [List.getElem?_map,hk];rfl
 have hs : sz = 1:=(hl k _ h1).symm
 subst hs
 have h2:=hm k _ 0 _ h1 rfl
 have h3:=he k _ 0 _ h1 rfl
 rw [Rep.v_inv h3] at h2
 simpa using h2
theorem sl_inv {M : Mem} {l : List (List D)} {v : Value} (h : Rep M (.sl l) v) (hne : l ≠ []) : ∃ (b off cap sz : Nat) (f : Nat → Nat → Value),v = .slice (some ⟨b,off,none⟩) l.length cap ∧ l.length ≤ cap ∧ (∀ (i : Nat) row,l[i]? = some row → row.length = sz) ∧ (∀ (i : Nat) row (j : Nat) d,l[i]? = some row → row[j]? = some d → M.cell b (off + i * sz + j) = some (f i j)) ∧ (∀ (i : Nat) row (j : Nat) d,l[i]? = some row → row[j]? = some d → Rep M d (f i j)):=by
 cases h with
 | nil=>exact absurd rfl hne
 | sl hc hl hm he=>exact ⟨_,_,_,_,_,rfl,hc,hl,hm,he⟩
theorem strings_Join_c (elems : List Str) (sep : Str) {r : Str} (hr : strings_Join elems sep = some r) : Con Tryd.prog 31 [.c (.d (.sl (List.map eStr elems))),aS sep] [] (.s (aS r)) []:=by
 unfold strings_Join at hr
 split at hr
 ·rename_i hc
  cases hr
  refine Con.ofCallsV fun M w vs hM hA=>?_
  have h0:=hA (fun _=>.bool false)
  match vs,h0 with
  | [v1,v2],h0 =>
   have e1 : Rep M (.sl (List.map eStr elems)) v1:=h0.1
   have e2 : v2 = .string sep:=Rep.v_inv h0.2.1
   subst e2
   by_cases hn : elems = []
   ·subst hn
    obtain ⟨a,cap,rfl⟩:=e1.sl_cases
    refine (Tryd.strings_Join_none a cap sep w).mono ?_
    rintro e w' ⟨rfl,rfl⟩
    exact ⟨rfl,⟨rfl,rfl,rfl,Nat.le_refl _,fun _ _=>rfl⟩⟩
   ·obtain ⟨b,off,cap,sz,f,rfl,hcap,hl,hm,he⟩:=sl_inv e1 (by simpa using hn)
    have hcell : ∀ (j : Nat) x,elems[j]? = some x → M.cell b (off + j) = some (.string x):=fun j x hj=>strRow hl hm he hj
    have hb : b < w.heap.size:=by
     cases elems with
     | nil=>exact absurd rfl hn
     | cons x r=>exact hM.lt (hcell 0 x rfl)
    rw [List.length_map] at hcap ⊢
    refine (Tryd.strings_Join b off cap elems sep w (fun j x hj=>hM.cell _ _ _ (hcell j x hj)) hb hc.1 hcap hc.2).mono ?_
    rintro e w' ⟨rfl,hB⟩
    exact ⟨rfl,hB⟩
 ·cases hr
end Go.Proofs.YtobiohcdpfpefaaDoor
end
section
namespace Go.Proofs
open Go.Shelf
def Tryd.lays197_ren : Go.Shelf.Ren:=⟨fun | 197=>49 | 260=>73 | n=>n,fun | 9=>9 | 21=>21 | 3=>3 | 4=>4 | 5=>5 | 105=>110 | 119=>173 | 0=>0 | 46=>112 | 139=>176 | 138=>175 | n=>n,fun | 3=>0 | 4=>1 | n=>n⟩
theorem Tryd.lays197 : Go.Proofs.Lays.n197 Tryd.prog Tryd.lays197_ren:={
 mixed:=by kernel_rfl
 f197:=Tryd.func49.trans (congrArg some (by kernel_rfl))
 f260:=Tryd.func73.trans (congrArg some (by kernel_rfl))
 t0:=Tryd.underlying0
 a0:=Tryd.isAgg0
 z0:=Tryd.sizeOf0
 v0:=Tryd.zeroValue0
 t3:=Tryd.underlying3
 a3:=Tryd.isAgg3
 z3:=Tryd.sizeOf3
 v3:=Tryd.zeroValue3
 t4:=Tryd.underlying4
 a4:=Tryd.isAgg4
 z4:=Tryd.sizeOf4
 v4:=Tryd.zeroValue4
 t5:=Tryd.underlying5
 a5:=Tryd.isAgg5
 z5:=Tryd.sizeOf5
 v5:=Tryd.zeroValue5
 t9:=Tryd.underlying9
 a9:=Tryd.isAgg9
 z9:=Tryd.sizeOf9
 v9:=Tryd.zeroValue9
 t21:=Tryd.underlying21
 a21:=Tryd.isAgg21
 z21:=Tryd.sizeOf21
 v21:=Tryd.zeroValue21
 t46:=Tryd.underlying112
 a46:=Tryd.isAgg112
 z46:=Tryd.sizeOf112
 v46:=Tryd.zeroValue112
 t105:=Tryd.underlying110
 a105:=Tryd.isAgg110
 z105:=Tryd.sizeOf110
 v105:=Tryd.zeroValue110
 t119:=Tryd.underlying173
 a119:=Tryd.isAgg173
 z119:=Tryd.sizeOf173
 t138:=Tryd.underlying175
 a138:=Tryd.isAgg175
 z138:=Tryd.sizeOf175
 v138:=Tryd.zeroValue175
 t139:=Tryd.underlying176
 a139:=Tryd.isAgg176
 z139:=Tryd.sizeOf176
 v139:=Tryd.zeroValue176
 g3:=by kernel_rfl
 g4:=by kernel_rfl }
open Go.RowKit Go.Lib in
theorem Tryd.utf8_DecodeRuneInString (s : ByteArray) (w : World) (hT : Lib.Utf8Tabs 0 1 w) :
  Calls Tryd.prog 49 #[.string s] w fun e w'=>e = .returned (.tuple #[.int .i32 (Lib.decodeGo s).1,.int .i64 (Lib.decodeGo s).2]) ∧ Below w.heap.size w w':=Any.utf8_DecodeRuneInString Tryd.lays197 s w hT
end Go.Proofs
namespace Go.Proofs.YtobiohcdpfpefaaDoor
open Go Go.E2 Go.RowKit
theorem first_tab : ((List.range 256).all fun c=>utf8First[c]? == some ((Go.Lib.firstT c : Nat) : Int)) = true:=by decide +kernel
theorem acc_tab : ((List.range 16).all fun i=>utf8Accept[i]? == some (((Go.Lib.accLo i : Nat) : Int),((Go.Lib.accHi i : Nat) : Int))) = true:=by decide +kernel
theorem tabs_of {M : Mem} {w : World} (hM : InW M w) (hT : Tab Tryd.prog M) : Go.Lib.Utf8Tabs 0 1 w:=by
 refine ⟨fun c hc=>?_,fun i hi=>?_⟩
 ·have h:=List.all_eq_true.1 first_tab c (List.mem_range.2 hc)
  exact hM.cell _ _ _ (hT.1 0 (by kernel_rfl) c _ (by simpa using h))
 ·have h:=List.all_eq_true.1 acc_tab i (List.mem_range.2 hi)
  have h2:=hT.2.1 1 (by kernel_rfl) i _ (by simpa using h)
  rw [Nat.mul_comm 2 i]
  exact ⟨hM.cell _ _ _ h2.1,hM.cell _ _ _ h2.2⟩
def unicode_utf8_DecodeRuneInString (s : Str) : Option (Int × Int):=some (((Go.Lib.decodeGo s).1 : Int),((Go.Lib.decodeGo s).2 : Int))
theorem unicode_utf8_DecodeRuneInString_c (p_s : Str) {r : Int × Int} (hr : unicode_utf8_DecodeRuneInString p_s = some r) : Con Tryd.prog 49 [aS p_s] [] (.tup [.c (.d (.v (.int .i32 r.1))),aI r.2]) []:=by
 unfold unicode_utf8_DecodeRuneInString at hr
 cases hr
 refine Con.ofCalls fun M w vs hM hT hA=>?_
 have h0:=hA (fun _=>.bool false)
 match vs,h0 with
 | [v1],h0 =>
  have e1 : v1 = .string p_s:=Rep.v_inv h0.1
  subst e1
  refine (Tryd.utf8_DecodeRuneInString p_s w (tabs_of hM hT)).mono ?_
  rintro e w' ⟨rfl,hB⟩
  exact ⟨hB,_,M,rfl,fun ρ=>⟨_,rfl,Rep.v _,Rep.v _,trivial⟩,Mem.le_refl M,fun _ _=>⟨fun _=>rfl,rfl⟩,rfl,hM.below hB⟩
end Go.Proofs.YtobiohcdpfpefaaDoor
end
section
namespace Go.Proofs.YtobiohcdpfpefaaDoor
open Go Go.E2
structure AValue where
 Kind : Int
 N : Int
 S : Str
 L : (List AValue)
instance : Inhabited AValue:=⟨⟨0,0,ByteArray.empty,([] : (List AValue))⟩⟩
mutual
def AValue.cs : AValue → List D
 | ⟨v0,v1,v2,v3⟩=>[dI v0,dI v1,dS v2,.sl (AValue.csL v3)]
def AValue.csL : List AValue → List (List D)
 | []=>[]
 | x :: r=>AValue.cs x :: AValue.csL r
end
structure Attr where
 Name : Str
 Value : AValue
deriving Inhabited
def Attr.cs (x : Attr) : List Go.E2.D:=[dS x.Name,dI x.Value.Kind,dI x.Value.N,dS x.Value.S,.sl (List.map AValue.cs x.Value.L)]
structure Action where
 Event : Str
 Instance : Str
 Handler : Str
 Args : (List AValue)
deriving Inhabited
def Action.cs (x : Action) : List Go.E2.D:=[dS x.Event,dS x.Instance,dS x.Handler,.sl (List.map AValue.cs x.Args)]
structure View where
 Kind : Int
 Key : Str
 Attrs : (List Attr)
 Actions : (List Action)
 Kids : (List View)
instance : Inhabited View:=⟨⟨0,ByteArray.empty,([] : (List Attr)),([] : (List Action)),([] : (List View))⟩⟩
mutual
def View.cs : View → List D
 | ⟨v0,v1,v2,v3,v4⟩=>[dI v0,dS v1,.sl (List.map Attr.cs v2),.sl (List.map Action.cs v3),.sl (View.csL v4)]
def View.csL : List View → List (List D)
 | []=>[]
 | x :: r=>View.cs x :: View.csL r
end
structure Node where
 ID : Int
 Parent : Int
 Kind : Int
 Key : Str
 Attrs : (List Attr)
 Actions : (List Action)
 Kids : (List Int)
deriving Inhabited
def Node.cs (x : Node) : List Go.E2.D:=[dI x.ID,dI x.Parent,dI x.Kind,dS x.Key,.sl (List.map Attr.cs x.Attrs),.sl (List.map Action.cs x.Actions),.sl (List.map (eInt .i64) x.Kids)]
structure Tree where
 Root : Int
 Next : Int
 Nodes : (List Node)
deriving Inhabited
def Tree.cs (x : Tree) : List Go.E2.D:=[dI x.Root,dI x.Next,.sl (List.map Node.cs x.Nodes)]
structure AType where
 Kind : Int
 Of : (List AType)
instance : Inhabited AType:=⟨⟨0,([] : (List AType))⟩⟩
mutual
def AType.cs : AType → List D
 | ⟨v0,v1⟩=>[dI v0,.sl (AType.csL v1)]
def AType.csL : List AType → List (List D)
 | []=>[]
 | x :: r=>AType.cs x :: AType.csL r
end
end Go.Proofs.YtobiohcdpfpefaaDoor
end
section
namespace Go.Proofs.YtobiohcdpfpefaaDoor
open Go Go.E2
end Go.Proofs.YtobiohcdpfpefaaDoor
end
section
namespace Go.Proofs.YtobiohcdpfpefaaDoor
open Go Go.E2
end Go.Proofs.YtobiohcdpfpefaaDoor
end
section
namespace Go.Proofs.YtobiohcdpfpefaaDoor
open Go Go.E2
structure widgetrybase_Src where
 L : (List Int)
 At : Int
deriving Inhabited
def widgetrybase_Src.cs (x : widgetrybase_Src) : List Go.E2.D:=[.sl (List.map (eInt .i64) x.L),dI x.At]
def b_New (l : (List Int)) : Option widgetrybase_Src:=jn (fun (s1 : (List Int))=>some (widgetrybase_Src.mk s1 0)) fun k2=>sel (decide ((l.length : Int) > 4000)) ((slcO l 0 4000).bind fun x4=>k2 x4) (k2 l)
def b_Src_N (p_s : widgetrybase_Src) (p_n : Int) : Option (Int × widgetrybase_Src):=sel ((decide (p_s.At ≥ (p_s.L.length : Int))) || (decide (p_n < 1))) (some (0,p_s)) ((idxO p_s.L p_s.At).bind fun x2=>(nzO p_n (x2.tmod p_n)).bind fun x3=>jn (fun (s4 : Int)=>some (s4,(widgetrybase_Src.mk p_s.L (IntKind.i64.wrap (p_s.At + 1))))) fun k5=>sel (decide (x3 < 0)) (k5 (IntKind.i64.wrap (x3 + p_n))) (k5 x3))
def b_Src_Raw (p_s : widgetrybase_Src) : Option (Int × widgetrybase_Src):=sel (decide (p_s.At ≥ (p_s.L.length : Int))) (some (0,p_s)) ((idxO p_s.L (IntKind.i64.wrap ((IntKind.i64.wrap (p_s.At + 1)) - 1))).bind fun x2=>some (x2,(widgetrybase_Src.mk p_s.L (IntKind.i64.wrap (p_s.At + 1)))))
def b_Src_Chance (p_s : widgetrybase_Src) (p_n : Int) : Option (Bool × widgetrybase_Src):=(b_Src_N p_s p_n).bind fun x1=>some (x1.1 == (IntKind.i64.wrap (p_n - 1)),x1.2)
def b_Src_Range (p_s : widgetrybase_Src) (low : Int) (high : Int) : Option (Int × widgetrybase_Src):=(b_Src_N p_s (IntKind.i64.wrap ((IntKind.i64.wrap (high - low)) + 1))).bind fun x1=>some (IntKind.i64.wrap (low + x1.1),x1.2)
end Go.Proofs.YtobiohcdpfpefaaDoor
end
section
namespace Go.Proofs.YtobiohcdpfpefaaDoor
open Go Go.E2
end Go.Proofs.YtobiohcdpfpefaaDoor
end
section
namespace Go.Proofs.YtobiohcdpfpefaaDoor
open Go Go.E2
structure Chord where
 Key : Int
 Mods : Int
deriving Inhabited
def Chord.cs (x : Chord) : List Go.E2.D:=[dI x.Key,dI x.Mods]
structure Shortcut where
 Node : Int
 Scope : Int
 Keys : (List Chord)
deriving Inhabited
def Shortcut.cs (x : Shortcut) : List Go.E2.D:=[dI x.Node,dI x.Scope,.sl (List.map Chord.cs x.Keys)]
structure shortcut_choice where
 letter : Int
 at_ : Int
deriving Inhabited
def shortcut_choice.cs (x : shortcut_choice) : List Go.E2.D:=[dI x.letter,dI x.at_]
structure shortcut_matcher where
 l : (List (List shortcut_choice))
 owner : (Nat → Int)
 taken : (Nat → Bool)
deriving Inhabited
def shortcut_matcher.cs (x : shortcut_matcher) : List Go.E2.D:=[.sl (List.map (eSl shortcut_choice.cs) x.l),dI (x.owner 0),dI (x.owner 1),dI (x.owner 2),dI (x.owner 3),dI (x.owner 4),dI (x.owner 5),dI (x.owner 6),dI (x.owner 7),dI (x.owner 8),dI (x.owner 9),dI (x.owner 10),dI (x.owner 11),dI (x.owner 12),dI (x.owner 13),dI (x.owner 14),dI (x.owner 15),dI (x.owner 16),dI (x.owner 17),dI (x.owner 18),dI (x.owner 19),dI (x.owner 20),dI (x.owner 21),dI (x.owner 22),dI (x.owner 23),dI (x.owner 24),dI (x.owner 25),dI (x.owner 26),dI (x.owner 27),dI (x.owner 28),dI (x.owner 29),dI (x.owner 30),dI (x.owner 31),dI (x.owner 32),dI (x.owner 33),dI (x.owner 34),dI (x.owner 35),dB (x.taken 0),dB (x.taken 1),dB (x.taken 2),dB (x.taken 3),dB (x.taken 4),dB (x.taken 5),dB (x.taken 6),dB (x.taken 7),dB (x.taken 8),dB (x.taken 9),dB (x.taken 10),dB (x.taken 11),dB (x.taken 12),dB (x.taken 13),dB (x.taken 14),dB (x.taken 15),dB (x.taken 16),dB (x.taken 17),dB (x.taken 18),dB (x.taken 19),dB (x.taken 20),dB (x.taken 21),dB (x.taken 22),dB (x.taken 23),dB (x.taken 24),dB (x.taken 25),dB (x.taken 26),dB (x.taken 27),dB (x.taken 28),dB (x.taken 29),dB (x.taken 30),dB (x.taken 31),dB (x.taken 32),dB (x.taken 33),dB (x.taken 34),dB (x.taken 35)]
def sc_letter (p_r : Int) : Option Int:=sel ((decide (p_r ≥ 97)) && (decide (p_r ≤ 122))) (some (IntKind.i64.wrap (IntKind.i32.wrap (p_r - 97)))) (sel ((decide (p_r ≥ 65)) && (decide (p_r ≤ 90))) (some (IntKind.i64.wrap (IntKind.i32.wrap (p_r - 65)))) (sel ((decide (p_r ≥ 48)) && (decide (p_r ≤ 57))) (some (IntKind.i64.wrap ((IntKind.i64.wrap (IntKind.i32.wrap (p_r - 48))) + 26))) (some (-1))))
def sc_choices_L1 (label : Str) (k2 : (List shortcut_choice) → Option (List shortcut_choice)) (again4 : ((List shortcut_choice) × Int × (Nat → Bool)) → Option (List shortcut_choice)) (s3 : (List shortcut_choice) × Int × (Nat → Bool)) : Option (List shortcut_choice):=sel (decide (s3.2.1 < ((runes label).length : Int))) (jn (fun (s6 : (List shortcut_choice) × (Nat → Bool))=>again4 (s6.1,IntKind.i64.wrap (s3.2.1 + 1),s6.2)) fun k7=>(idxO (runes label) s3.2.1).bind fun x8=>(sc_letter x8).bind fun x9=>(gO (decide (x9 ≥ 0)) (ixO 36 x9)).bind fun x10=>sel ((decide (x9 ≥ 0)) && (!(s3.2.2 x10))) ((ixO 36 x9).bind fun x12=>(appO s3.1 ([(shortcut_choice.mk x9 s3.2.1)])).bind fun x13=>k7 (x13,upd s3.2.2 x12 true)) (k7 (s3.1,s3.2.2))) (k2 s3.1)
def sc_choices (label : Str) : Option (List shortcut_choice):=jn (fun (s1 : (List shortcut_choice))=>some s1) fun k2=>loopK (sc_choices_L1 label k2) N0 (([] : (List shortcut_choice)),0,(fun _=>false))
def sc_matcher_assign_L1 (self0 : shortcut_matcher → Int → (Nat → Bool) → Option (Bool × shortcut_matcher × (Nat → Bool))) (label : Int) (k2 : ((List (List shortcut_choice)) × (Nat → Int) × (Nat → Bool) × (Nat → Bool)) → Option (Bool × shortcut_matcher × (Nat → Bool))) (x3 : (List shortcut_choice)) (again5 : (Int × (List (List shortcut_choice)) × (Nat → Int) × (Nat → Bool) × (Nat → Bool)) → Option (Bool × shortcut_matcher × (Nat → Bool))) (s4 : Int × (List (List shortcut_choice)) × (Nat → Int) × (Nat → Bool) × (Nat → Bool)) : Option (Bool × shortcut_matcher × (Nat → Bool)):=sel (decide (s4.1 < (x3.length : Int))) (jn (fun (s7 : (List (List shortcut_choice)) × (Nat → Int) × (Nat → Bool) × (Nat → Bool))=>again5 (IntKind.i64.wrap (s4.1 + 1),s7.1,s7.2.1,s7.2.2.1,s7.2.2.2)) fun k8=>(idxO x3 s4.1).bind fun x9=>(ixO 36 x9.letter).bind fun x10=>(gO (!(s4.2.2.2.2 x10)) (ixO 36 x9.letter)).bind fun x11=>sel ((s4.2.2.2.2 x10) || (s4.2.2.2.1 x11)) (k8 (s4.2.1,s4.2.2.1,s4.2.2.2.1,s4.2.2.2.2)) ((ixO 36 x9.letter).bind fun x13=>(ixO 36 x9.letter).bind fun x14=>(gO (!(decide ((s4.2.2.1 x14) < 0))) (ixO 36 x9.letter)).bind fun x15=>(sel (!(decide ((s4.2.2.1 x14) < 0))) (self0 (shortcut_matcher.mk s4.2.1 s4.2.2.1 s4.2.2.2.1) (s4.2.2.1 x15) (upd s4.2.2.2.2 x13 true)) (some ((default : Bool),(shortcut_matcher.mk s4.2.1 s4.2.2.1 s4.2.2.2.1),upd s4.2.2.2.2 x13 true))).bind fun x16=>sel ((decide ((s4.2.2.1 x14) < 0)) || x16.1) ((ixO 36 x9.letter).bind fun x18=>some (true,(shortcut_matcher.mk x16.2.1.l (upd x16.2.1.owner x18 label) x16.2.1.taken),x16.2.2)) (k8 (x16.2.1.l,x16.2.1.owner,x16.2.1.taken,x16.2.2)))) (k2 (s4.2.1,s4.2.2.1,s4.2.2.2.1,s4.2.2.2.2))
def sc_matcher_assign_B (self0 : shortcut_matcher → Int → (Nat → Bool) → Option (Bool × shortcut_matcher × (Nat → Bool))) (m : shortcut_matcher) (label : Int) (seen : (Nat → Bool)) : Option (Bool × shortcut_matcher × (Nat → Bool)):=jn (fun (s1 : (List (List shortcut_choice)) × (Nat → Int) × (Nat → Bool) × (Nat → Bool))=>some (false,(shortcut_matcher.mk s1.1 s1.2.1 s1.2.2.1),s1.2.2.2)) fun k2=>(idxO m.l label).bind fun x3=>loopK (sc_matcher_assign_L1 self0 label k2 x3) N0 (0,m.l,m.owner,m.taken,seen)
def sc_matcher_assign : Nat → shortcut_matcher → Int → (Nat → Bool) → Option (Bool × shortcut_matcher × (Nat → Bool))
 | 0,_,_,_=>none
 | n + 1,m,label,seen=>sc_matcher_assign_B (sc_matcher_assign n) m label seen
def sc_matcher_most_L1 (k4 : (Int × (List (List shortcut_choice)) × (Nat → Int) × (Nat → Bool)) → Option (Int × shortcut_matcher)) (again6 : (Int × Int × (List (List shortcut_choice)) × (Nat → Int) × (Nat → Bool)) → Option (Int × shortcut_matcher)) (s5 : Int × Int × (List (List shortcut_choice)) × (Nat → Int) × (Nat → Bool)) : Option (Int × shortcut_matcher):=sel (decide (s5.2.1 < (s5.2.2.1.length : Int))) (jn (fun (s8 : Int × (List (List shortcut_choice)) × (Nat → Int) × (Nat → Bool))=>again6 (s8.1,IntKind.i64.wrap (s5.2.1 + 1),s8.2.1,s8.2.2.1,s8.2.2.2)) fun k9=>(sc_matcher_assign 40 (shortcut_matcher.mk s5.2.2.1 s5.2.2.2.1 s5.2.2.2.2) s5.2.1 (fun _=>false)).bind fun x10=>sel x10.1 (k9 (IntKind.i64.wrap (s5.1 + 1),x10.2.1.l,x10.2.1.owner,x10.2.1.taken)) (k9 (s5.1,x10.2.1.l,x10.2.1.owner,x10.2.1.taken))) (k4 (s5.1,s5.2.2.1,s5.2.2.2.1,s5.2.2.2.2))
def sc_matcher_most_L2 (k2 : (Nat → Int) → Option (Int × shortcut_matcher)) (again13 : (Int × (Nat → Int)) → Option (Int × shortcut_matcher)) (s12 : Int × (Nat → Int)) : Option (Int × shortcut_matcher):=sel (decide (s12.1 < 36)) ((ixO 36 s12.1).bind fun x15=>again13 (IntKind.i64.wrap (s12.1 + 1),upd s12.2 x15 (-1))) (k2 s12.2)
def sc_matcher_most (m : shortcut_matcher) (first : Int) : Option (Int × shortcut_matcher):=jn (fun (s1 : (Nat → Int))=>jn (fun (s3 : Int × (List (List shortcut_choice)) × (Nat → Int) × (Nat → Bool))=>some (s3.1,(shortcut_matcher.mk s3.2.1 s3.2.2.1 s3.2.2.2))) fun k4=>loopK (sc_matcher_most_L1 k4) N0 (0,first,m.l,s1,m.taken)) fun k2=>loopK (sc_matcher_most_L2 k2) N0 (0,m.owner)
def sc_Mnemonics_L1 (s8 : (List Int) × Int × Int × (List (List shortcut_choice)) × (Nat → Int) × (Nat → Bool)) (k14 : (Int × Int × (List (List shortcut_choice)) × (Nat → Int) × (Nat → Bool)) → Option ((List Int) × Int)) (x16 : (List shortcut_choice)) (again18 : (Int × (List (List shortcut_choice)) × (Nat → Int) × (Nat → Bool)) → Option ((List Int) × Int)) (s17 : Int × (List (List shortcut_choice)) × (Nat → Int) × (Nat → Bool)) : Option ((List Int) × Int):=sel (decide (s17.1 < (x16.length : Int))) (jn (fun (s20 : (List (List shortcut_choice)) × (Nat → Int) × (Nat → Bool))=>again18 (IntKind.i64.wrap (s17.1 + 1),s20.1,s20.2.1,s20.2.2)) fun k21=>(idxO x16 s17.1).bind fun x22=>(ixO 36 x22.letter).bind fun x23=>sel (s17.2.2.2 x23) (k21 (s17.2.1,s17.2.2.1,s17.2.2.2)) ((ixO 36 x22.letter).bind fun x25=>(sc_matcher_most (shortcut_matcher.mk s17.2.1 s17.2.2.1 (upd s17.2.2.2 x25 true)) (IntKind.i64.wrap (s8.2.2.1 + 1))).bind fun x26=>sel (x26.1 == (IntKind.i64.wrap (s8.2.1 - 1))) (k14 (IntKind.i64.wrap (s8.2.1 - 1),x22.at_,x26.2.l,x26.2.owner,x26.2.taken)) ((ixO 36 x22.letter).bind fun x28=>k21 (x26.2.l,x26.2.owner,upd x26.2.taken x28 false)))) (k14 (s8.2.1,(-1),s17.2.1,s17.2.2.1,s17.2.2.2))
def sc_Mnemonics_L2 (labels : (List Str)) (k7 : (List Int) → Option ((List Int) × Int)) (again9 : ((List Int) × Int × Int × (List (List shortcut_choice)) × (Nat → Int) × (Nat → Bool)) → Option ((List Int) × Int)) (s8 : (List Int) × Int × Int × (List (List shortcut_choice)) × (Nat → Int) × (Nat → Bool)) : Option ((List Int) × Int):=sel (decide (s8.2.2.1 < (labels.length : Int))) (jn (fun (s11 : (List Int) × Int × (List (List shortcut_choice)) × (Nat → Int) × (Nat → Bool))=>again9 (s11.1,s11.2.1,IntKind.i64.wrap (s8.2.2.1 + 1),s11.2.2.1,s11.2.2.2.1,s11.2.2.2.2)) fun k12=>jn (fun (s13 : Int × Int × (List (List shortcut_choice)) × (Nat → Int) × (Nat → Bool))=>(appO s8.1 ([s13.2.1])).bind fun x15=>k12 (x15,s13.1,s13.2.2.1,s13.2.2.2.1,s13.2.2.2.2)) fun k14=>(idxO s8.2.2.2.1 s8.2.2.1).bind fun x16=>loopK (sc_Mnemonics_L1 s8 k14 x16) N0 (0,s8.2.2.2.1,s8.2.2.2.2.1,s8.2.2.2.2.2)) (k7 s8.1)
def sc_Mnemonics_L3 (labels : (List Str)) (k3 : (List (List shortcut_choice)) → Option ((List Int) × Int)) (again30 : (Int × (List (List shortcut_choice))) → Option ((List Int) × Int)) (s29 : Int × (List (List shortcut_choice))) : Option ((List Int) × Int):=sel (decide (s29.1 < (labels.length : Int))) ((idxO labels s29.1).bind fun x32=>sel (decide ((x32.size : Int) > 2000)) (some (([] : (List Int)),2)) ((sc_choices x32).bind fun x34=>(appO s29.2 ([x34])).bind fun x35=>again30 (IntKind.i64.wrap (s29.1 + 1),x35))) (k3 s29.2)
def sc_Mnemonics (labels : (List Str)) : Option ((List Int) × Int):=sel (decide ((labels.length : Int) > 24)) (some (([] : (List Int)),2)) (jn (fun (s2 : (List (List shortcut_choice)))=>(okO (decide (0 ≤ (labels.length : Int)) && decide ((labels.length : Int) ≤ 1073741824)) (labels.length : Int)).bind fun _x4=>(sc_matcher_most (shortcut_matcher.mk s2 (fun _=>0) (fun _=>false)) 0).bind fun x5=>jn (fun (s6 : (List Int))=>some (s6,0)) fun k7=>loopK (sc_Mnemonics_L2 labels k7) N0 (([] : (List Int)),x5.1,0,x5.2.l,x5.2.owner,x5.2.taken)) fun k3=>loopK (sc_Mnemonics_L3 labels k3) N0 (0,([] : (List (List shortcut_choice)))))
def stringslite_IndexByte (p_s : Str) (c : Int) : Option Int:=some (idxByte p_s c)
def stringslite_Index (p_s : Str) (substr : Str) : Option Int:=sel (((substr.size : Int) == 0) || (substr.toList == p_s.toList)) (some 0) (sel ((substr.size : Int) == 1) ((sidxO substr 0).bind fun x3=>(stringslite_IndexByte p_s x3).bind fun x4=>some x4) (sel (decide ((substr.size : Int) ≥ (p_s.size : Int))) (some (-1)) ((none : Option Int))))
def strings_Index (p_s : Str) (substr : Str) : Option Int:=(stringslite_Index p_s substr).bind fun x1=>some x1
def strings_Count_L1 (substr : Str) (again5 : (Str × Int) → Option Int) (s4 : Str × Int) : Option Int:=(strings_Index s4.1 substr).bind fun x6=>sel (x6 == (-1)) (some s4.2) ((sslcO s4.1 (IntKind.i64.wrap (x6 + (substr.size : Int))) (s4.1.size : Int)).bind fun x8=>again5 (x8,IntKind.i64.wrap (s4.2 + 1)))
def strings_Count (p_s : Str) (substr : Str) : Option Int:=sel ((substr.size : Int) == 0) ((none : Option Int)) (sel ((substr.size : Int) == 1) ((sidxO substr 0).bind fun x3=>some (cntByte p_s x3)) (loopK (strings_Count_L1 substr) N0 (p_s,0)))
def strings_genSplit_L1 (p_s : Str) (sep : Str) (sepSave : Int) (s3 : Int) (k7 : (Str × Int × (List Str)) → Option (List Str)) (again11 : (Str × Int × (List Str)) → Option (List Str)) (s10 : Str × Int × (List Str)) : Option (List Str):=sel (decide (s10.2.1 < (IntKind.i64.wrap ((mnI s3 (IntKind.i64.wrap ((p_s.size : Int) + 1))) - 1)))) ((strings_Index s10.1 sep).bind fun x13=>sel (decide (x13 < 0)) (k7 (s10.1,s10.2.1,s10.2.2)) ((sslcO s10.1 0 (IntKind.i64.wrap (x13 + sepSave))).bind fun x15=>(ixO s10.2.2.length s10.2.1).bind fun x16=>(sslcO s10.1 (IntKind.i64.wrap (x13 + (sep.size : Int))) (s10.1.size : Int)).bind fun x17=>again11 (x17,IntKind.i64.wrap (s10.2.1 + 1),List.set s10.2.2 x16 x15))) (k7 (s10.1,s10.2.1,s10.2.2))
def strings_genSplit (p_s : Str) (sep : Str) (sepSave : Int) (p_n : Int) : Option (List Str):=sel (p_n == 0) (some ([] : (List Str))) (sel (sep.toList == (ByteArray.mk #[]).toList) ((none : Option (List Str))) (jn (fun (s3 : Int)=>(mkO (mnI s3 (IntKind.i64.wrap ((p_s.size : Int) + 1))) ByteArray.empty).bind fun x5=>jn (fun (s6 : Str × Int × (List Str))=>(ixO s6.2.2.length s6.2.1).bind fun x8=>(slcO (List.set s6.2.2 x8 s6.1) 0 (IntKind.i64.wrap (s6.2.1 + 1))).bind fun x9=>some x9) fun k7=>loopK (strings_genSplit_L1 p_s sep sepSave s3 k7) N0 (p_s,0,x5)) fun k4=>sel (decide (p_n < 0)) ((strings_Count p_s sep).bind fun x19=>k4 (IntKind.i64.wrap (x19 + 1))) (k4 p_n)))
def strings_Split (p_s : Str) (sep : Str) : Option (List Str):=(strings_genSplit p_s sep 0 (-1)).bind fun x1=>some x1
def stringslite_HasPrefix (p_s : Str) (p_prefix : Str) : Option Bool:=(gO (decide ((p_s.size : Int) ≥ (p_prefix.size : Int))) (sslcO p_s 0 (p_prefix.size : Int))).bind fun x1=>some ((decide ((p_s.size : Int) ≥ (p_prefix.size : Int))) && (x1.toList == p_prefix.toList))
def stringslite_CutPrefix (p_s : Str) (p_prefix : Str) : Option (Str × Bool):=(stringslite_HasPrefix p_s p_prefix).bind fun x1=>sel (!x1) (some (p_s,false)) ((sslcO p_s (p_prefix.size : Int) (p_s.size : Int)).bind fun x3=>some (x3,true))
def strings_CutPrefix (p_s : Str) (p_prefix : Str) : Option (Str × Bool):=(stringslite_CutPrefix p_s p_prefix).bind fun x1=>some (x1.1,x1.2)
def slices_Index_Sl_string_string_L1 (p_s : (List Str)) (v : Str) (k2 : Unit → Option Int) (again4 : Int → Option Int) (s3 : Int) : Option Int:=sel (decide (s3 < (p_s.length : Int))) ((idxO p_s s3).bind fun x6=>sel (v.toList == x6.toList) (some s3) (again4 (IntKind.i64.wrap (s3 + 1)))) (k2 ())
def slices_Index_Sl_string_string (p_s : (List Str)) (v : Str) : Option Int:=jn (fun (_s1 : Unit)=>some (-1)) fun k2=>loopK (slices_Index_Sl_string_string_L1 p_s v k2) N0 0
def sc_modifiers  : Option (List Str):=some ([(ByteArray.mk #[99,116,114,108]),(ByteArray.mk #[97,108,116]),(ByteArray.mk #[115,104,105,102,116]),(ByteArray.mk #[109,101,116,97])])
def sc_keys  : Option (List Str):=some ([(ByteArray.mk #[116,97,98]),(ByteArray.mk #[101,110,116,101,114]),(ByteArray.mk #[101,115,99,97,112,101]),(ByteArray.mk #[98,97,99,107,115,112,97,99,101]),(ByteArray.mk #[100,101,108,101,116,101]),(ByteArray.mk #[108,101,102,116]),(ByteArray.mk #[114,105,103,104,116]),(ByteArray.mk #[117,112]),(ByteArray.mk #[100,111,119,110]),(ByteArray.mk #[104,111,109,101]),(ByteArray.mk #[101,110,100]),(ByteArray.mk #[102,49]),(ByteArray.mk #[102,50]),(ByteArray.mk #[102,51]),(ByteArray.mk #[102,52]),(ByteArray.mk #[102,53]),(ByteArray.mk #[102,54]),(ByteArray.mk #[102,55]),(ByteArray.mk #[102,56]),(ByteArray.mk #[102,57]),(ByteArray.mk #[102,49,48]),(ByteArray.mk #[102,49,49]),(ByteArray.mk #[102,49,50])])
def sc_character (key : Int) : Option Bool:=some ((((decide (key ≥ 32)) && (decide (key ≤ 1114111))) && ((decide (key < 55296)) || (decide (key > 57343)))) && ((decide (key < 65)) || (decide (key > 90))))
def sc_chord_L1 (k2 : (Str × Int) → Option (Chord × Bool)) (x10 : (List Str)) (again12 : (Str × Int × Int) → Option (Chord × Bool)) (s11 : Str × Int × Int) : Option (Chord × Bool):=sel (decide (s11.2.1 < (x10.length : Int))) (jn (fun (s14 : Str × Int)=>again12 (s14.1,IntKind.i64.wrap (s11.2.1 + 1),s14.2)) fun k15=>(idxO x10 s11.2.1).bind fun x16=>(catO x16 (ByteArray.mk #[43])).bind fun x17=>(strings_CutPrefix s11.1 x17).bind fun x18=>sel x18.2 ((shO s11.2.1 (bShl .i64 1 s11.2.1)).bind fun x20=>k15 (x18.1,bOr .i64 s11.2.2 x20)) (k15 (s11.1,s11.2.2))) (k2 (s11.1,s11.2.2))
def sc_chord (p_s : Str) : Option (Chord × Bool):=jn (fun (s1 : Str × Int)=>(sc_keys).bind fun x3=>(slices_Index_Sl_string_string x3 s1.1).bind fun x4=>sel (decide (x4 ≥ 0)) (some ((Chord.mk (IntKind.i64.wrap (1 + x4)) s1.2),true)) (sel (s1.1.toList == (ByteArray.mk #[115,112,97,99,101]).toList) (some ((Chord.mk 32 s1.2),true)) ((unicode_utf8_DecodeRuneInString s1.1).bind fun x7=>(gO (!((((x7.2 != (s1.1.size : Int)) || (x7.2 == 0)) || ((x7.1 == 65533) && (x7.2 == 1))) || (x7.1 == 32))) (sc_character (IntKind.i64.wrap x7.1))).bind fun x8=>sel (((((x7.2 != (s1.1.size : Int)) || (x7.2 == 0)) || ((x7.1 == 65533) && (x7.2 == 1))) || (x7.1 == 32)) || (!x8)) (some ((Chord.mk 0 0),false)) (some ((Chord.mk (IntKind.i64.wrap x7.1) s1.2),true))))) fun k2=>(sc_modifiers).bind fun x10=>loopK (sc_chord_L1 k2 x10) N0 (p_s,0,0)
def sc_Parse_L1 (k3 : (List Chord) → Option ((List Chord) × Int)) (x5 : (List Str)) (again7 : ((List Chord) × Int) → Option ((List Chord) × Int)) (s6 : (List Chord) × Int) : Option ((List Chord) × Int):=sel (decide (s6.2 < (x5.length : Int))) ((idxO x5 s6.2).bind fun x9=>(sc_chord x9).bind fun x10=>sel (!x10.2) (some (([] : (List Chord)),3)) ((appO s6.1 ([x10.1])).bind fun x12=>again7 (x12,IntKind.i64.wrap (s6.2 + 1)))) (k3 s6.1)
def sc_Parse (p_s : Str) : Option ((List Chord) × Int):=sel (decide ((p_s.size : Int) > 100)) (some (([] : (List Chord)),2)) (jn (fun (s2 : (List Chord))=>sel (decide ((s2.length : Int) > 3)) (some (([] : (List Chord)),2)) (some (s2,0))) fun k3=>(strings_Split p_s (ByteArray.mk #[32])).bind fun x5=>loopK (sc_Parse_L1 k3 x5) N0 (([] : (List Chord)),0))
def l32_same_L1 (a : (List Chord)) (b : (List Chord)) (k3 : Unit → Option Bool) (again5 : Int → Option Bool) (s4 : Int) : Option Bool:=sel (decide (s4 < (a.length : Int))) ((idxO a s4).bind fun x7=>(idxO b s4).bind fun x8=>sel (!((x7.Key == x8.Key) && (x7.Mods == x8.Mods))) (some false) (again5 (IntKind.i64.wrap (s4 + 1)))) (k3 ())
def l32_same (a : (List Chord)) (b : (List Chord)) : Option Bool:=sel ((a.length : Int) != (b.length : Int)) (some false) (jn (fun (_s2 : Unit)=>some true) fun k3=>loopK (l32_same_L1 a b k3) N0 0)
def l32_awake  : Option Bool:=(sc_Parse (ByteArray.mk #[99,116,114,108,43,107,32,99,116,114,108,43,115,104,105,102,116,43,99])).bind fun x1=>(sc_Mnemonics ([(ByteArray.mk #[83,97,118,101]),(ByteArray.mk #[83,97,118,101,32,97,115]),(ByteArray.mk #[83,117,109])])).bind fun x2=>(gO ((x1.2 == 0) && (x2.2 == 0)) (l32_same x1.1 ([(Chord.mk 107 1),(Chord.mk 99 5)]))).bind fun x3=>(gO ((((x1.2 == 0) && (x2.2 == 0)) && x3) && ((x2.1.length : Int) == 3)) (idxO x2.1 0)).bind fun x4=>(gO (((((x1.2 == 0) && (x2.2 == 0)) && x3) && ((x2.1.length : Int) == 3)) && (x4 == 0)) (idxO x2.1 1)).bind fun x5=>(gO ((((((x1.2 == 0) && (x2.2 == 0)) && x3) && ((x2.1.length : Int) == 3)) && (x4 == 0)) && (x5 == 1)) (idxO x2.1 2)).bind fun x6=>some (((((((x1.2 == 0) && (x2.2 == 0)) && x3) && ((x2.1.length : Int) == 3)) && (x4 == 0)) && (x5 == 1)) && (x6 == 1))
end Go.Proofs.YtobiohcdpfpefaaDoor
end
section
namespace Go.Proofs
open Go.Shelf
def Tryd.swRen : Go.Shelf.Ren:=⟨fun | 166=>53 | 168=>54 | 169=>55 | 240=>74 | 242=>75 | 276=>93 | 278=>94 | n=>n,fun | 0=>0 | 3=>3 | 4=>4 | 5=>5 | 9=>9 | 20=>20 | 21=>21 | 37=>115 | 46=>112 | 51=>179 | 70=>114 | 72=>117 | 75=>119 | 127=>147 | 164=>177 | 80=>123 | n=>n,fun | n=>n⟩
theorem Tryd.sw166 : Go.Proofs.Lays.n166 Tryd.prog Tryd.swRen:={
 mixed:=by kernel_rfl
 f166:=Tryd.func53.trans (congrArg some (by kernel_rfl))
 f240:=Tryd.func74.trans (congrArg some (by kernel_rfl))
 f276:=Tryd.func93.trans (congrArg some (by kernel_rfl))
 t0:=Tryd.underlying0
 a0:=Tryd.isAgg0
 z0:=Tryd.sizeOf0
 v0:=Tryd.zeroValue0
 t3:=Tryd.underlying3
 a3:=Tryd.isAgg3
 z3:=Tryd.sizeOf3
 v3:=Tryd.zeroValue3
 t4:=Tryd.underlying4
 a4:=Tryd.isAgg4
 z4:=Tryd.sizeOf4
 v4:=Tryd.zeroValue4
 t9:=Tryd.underlying9
 a9:=Tryd.isAgg9
 z9:=Tryd.sizeOf9
 v9:=Tryd.zeroValue9
 t20:=Tryd.underlying20
 a20:=Tryd.isAgg20
 z20:=Tryd.sizeOf20
 v20:=Tryd.zeroValue20
 t37:=Tryd.underlying115
 a37:=Tryd.isAgg115
 z37:=Tryd.sizeOf115
 v37:=Tryd.zeroValue115
 t70:=Tryd.underlying114
 a70:=Tryd.isAgg114
 z70:=Tryd.sizeOf114
 v70:=Tryd.zeroValue114
 t72:=Tryd.underlying117
 a72:=Tryd.isAgg117
 z72:=Tryd.sizeOf117
 v72:=Tryd.zeroValue117
 t75:=Tryd.underlying119
 a75:=Tryd.isAgg119
 z75:=Tryd.sizeOf119
 v75:=Tryd.zeroValue119
 t164:=Tryd.underlying177
 a164:=Tryd.isAgg177
 z164:=Tryd.sizeOf177
 v164:=Tryd.zeroValue177
}
theorem Tryd.sw168 : Go.Proofs.Lays.n168 Tryd.prog Tryd.swRen:={
 mixed:=by kernel_rfl
 f168:=Tryd.func54.trans (congrArg some (by kernel_rfl))
 f240:=Tryd.func74.trans (congrArg some (by kernel_rfl))
 f242:=Tryd.func75.trans (congrArg some (by kernel_rfl))
 f276:=Tryd.func93.trans (congrArg some (by kernel_rfl))
 f278:=Tryd.func94.trans (congrArg some (by kernel_rfl))
 t0:=Tryd.underlying0
 a0:=Tryd.isAgg0
 z0:=Tryd.sizeOf0
 v0:=Tryd.zeroValue0
 t3:=Tryd.underlying3
 a3:=Tryd.isAgg3
 z3:=Tryd.sizeOf3
 v3:=Tryd.zeroValue3
 t4:=Tryd.underlying4
 a4:=Tryd.isAgg4
 z4:=Tryd.sizeOf4
 v4:=Tryd.zeroValue4
 t5:=Tryd.underlying5
 a5:=Tryd.isAgg5
 z5:=Tryd.sizeOf5
 v5:=Tryd.zeroValue5
 t9:=Tryd.underlying9
 a9:=Tryd.isAgg9
 z9:=Tryd.sizeOf9
 v9:=Tryd.zeroValue9
 t20:=Tryd.underlying20
 a20:=Tryd.isAgg20
 z20:=Tryd.sizeOf20
 v20:=Tryd.zeroValue20
 t21:=Tryd.underlying21
 a21:=Tryd.isAgg21
 z21:=Tryd.sizeOf21
 v21:=Tryd.zeroValue21
 t37:=Tryd.underlying115
 a37:=Tryd.isAgg115
 z37:=Tryd.sizeOf115
 v37:=Tryd.zeroValue115
 t46:=Tryd.underlying112
 a46:=Tryd.isAgg112
 z46:=Tryd.sizeOf112
 v46:=Tryd.zeroValue112
 t51:=Tryd.underlying179
 a51:=Tryd.isAgg179
 z51:=Tryd.sizeOf179
 v51:=Tryd.zeroValue179
 t70:=Tryd.underlying114
 a70:=Tryd.isAgg114
 z70:=Tryd.sizeOf114
 v70:=Tryd.zeroValue114
 t72:=Tryd.underlying117
 a72:=Tryd.isAgg117
 z72:=Tryd.sizeOf117
 v72:=Tryd.zeroValue117
 t75:=Tryd.underlying119
 a75:=Tryd.isAgg119
 z75:=Tryd.sizeOf119
 v75:=Tryd.zeroValue119
 t164:=Tryd.underlying177
 a164:=Tryd.isAgg177
 z164:=Tryd.sizeOf177
 v164:=Tryd.zeroValue177
}
theorem Tryd.sw169 : Go.Proofs.Lays.n169 Tryd.prog Tryd.swRen:={
 mixed:=by kernel_rfl
 f169:=Tryd.func55.trans (congrArg some (by kernel_rfl))
 t0:=Tryd.underlying0
 a0:=Tryd.isAgg0
 z0:=Tryd.sizeOf0
 v0:=Tryd.zeroValue0
 t3:=Tryd.underlying3
 a3:=Tryd.isAgg3
 z3:=Tryd.sizeOf3
 v3:=Tryd.zeroValue3
 t9:=Tryd.underlying9
 a9:=Tryd.isAgg9
 z9:=Tryd.sizeOf9
 v9:=Tryd.zeroValue9
 t37:=Tryd.underlying115
 a37:=Tryd.isAgg115
 z37:=Tryd.sizeOf115
 v37:=Tryd.zeroValue115
 t70:=Tryd.underlying114
 a70:=Tryd.isAgg114
 z70:=Tryd.sizeOf114
 v70:=Tryd.zeroValue114
 t72:=Tryd.underlying117
 a72:=Tryd.isAgg117
 z72:=Tryd.sizeOf117
 v72:=Tryd.zeroValue117
 t127:=Tryd.underlying147
 a127:=Tryd.isAgg147
 z127:=Tryd.sizeOf147
 v127:=Tryd.zeroValue147
}
theorem Tryd.swExtra : Builder.Extra Tryd.prog Tryd.swRen:={
 sizeBuilder:=by kernel_rfl
 liesBuilder:=by kernel_rfl
 t5:=Tryd.underlying5
 a5:=Tryd.isAgg5
 z5:=Tryd.sizeOf5
 v5:=Tryd.zeroValue5
 infoByte:=by kernel_rfl
 cellsByte:=by kernel_rfl
 sizeByte:=by kernel_rfl
 neB5:=by decide
}
open Go.RowKit
def modRow : Array Value:=#[.string ⟨#[99,116,114,108]⟩,.string ⟨#[97,108,116]⟩,.string ⟨#[115,104,105,102,116]⟩,.string ⟨#[109,101,116,97]⟩]
set_option maxHeartbeats 1000000 in
set_option maxRecDepth 100000 in
theorem Tryd.modifiers_gives (w : World) : Calls Tryd.prog 45 #[] w fun e w'=>e = .returned (.slice (some ⟨w.heap.size,0,none⟩) 4 4) ∧ w' = w.alloc (.cells modRow 9):=by
 go_enter Tryd.func45,Tryd.ntmps45
 go_wp2
 go_ret
 exact ⟨rfl,rfl⟩
def modNm : Nat → List UInt8
 | 0=>[99,116,114,108]
 | 1=>[97,108,116]
 | 2=>[115,104,105,102,116]
 | _=>[109,101,116,97]
def bitM (m : Int) (i : Nat) : Bool:=bits BinOp.and IntKind.i64 m (IntKind.i64.wrap (2 ^ i)) != 0
def modB (m : Int) : Nat → List UInt8
 | 0=>[]
 | i + 1=>modB m i ++ (if bitM m i = true then modNm i ++ [43] else [])
theorem modB_len (m : Int) : ∀ i,(modB m i).length ≤ 6 * i
 | 0=>Nat.le_refl _
 | i + 1=>by
  have:=modB_len m i
  unfold modB
  rw [List.length_append]
  have : (if bitM m i = true then modNm i ++ [43] else []).length ≤ 6:=by
   split
   ·unfold modNm;split <;> simp
   ·simp
  omega
theorem Tryd.WriteString_k (B b : Nat) (bs : List Value) (s : ByteArray) (w : World) (h : Lib.IsBuilderF 117 5 B b bs w) (hlen : bs.length + s.size ≤ 140737488355328) (hBw : B ≤ w.heap.size) :
  Calls Tryd.prog 53 #[.pointer (some ⟨b,0,none⟩),.string s] w fun e w'=>e = .returned (.tuple #[.int .i64 s.size,.nilIface]) ∧ (Lib.BuilderAtF 117 5 B b (.pointer (some ⟨b,0,none⟩)) (bs ++ Lib.strCells s) w' ∧ Below B w w' ∧ Lib.OthersKept 5 (some b) w w') :=
 Any.Builder_WriteString_k Tryd.sw166 Tryd.swExtra B b bs s w h hlen hBw
theorem Tryd.WriteRune_k (B b : Nat) (bs : List Value) (r : Int) (hr0 : -2147483648 ≤ r) (hr1 : r ≤ 2147483647) (w : World) (h : Lib.IsBuilderF 117 5 B b bs w) (hlen : bs.length + 4 ≤ 140737488355328) (hBw : B ≤ w.heap.size) :
  Calls Tryd.prog 54 #[.pointer (some ⟨b,0,none⟩),.int .i32 r] w fun e w'=>e = .returned (.tuple #[.int .i64 (Lib.runeCells r).length,.nilIface]) ∧ (Lib.BuilderAtF 117 5 B b (.pointer (some ⟨b,0,none⟩)) (bs ++ Lib.runeCells r) w' ∧ Below B w w' ∧ Lib.OthersKept 5 (some b) w w') :=
 Any.Builder_WriteRune_k Tryd.sw168 Tryd.swExtra B b bs r hr0 hr1 w h hlen hBw
theorem Tryd.String_k (B b : Nat) (l : List UInt8) (w : World) (h : Lib.IsBuilderF 117 5 B b (Lib.byteCells l) w) (hBw : B ≤ w.heap.size) :
  Calls Tryd.prog 55 #[.pointer (some ⟨b,0,none⟩)] w fun e w'=>e = .returned (.string ⟨l.toArray⟩) ∧ (Lib.IsBuilderF 117 5 B b (Lib.byteCells l) w' ∧ Below B w w' ∧ Lib.OthersKept 5 (some b) w w') :=
 Any.Builder_String_any_k Tryd.sw169 Tryd.swExtra B b l w h hBw
theorem w64 (x : Int) : wrap64 x = IntKind.i64.wrap x:=(Go.IntWalk.i64_left x).symm
theorem al_new (w : World) (o : Obj) : (w.alloc o).heap[w.heap.size]? = some o:=by
 show (w.heap.push o)[w.heap.size]? = some o
 rw [Array.getElem?_push,if_pos rfl]
theorem al_old {w : World} {k : Nat} {x : Obj} (h : w.heap[k]? = some x) (o : Obj) : (w.alloc o).heap[k]? = some x:=by
 have hk:=(Array.getElem?_eq_some_iff.1 h).1
 show (w.heap.push o)[k]? = some x
 rw [Array.getElem?_push,if_neg (by omega),h]
theorem isB_drewN {T e : TypeId} {B b : Nat} {bs : List Value} {w : World} (h : Lib.IsBuilderF T e B b bs w) (n : Nat) : Lib.IsBuilderF T e B b bs (w.drewN n):=h
theorem below_dr {B : Nat} {a w : World} (h : Below B a w) (q : Nat) : Below B a (w.drewN q):=⟨h.os,h.tape,h.output,h.size,h.block⟩
theorem heap_dr {w : World} {k : Nat} {o : Obj} (h : w.heap[k]? = some o) (q : Nat) : (w.drewN q).heap[k]? = some o:=h
theorem others_row {b k : Nat} {w w' : World} {c : Array Value} {t : TypeId} (h : Lib.OthersKept 5 (some b) w w') (hk : w.heap[k]? = some (.cells c t (0,0))) (hkb : k ≠ b) (ht : t ≠ 5) : w'.heap[k]? = some (.cells c t (0,0)) :=
 h k _ hk (fun e1=>hkb (Option.some.inj e1)) (fun _ _ e1=>by cases e1;exact ht rfl)
def keyNms : List (List UInt8):=[[116,97,98],[101,110,116,101,114],[101,115,99,97,112,101],[98,97,99,107,115,112,97,99,101],[100,101,108,101,116,101],[108,101,102,116],[114,105,103,104,116],[117,112],[100,111,119,110],[104,111,109,101],[101,110,100],[102,49],[102,50],[102,51],[102,52],[102,53],[102,54],[102,55],[102,56],[102,57],[102,49,48],[102,49,49],[102,49,50]]
def keyRow : Array Value:=#[.string ⟨#[116,97,98]⟩,.string ⟨#[101,110,116,101,114]⟩,.string ⟨#[101,115,99,97,112,101]⟩,.string ⟨#[98,97,99,107,115,112,97,99,101]⟩,.string ⟨#[100,101,108,101,116,101]⟩,.string ⟨#[108,101,102,116]⟩,.string ⟨#[114,105,103,104,116]⟩,.string ⟨#[117,112]⟩,.string ⟨#[100,111,119,110]⟩,.string ⟨#[104,111,109,101]⟩,.string ⟨#[101,110,100]⟩,.string ⟨#[102,49]⟩,.string ⟨#[102,50]⟩,.string ⟨#[102,51]⟩,.string ⟨#[102,52]⟩,.string ⟨#[102,53]⟩,.string ⟨#[102,54]⟩,.string ⟨#[102,55]⟩,.string ⟨#[102,56]⟩,.string ⟨#[102,57]⟩,.string ⟨#[102,49,48]⟩,.string ⟨#[102,49,49]⟩,.string ⟨#[102,49,50]⟩]
set_option maxHeartbeats 1000000 in
set_option maxRecDepth 100000 in
theorem Tryd.keys_gives (w : World) : Calls Tryd.prog 48 #[] w fun e w'=>e = .returned (.slice (some ⟨w.heap.size,0,none⟩) 23 23) ∧ w' = w.alloc (.cells keyRow 9):=by
 go_enter Tryd.func48,Tryd.ntmps48
 go_wp2
 go_ret
 exact ⟨rfl,rfl⟩
theorem keyNms_len : ∀ n : Nat,(keyNms.getD n []).length ≤ 9
 | 0=>by decide
 | 1=>by decide
 | 2=>by decide
 | 3=>by decide
 | 4=>by decide
 | 5=>by decide
 | 6=>by decide
 | 7=>by decide
 | 8=>by decide
 | 9=>by decide
 | 10=>by decide
 | 11=>by decide
 | 12=>by decide
 | 13=>by decide
 | 14=>by decide
 | 15=>by decide
 | 16=>by decide
 | 17=>by decide
 | 18=>by decide
 | 19=>by decide
 | 20=>by decide
 | 21=>by decide
 | 22=>by decide
 | n + 23=>by show (([] : List UInt8)).length ≤ 9;simp
def wtail (k : Int) : List UInt8:=if k ≤ 23 then keyNms.getD (k - 1).toNat [] else if k = 32 then [115,112,97,99,101] else Lib.encodeRune k
set_option maxHeartbeats 4000000 in
set_option maxRecDepth 1000000 in
theorem Tryd.write_calls (k m : Int) (hk1 : 1 ≤ k) (hk2 : k ≤ 1114111) (w : World) :
  Calls Tryd.prog 30 #[.agg #[.int .i64 k,.int .i64 m]] w fun e w'=>e = .returned (.string ⟨(modB m 4 ++ wtail k).toArray⟩) ∧ Below w.heap.size w w':=by
 go_enter Tryd.func30,Tryd.ntmps30
 go_wp2_with (go_at_call 45;refine (Tryd.modifiers_gives _).mono ?_)
 rintro e W1 ⟨rfl,rfl⟩
 go_wp2
 go_loopw [8] (fun v8 wr=>∃ (i : Nat),v8 = .int .i64 i ∧ i ≤ 4 ∧ Lib.IsBuilderF 117 5 (w.heap.size + 1) (w.heap.size + 1) (Lib.byteCells (modB m i)) wr ∧ wr.heap[w.heap.size]? = some (.cells #[.int .i64 k,.int .i64 m] 34 (0,0)) ∧ wr.heap[w.heap.size + 2]? = some (.cells modRow 9 (0,0)) ∧ Below w.heap.size w wr) (fun v8 _=>4 - (intOf v8).toNat)
 case atStart =>
  have f1:=(Lib.IsBuilderF.of (Lib.fresh_isBuilder 117 5 (w.alloc (.cells #[.int .i64 k,.int .i64 m] 34 (0,0))))).alloc (.cells modRow 9 (0,0))
  rw [World.size_alloc] at f1
  refine ⟨0,rfl,by omega,f1,?_,?_,?_⟩
  ·exact al_old (al_old (al_new w _) _) _
  ·have:=al_new ((w.alloc (.cells #[.int .i64 k,.int .i64 m] 34 (0,0))).alloc (.cells #[.pointer none,.slice none 0 0] 117 (0,0))) (.cells modRow 9 (0,0))
   rw [World.size_alloc,World.size_alloc] at this
   exact this
  ·exact (((Below.refl _ w).alloc (Nat.le_refl _) _).alloc (by simp) _).alloc (by simp;omega) _
 case round =>
  obtain ⟨i,rfl,hi,hI,h0,h2,hbw⟩:=hrel
  have c0 : wr.cell? ⟨w.heap.size,0,none⟩ = some (.int .i64 k):=by rw [Lib.cell_of_heap h0];rfl
  have c1 : wr.cell? ⟨w.heap.size,1,none⟩ = some (.int .i64 m):=by rw [Lib.cell_of_heap h0];rfl
  have hlen:=modB_len m i
  by_cases hi4 : i < 4
  ·have c2 : wr.cell? ⟨w.heap.size + 1 + 1,i,none⟩ = some (.string ⟨(modNm i).toArray⟩):=by
    rw [Lib.cell_of_heap h2]
    have : i = 0 ∨ i = 1 ∨ i = 2 ∨ i = 3:=by omega
    rcases this with rfl | rfl | rfl | rfl <;> rfl
   have hnm : (modNm i).length ≤ 5:=by unfold modNm;split <;> simp
   have hcat : ¬ 9223372036854775807 < (modNm i).length + 1:=by omega
   go_wp2
   go_quiet (fail)
   have hI':=isB_drewN hI nq
   have h0':=heap_dr h0 nq
   have h2':=heap_dr h2 nq
   have hbw':=below_dr hbw nq
   generalize wr.drewN nq = wq at hI' h0' h2' hbw' ⊢
   have hsz : w.heap.size + 2 < wq.heap.size:=(Array.getElem?_eq_some_iff.1 h2').1
   cases hb : bitM m i with
   | true =>
    have hb' : (bits BinOp.and IntKind.i64 m (IntKind.i64.wrap (2 ^ i)) != 0) = true:=hb
    have hb2 : (bits BinOp.and IntKind.i64 m (wrap64 (2 ^ i)) != 0) = true:=by
     rw [w64]
     exact hb'
    go_wp2_with (go_at_call 53;refine (Tryd.WriteString_k _ _ _ _ wq hI' ?c1 ?c2).mono ?_)
    case c1=>rw [Lib.byteCells_length,Lib.size_eq];simp;omega
    case c2=>omega
    rintro e W1 ⟨rfl,g1,g2,g3⟩
    go_wp2
    go_roundw
    case rel =>
     refine ⟨i + 1,by simp,by omega,.inr ?_,others_row g3 h0' (by omega) (by decide),others_row g3 h2' (by omega) (by decide),hbw'.trans ⟨g2.os,g2.tape,g2.output,g2.size,fun q hq=>g2.block q (by omega)⟩⟩
     unfold modB
     rw [hb,if_pos rfl,Lib.byteCells_append]
     have hs : Lib.strCells (({ data:=(modNm i).toArray } : ByteArray) ++ { data:=#[43] }) = Lib.byteCells (modNm i ++ [43]):=by
      rw [Lib.strCells_eq];simp
     rw [← hs]
     exact g1
    case measure =>
     simp [intOf]
     omega
   | false =>
    have hb' : (bits BinOp.and IntKind.i64 m (IntKind.i64.wrap (2 ^ i)) != 0) = false:=hb
    have hb2 : (bits BinOp.and IntKind.i64 m (wrap64 (2 ^ i)) != 0) = false:=by
     rw [w64]
     exact hb'
    go_wp2
    go_roundw
    case rel =>
     refine ⟨i + 1,by simp,by omega,?_,h0',h2',hbw'⟩
     unfold modB
     rw [hb,if_neg (by simp),List.append_nil]
     exact hI'
    case measure =>
     simp [intOf]
     omega
  ·have : i = 4:=by omega
   subst this
   have hsz : w.heap.size + 2 < wr.heap.size:=(Array.getElem?_eq_some_iff.1 h2).1
   by_cases k23 : k ≤ 23
   ·have hkr : ∀ (v : Nat),v = (k - 1).toNat → (keyRow[v]? : Option Value) = some (.string ⟨(wtail k).toArray⟩):=fun v hv=>by
     unfold wtail
     rw [if_pos k23]
     subst hv
     have hn : (k - 1).toNat < 23:=by omega
     generalize (k - 1).toNat = n at hn ⊢
     match n,hn with
     | 0,_=>rfl
     | 1,_=>rfl
     | 2,_=>rfl
     | 3,_=>rfl
     | 4,_=>rfl
     | 5,_=>rfl
     | 6,_=>rfl
     | 7,_=>rfl
     | 8,_=>rfl
     | 9,_=>rfl
     | 10,_=>rfl
     | 11,_=>rfl
     | 12,_=>rfl
     | 13,_=>rfl
     | 14,_=>rfl
     | 15,_=>rfl
     | 16,_=>rfl
     | 17,_=>rfl
     | 18,_=>rfl
     | 19,_=>rfl
     | 20,_=>rfl
     | 21,_=>rfl
     | 22,_=>rfl
     | n + 23,h=>exact absurd h (by omega)
    have c0d : ∀ o,(wr.drew.alloc o).cell? ⟨w.heap.size,0,none⟩ = some (.int .i64 k):=fun o=>by rw [Lib.cell_of_heap (al_old (w:=wr.drew) h0 o)];rfl
    have c0e : ∀ o,(wr.alloc o).cell? ⟨w.heap.size,0,none⟩ = some (.int .i64 k):=fun o=>by rw [Lib.cell_of_heap (al_old h0 o)];rfl
    have c5 : (wr.drew.alloc (.cells keyRow 9 (0,0))).cell? ⟨wr.heap.size,(k - 1).toNat,none⟩ = some (.string ⟨(wtail k).toArray⟩):=by
     rw [show (⟨wr.heap.size,(k - 1).toNat,none⟩ : Addr) = ⟨wr.drew.heap.size,(k - 1).toNat,none⟩ from rfl,Lib.cell_of_heap (al_new wr.drew (.cells keyRow 9 (0,0)))]
     exact hkr _ rfl
    have c6 : (wr.alloc (.cells keyRow 9 (0,0))).cell? ⟨wr.heap.size,(k - 1).toNat,none⟩ = some (.string ⟨(wtail k).toArray⟩):=by
     rw [Lib.cell_of_heap (al_new wr (.cells keyRow 9 (0,0)))]
     exact hkr _ rfl
    have hwl : (wtail k).length ≤ 9:=by
     unfold wtail
     rw [if_pos k23]
     exact keyNms_len _
    have hIa : Lib.IsBuilderF 117 5 (w.heap.size + 1) (w.heap.size + 1) (Lib.byteCells (modB m 4)) (wr.drew.alloc (.cells keyRow 9 (0,0))):=(isB_drewN hI 1).alloc _
    have hza : w.heap.size + 1 ≤ (wr.drew.alloc (.cells keyRow 9 (0,0))).heap.size:=by
     rw [World.size_alloc]
     show w.heap.size + 1 ≤ wr.heap.size + 1
     omega
    have hzl : (Lib.byteCells (modB m 4)).length + (⟨(wtail k).toArray⟩ : ByteArray).size ≤ 140737488355328:=by
     rw [Lib.byteCells_length,Lib.size_eq];simp;omega
    have hBa : Below w.heap.size w (wr.drew.alloc (.cells keyRow 9 (0,0))):=(below_dr hbw 1).alloc (by show w.heap.size ≤ wr.heap.size;omega) _
    have hk0 : (0 : Int) ≤ k - 1:=by omega
    have hk22 : k - 1 < 23:=by omega
    have hkw : IntKind.i64.wrap (k - 1) = k - 1:=by rw [IntKind.wrap_i64];omega
    go_wp2
    go_region_with (first
     | (go_at_call 48;refine (Tryd.keys_gives _).mono ?_;rintro e W1 ⟨rfl,rfl⟩)
     | (go_at_call 53;refine (Tryd.WriteString_k (w.heap.size + 1) (w.heap.size + 1) _ _ _ hIa hzl hza).mono ?_;rintro e W1 ⟨rfl,g1,g2,g3⟩))
    all_goals
     have hG : Lib.BuilderAtF 117 5 (w.heap.size + 1) (w.heap.size + 1) (.pointer (some ⟨w.heap.size + 1,0,none⟩)) (Lib.byteCells (modB m 4 ++ wtail k)) W1:=by
      rw [Lib.byteCells_append];exact g1
     go_wp2_with (go_at_call 55;refine (Tryd.String_k _ _ (modB m 4 ++ wtail k) W1 (.inr hG) (by have:=g2.size;omega)).mono ?_)
     rintro e W2 ⟨rfl,_,b1,_⟩
     go_wp2
     go_ret
     exact ⟨rfl,hBa.trans ⟨b1.os.trans g2.os,b1.tape.trans g2.tape,b1.output.trans g2.output,Nat.le_trans g2.size b1.size,fun q hq=>(b1.block q (by omega)).trans (g2.block q (by omega))⟩⟩
   ·by_cases k32 : k = 32
    ·subst k32
     go_wp2_with (go_at_call 53;refine (Tryd.WriteString_k _ _ _ _ wr hI ?c1 ?c2).mono ?_)
     case c1=>rw [Lib.byteCells_length];omega
     case c2=>omega
     rintro e W1 rfl g1 g2 g3
     have hG : Lib.BuilderAtF 117 5 (w.heap.size + 1) (w.heap.size + 1) (.pointer (some ⟨w.heap.size + 1,0,none⟩)) (Lib.byteCells (modB m 4 ++ wtail 32)) W1:=by
      rw [Lib.byteCells_append];exact g1
     go_wp2_with (go_at_call 55;refine (Tryd.String_k _ _ (modB m 4 ++ wtail 32) W1 (.inr hG) (by have:=g2.size;omega)).mono ?_)
     rintro e W2 ⟨rfl,_,b1,_⟩
     go_wp2
     go_ret
     exact ⟨rfl,hbw.trans ⟨b1.os.trans g2.os,b1.tape.trans g2.tape,b1.output.trans g2.output,Nat.le_trans g2.size b1.size,fun q hq=>(b1.block q (by omega)).trans (g2.block q (by omega))⟩⟩
    ·have hw : IntKind.i32.wrap k = k:=by rw [IntKind.wrap_i32];omega
     go_wp2_with (go_at_call 54;refine (Tryd.WriteRune_k _ _ _ _ ?c0 ?c3 wr hI ?c1 ?c2).mono ?_)
     case c1=>rw [Lib.byteCells_length];omega
     case c2=>omega
     case c0=>omega
     case c3=>omega
     rintro e W1 rfl g1 g2 g3
     have hG : Lib.BuilderAtF 117 5 (w.heap.size + 1) (w.heap.size + 1) (.pointer (some ⟨w.heap.size + 1,0,none⟩)) (Lib.byteCells (modB m 4 ++ wtail k)) W1:=by
      rw [Lib.byteCells_append]
      unfold wtail
      rw [if_neg (show ¬ k ≤ 23 by omega),if_neg (show ¬ k = 32 by omega),Lib.byteCells_encodeRune]
      exact g1
     go_wp2_with (go_at_call 55;refine (Tryd.String_k _ _ (modB m 4 ++ wtail k) W1 (.inr hG) (by have:=g2.size;omega)).mono ?_)
     rintro e W2 ⟨rfl,_,b1,_⟩
     go_wp2
     go_ret
     exact ⟨rfl,hbw.trans ⟨b1.os.trans g2.os,b1.tape.trans g2.tape,b1.output.trans g2.output,Nat.le_trans g2.size b1.size,fun q hq=>(b1.block q (by omega)).trans (g2.block q (by omega))⟩⟩
end Go.Proofs
namespace Go.Proofs.YtobiohcdpfpefaaDoor
open Go Go.E2
def sc_write (c : Chord) : Option Str:=if 1 ≤ c.Key ∧ c.Key ≤ 1114111 then some ⟨(modB c.Mods 4 ++ wtail c.Key).toArray⟩ else none
theorem sc_write_c (c : Chord) {r : Str} (hr : sc_write c = some r) : Con Tryd.prog 30 [.agg [cI c.Key,cI c.Mods]] [] (.s (aS r)) []:=by
 unfold sc_write at hr
 split at hr
 ·rename_i hc
  cases hr
  refine Con.ofCallsV fun M w vs hM hA=>?_
  have h0:=hA (fun _=>.bool false)
  match vs,h0 with
  | [v1],h0 =>
   obtain ⟨arr,rfl,h2⟩:=h0.1
   obtain ⟨l⟩:=arr
   match l,h2 with
   | [x,y],h2 =>
    have e1 : x = .int .i64 c.Key:=Rep.v_inv h2.1
    have e2 : y = .int .i64 c.Mods:=Rep.v_inv h2.2.1
    subst e1 e2
    exact Tryd.write_calls c.Key c.Mods hc.1 hc.2 w
 ·cases hr
end Go.Proofs.YtobiohcdpfpefaaDoor
end
section
namespace Go.Proofs.YtobiohcdpfpefaaDoor
open Go Go.E2
def sc_valid (c : Chord) : Option Bool:=(gO (((decide (c.Mods ≥ 0)) && (decide (c.Mods ≤ 15))) && !((decide (c.Key ≥ 1)) && (decide (c.Key ≤ 23)))) (sc_character c.Key)).bind fun x1=>some (((decide (c.Mods ≥ 0)) && (decide (c.Mods ≤ 15))) && (((decide (c.Key ≥ 1)) && (decide (c.Key ≤ 23))) || x1))
def sc_Format_L1 (l : (List Chord)) (k4 : (List Str) → Option (Str × Int)) (again7 : ((List Str) × Int) → Option (Str × Int)) (s6 : (List Str) × Int) : Option (Str × Int):=sel (decide (s6.2 < (l.length : Int))) ((idxO l s6.2).bind fun x9=>(sc_valid x9).bind fun x10=>sel (!x10) (some ((ByteArray.mk #[]),1)) ((sc_write x9).bind fun x12=>(appO s6.1 ([x12])).bind fun x13=>again7 (x13,IntKind.i64.wrap (s6.2 + 1)))) (k4 s6.1)
def sc_Format (l : (List Chord)) : Option (Str × Int):=sel (decide ((l.length : Int) > 3)) (some ((ByteArray.mk #[]),2)) (sel ((l.length : Int) == 0) (some ((ByteArray.mk #[]),1)) (jn (fun (s3 : (List Str))=>(strings_Join s3 (ByteArray.mk #[32])).bind fun x5=>some (x5,0)) fun k4=>loopK (sc_Format_L1 l k4) N0 (([] : (List Str)),0)))
def r32_modifiers  : Option (List Str):=some ([(ByteArray.mk #[99,116,114,108]),(ByteArray.mk #[97,108,116]),(ByteArray.mk #[115,104,105,102,116]),(ByteArray.mk #[109,101,116,97])])
def r32_names  : Option (List Str):=some ([(ByteArray.mk #[]),(ByteArray.mk #[116,97,98]),(ByteArray.mk #[101,110,116,101,114]),(ByteArray.mk #[101,115,99,97,112,101]),(ByteArray.mk #[98,97,99,107,115,112,97,99,101]),(ByteArray.mk #[100,101,108,101,116,101]),(ByteArray.mk #[108,101,102,116]),(ByteArray.mk #[114,105,103,104,116]),(ByteArray.mk #[117,112]),(ByteArray.mk #[100,111,119,110]),(ByteArray.mk #[104,111,109,101]),(ByteArray.mk #[101,110,100]),(ByteArray.mk #[102,49]),(ByteArray.mk #[102,50]),(ByteArray.mk #[102,51]),(ByteArray.mk #[102,52]),(ByteArray.mk #[102,53]),(ByteArray.mk #[102,54]),(ByteArray.mk #[102,55]),(ByteArray.mk #[102,56]),(ByteArray.mk #[102,57]),(ByteArray.mk #[102,49,48]),(ByteArray.mk #[102,49,49]),(ByteArray.mk #[102,49,50])])
def r32_Valid (c : Chord) : Option Bool:=sel ((decide (c.Mods < 0)) || (decide (c.Mods > 15))) (some false) (sel ((decide (c.Key ≥ 1)) && (decide (c.Key ≤ 23))) (some true) (some ((((decide (c.Key ≥ 32)) && (decide (c.Key ≤ 1114111))) && ((decide (c.Key < 55296)) || (decide (c.Key > 57343)))) && ((decide (c.Key < 65)) || (decide (c.Key > 90))))))
def r32_chord_L1 (c : Chord) (k2 : Str → Option Str) (again11 : (Str × Int) → Option Str) (s10 : Str × Int) : Option Str:=sel (decide (s10.2 < 4)) (jn (fun (s13 : Str)=>again11 (s13,IntKind.i64.wrap (s10.2 + 1))) fun k14=>(shO (IntKind.u64.wrap s10.2) (bShr .i64 c.Mods (IntKind.u64.wrap s10.2))).bind fun x15=>sel ((bAnd .i64 x15 1) == 1) ((r32_modifiers).bind fun x17=>(idxO x17 s10.2).bind fun x18=>(catO x18 (ByteArray.mk #[43])).bind fun x19=>(catO s10.1 x19).bind fun x20=>k14 x20) (k14 s10.1)) (k2 s10.1)
def r32_chord (c : Chord) : Option Str:=jn (fun (s1 : Str)=>sel (decide (c.Key ≤ 23)) ((r32_names).bind fun x4=>(idxO x4 c.Key).bind fun x5=>(catO s1 x5).bind fun x6=>some x6) (sel (c.Key == 32) ((catO s1 (ByteArray.mk #[115,112,97,99,101])).bind fun x8=>some x8) ((catO s1 (Utf8.encode (IntKind.i32.wrap c.Key))).bind fun x9=>some x9))) fun k2=>loopK (r32_chord_L1 c k2) N0 ((ByteArray.mk #[]),0)
def r32_Format_L1 (l : (List Chord)) (k3 : Str → Option (Str × Int)) (again6 : (Str × Int) → Option (Str × Int)) (s5 : Str × Int) : Option (Str × Int):=sel (decide (s5.2 < (l.length : Int))) ((idxO l s5.2).bind fun x8=>(r32_Valid x8).bind fun x9=>sel (!x9) (some ((ByteArray.mk #[]),1)) (jn (fun (s11 : Str)=>(idxO l s5.2).bind fun x13=>(r32_chord x13).bind fun x14=>(catO s11 x14).bind fun x15=>again6 (x15,IntKind.i64.wrap (s5.2 + 1))) fun k12=>sel (decide (s5.2 > 0)) ((catO s5.1 (ByteArray.mk #[32])).bind fun x17=>k12 x17) (k12 s5.1))) (k3 s5.1)
def r32_Format (l : (List Chord)) : Option (Str × Int):=sel (decide ((l.length : Int) > 3)) (some ((ByteArray.mk #[]),2)) (jn (fun (s2 : Str)=>sel (s2.toList == (ByteArray.mk #[]).toList) (some ((ByteArray.mk #[]),1)) (some (s2,0))) fun k3=>loopK (r32_Format_L1 l k3) N0 ((ByteArray.mk #[]),0))
def r32_read_L1 (s1 : Str × Int) (k4 : Int → Option (Chord × Bool)) (again16 : (Int × Int) → Option (Chord × Bool)) (s15 : Int × Int) : Option (Chord × Bool):=sel (decide (s15.1 ≤ 23)) (jn (fun (s18 : Int)=>again16 (IntKind.i64.wrap (s15.1 + 1),s18)) fun k19=>(r32_names).bind fun x20=>(idxO x20 s15.1).bind fun x21=>sel (x21.toList == s1.1.toList) (k19 s15.1) (k19 s15.2)) (k4 s15.2)
def r32_read_L2 (k2 : (Str × Int) → Option (Chord × Bool)) (again24 : (Str × Int × Int) → Option (Chord × Bool)) (s23 : Str × Int × Int) : Option (Chord × Bool):=sel (decide (s23.2.1 < 4)) (jn (fun (s26 : Str × Int)=>again24 (s26.1,IntKind.i64.wrap (s23.2.1 + 1),s26.2)) fun k27=>(r32_modifiers).bind fun x28=>(idxO x28 s23.2.1).bind fun x29=>(catO x29 (ByteArray.mk #[43])).bind fun x30=>(gO (decide ((s23.1.size : Int) > (x30.size : Int))) (sslcO s23.1 0 (x30.size : Int))).bind fun x31=>sel ((decide ((s23.1.size : Int) > (x30.size : Int))) && (x31.toList == x30.toList)) ((shO (IntKind.u64.wrap s23.2.1) (bShl .i64 1 (IntKind.u64.wrap s23.2.1))).bind fun x33=>(sslcO s23.1 (x30.size : Int) (s23.1.size : Int)).bind fun x34=>k27 (x34,IntKind.i64.wrap (s23.2.2 + x33))) (k27 (s23.1,s23.2.2))) (k2 (s23.1,s23.2.2))
def r32_read (p_s : Str) : Option (Chord × Bool):=jn (fun (s1 : Str × Int)=>jn (fun (s3 : Int)=>jn (fun (s5 : Int)=>jn (fun (s7 : Int)=>(gO (decide (s7 > 0)) (r32_Valid (Chord.mk s7 s1.2))).bind fun x9=>(gO ((decide (s7 > 0)) && x9) (r32_chord (Chord.mk s7 0))).bind fun x10=>some ((Chord.mk s7 s1.2),((decide (s7 > 0)) && x9) && (x10.toList == s1.1.toList))) fun k8=>(gO ((s5 == 0) && (((runes s1.1).length : Int) == 1)) (idxO (runes s1.1) 0)).bind fun x11=>sel (((s5 == 0) && (((runes s1.1).length : Int) == 1)) && (decide (x11 > 32))) ((idxO (runes s1.1) 0).bind fun x13=>k8 (IntKind.i64.wrap x13)) (k8 s5)) fun k6=>sel (s1.1.toList == (ByteArray.mk #[115,112,97,99,101]).toList) (k6 32) (k6 s3)) fun k4=>loopK (r32_read_L1 s1 k4) N0 (1,0)) fun k2=>loopK (r32_read_L2 k2) N0 (p_s,0,0)
def r32_Parse_L1 (p_s : Str) (k3 : (List Chord) → Option ((List Chord) × Int)) (again6 : ((List Chord) × Int × Int) → Option ((List Chord) × Int)) (s5 : (List Chord) × Int × Int) : Option ((List Chord) × Int):=sel (decide (s5.2.2 ≤ (p_s.size : Int))) (jn (fun (s8 : (List Chord) × Int)=>again6 (s8.1,s8.2,IntKind.i64.wrap (s5.2.2 + 1))) fun k9=>(gO (decide (s5.2.2 < (p_s.size : Int))) (sidxO p_s s5.2.2)).bind fun x10=>sel ((decide (s5.2.2 < (p_s.size : Int))) && (x10 != 32)) (k9 (s5.1,s5.2.1)) ((sslcO p_s s5.2.1 s5.2.2).bind fun x12=>(r32_read x12).bind fun x13=>sel (!x13.2) (some (([] : (List Chord)),3)) ((appO s5.1 ([x13.1])).bind fun x15=>k9 (x15,IntKind.i64.wrap (s5.2.2 + 1))))) (k3 s5.1)
def r32_Parse (p_s : Str) : Option ((List Chord) × Int):=sel (decide ((p_s.size : Int) > 100)) (some (([] : (List Chord)),2)) (jn (fun (s2 : (List Chord))=>sel (decide ((s2.length : Int) > 3)) (some (([] : (List Chord)),2)) (some (s2,0))) fun k3=>loopK (r32_Parse_L1 p_s k3) N0 (([] : (List Chord)),0,0))
def b_Src_Chord (p_s : widgetrybase_Src) : Option (Chord × widgetrybase_Src):=(b_Src_N p_s (([97,98,107,99,115,120,75,49,32,43,1,2,3,6,12,23,1488]).length : Int)).bind fun x1=>(idxO ([97,98,107,99,115,120,75,49,32,43,1,2,3,6,12,23,1488]) x1.1).bind fun x2=>(b_Src_N x1.2 9).bind fun x3=>(idxO ([0,0,1,1,2,4,8,15,5]) x3.1).bind fun x4=>jn (fun (s5 : (List Int) × Int × Int)=>jn (fun (s7 : (List Int) × Int × Int)=>some ((Chord.mk s5.2.2 s7.2.2),(widgetrybase_Src.mk s7.1 s7.2.1))) fun k8=>(b_Src_Chance (widgetrybase_Src.mk s5.1 s5.2.1) 30).bind fun x9=>sel x9.1 ((b_Src_Raw x9.2).bind fun x11=>k8 (x11.2.L,x11.2.At,x11.1)) (k8 (x9.2.L,x9.2.At,x4))) fun k6=>(b_Src_Chance x3.2 20).bind fun x12=>sel x12.1 ((b_Src_Raw x12.2).bind fun x14=>k6 (x14.2.L,x14.2.At,x14.1)) (k6 (x12.2.L,x12.2.At,x2))
def b_Src_Chords_L1 (k2 : ((List Chord) × (List Int) × Int) → Option ((List Chord) × widgetrybase_Src)) (again5 : ((List Chord) × Int × (List Int) × Int) → Option ((List Chord) × widgetrybase_Src)) (s4 : (List Chord) × Int × (List Int) × Int) : Option ((List Chord) × widgetrybase_Src):=sel (decide (s4.2.1 > 0)) ((b_Src_N (widgetrybase_Src.mk s4.2.2.1 s4.2.2.2) (([97,107,99,49,32,2,12]).length : Int)).bind fun x7=>(idxO ([97,107,99,49,32,2,12]) x7.1).bind fun x8=>(b_Src_N x7.2 3).bind fun x9=>(appO s4.1 ([(Chord.mk x8 x9.1)])).bind fun x10=>again5 (x10,IntKind.i64.wrap (s4.2.1 - 1),x9.2.L,x9.2.At)) (k2 (s4.1,s4.2.2.1,s4.2.2.2))
def b_Src_Chords (p_s : widgetrybase_Src) : Option ((List Chord) × widgetrybase_Src):=jn (fun (s1 : (List Chord) × (List Int) × Int)=>some (s1.1,(widgetrybase_Src.mk s1.2.1 s1.2.2))) fun k2=>(b_Src_Range p_s 1 3).bind fun x3=>loopK (b_Src_Chords_L1 k2) N0 (([] : (List Chord)),x3.1,x3.2.L,x3.2.At)
def l32_pieces_L1 (k2 : (Str × (List Int) × Int) → Option (Str × widgetrybase_Src)) (again5 : (Str × Int × (List Int) × Int) → Option (Str × widgetrybase_Src)) (s4 : Str × Int × (List Int) × Int) : Option (Str × widgetrybase_Src):=sel (decide (s4.2.1 > 0)) ((b_Src_N (widgetrybase_Src.mk s4.2.2.1 s4.2.2.2) (([(ByteArray.mk #[99,116,114,108,43]),(ByteArray.mk #[97,108,116,43]),(ByteArray.mk #[115,104,105,102,116,43]),(ByteArray.mk #[109,101,116,97,43]),(ByteArray.mk #[107]),(ByteArray.mk #[116,97,98]),(ByteArray.mk #[102,49]),(ByteArray.mk #[102,49,50]),(ByteArray.mk #[102,49,51]),(ByteArray.mk #[115,112,97,99,101]),(ByteArray.mk #[32]),(ByteArray.mk #[32]),(ByteArray.mk #[65]),(ByteArray.mk #[43]),(ByteArray.mk #[101,115,99,97,112,101]),(ByteArray.mk #[195,169]),(ByteArray.mk #[120]),(ByteArray.mk #[117,112]),(ByteArray.mk #[255]),(ByteArray.mk #[101,110,100])]).length : Int)).bind fun x7=>(idxO ([(ByteArray.mk #[99,116,114,108,43]),(ByteArray.mk #[97,108,116,43]),(ByteArray.mk #[115,104,105,102,116,43]),(ByteArray.mk #[109,101,116,97,43]),(ByteArray.mk #[107]),(ByteArray.mk #[116,97,98]),(ByteArray.mk #[102,49]),(ByteArray.mk #[102,49,50]),(ByteArray.mk #[102,49,51]),(ByteArray.mk #[115,112,97,99,101]),(ByteArray.mk #[32]),(ByteArray.mk #[32]),(ByteArray.mk #[65]),(ByteArray.mk #[43]),(ByteArray.mk #[101,115,99,97,112,101]),(ByteArray.mk #[195,169]),(ByteArray.mk #[120]),(ByteArray.mk #[117,112]),(ByteArray.mk #[255]),(ByteArray.mk #[101,110,100])]) x7.1).bind fun x8=>(catO s4.1 x8).bind fun x9=>again5 (x9,IntKind.i64.wrap (s4.2.1 - 1),x7.2.L,x7.2.At)) (k2 (s4.1,s4.2.2.1,s4.2.2.2))
def l32_pieces (p_s : widgetrybase_Src) : Option (Str × widgetrybase_Src):=jn (fun (s1 : Str × (List Int) × Int)=>some (s1.1,(widgetrybase_Src.mk s1.2.1 s1.2.2))) fun k2=>(b_Src_Range p_s 1 7).bind fun x3=>loopK (l32_pieces_L1 k2) N0 ((ByteArray.mk #[]),x3.1,x3.2.L,x3.2.At)
def l32_ShortcutBack_L1 (text : Str) (x10 : Str × widgetrybase_Src) (x11 : Str × widgetrybase_Src) (x12 : Str × widgetrybase_Src) (k14 : Unit → Option Bool) (again17 : Int → Option Bool) (s16 : Int) : Option Bool:=sel (decide (s16 < (([text,x10.1,x11.1,x12.1]).length : Int))) (jn (fun (_s19 : Unit)=>again17 (IntKind.i64.wrap (s16 + 1))) fun k20=>(idxO ([text,x10.1,x11.1,x12.1]) s16).bind fun x21=>(sc_Parse x21).bind fun x22=>sel (x22.2 != 0) (k20 ()) ((sc_Format x22.1).bind fun x24=>(gO (!(x24.2 != 0)) (idxO ([text,x10.1,x11.1,x12.1]) s16)).bind fun x25=>sel ((x24.2 != 0) || (!(x24.1.toList == x25.toList))) (some false) (k20 ()))) (k14 ())
def l32_ShortcutBack_L2 (l : (List Chord)) (x3 : (List Chord) × widgetrybase_Src) (x4 : Chord × widgetrybase_Src) (x5 : Chord × widgetrybase_Src) (x6 : Chord × widgetrybase_Src) (x7 : Chord × widgetrybase_Src) (k9 : Unit → Option Bool) (again28 : Int → Option Bool) (s27 : Int) : Option Bool:=sel (decide (s27 < (([l,x3.1,[x4.1],[x5.1,x6.1,x7.1]]).length : Int))) (jn (fun (_s30 : Unit)=>again28 (IntKind.i64.wrap (s27 + 1))) fun k31=>(idxO ([l,x3.1,[x4.1],[x5.1,x6.1,x7.1]]) s27).bind fun x32=>(sc_Format x32).bind fun x33=>sel (x33.2 != 0) (k31 ()) ((sc_Parse x33.1).bind fun x35=>(gO (!(x35.2 != 0)) (idxO ([l,x3.1,[x4.1],[x5.1,x6.1,x7.1]]) s27)).bind fun x36=>(gO (!(x35.2 != 0)) (l32_same x35.1 x36)).bind fun x37=>sel ((x35.2 != 0) || (!x37)) (some false) (k31 ()))) (k9 ())
def l32_ShortcutBack (text : Str) (l : (List Chord)) (p_n : (List Int)) : Option Bool:=sel ((decide ((text.size : Int) > 200)) || (decide ((l.length : Int) > 20))) (some true) ((b_New p_n).bind fun x2=>(b_Src_Chords x2).bind fun x3=>(b_Src_Chord x3.2).bind fun x4=>(b_Src_Chord x4.2).bind fun x5=>(b_Src_Chord x5.2).bind fun x6=>(b_Src_Chord x6.2).bind fun x7=>jn (fun (_s8 : Unit)=>(l32_pieces x7.2).bind fun x10=>(l32_pieces x10.2).bind fun x11=>(l32_pieces x11.2).bind fun x12=>jn (fun (_s13 : Unit)=>(l32_awake).bind fun x15=>some x15) fun k14=>loopK (l32_ShortcutBack_L1 text x10 x11 x12 k14) N0 0) fun k9=>loopK (l32_ShortcutBack_L2 l x3 x4 x5 x6 x7 k9) N0 0)
end Go.Proofs.YtobiohcdpfpefaaDoor
end
section
set_option maxRecDepth 100000
namespace Go.Proofs.YtobiohcdpfpefaaDoor
open Go Go.E2
end Go.Proofs.YtobiohcdpfpefaaDoor
end
section
set_option maxRecDepth 100000
namespace Go.Proofs.YtobiohcdpfpefaaDoor
open Go Go.E2
end Go.Proofs.YtobiohcdpfpefaaDoor
end
section
set_option maxRecDepth 100000
namespace Go.Proofs.YtobiohcdpfpefaaDoor
open Go Go.E2
end Go.Proofs.YtobiohcdpfpefaaDoor
end
section
set_option maxRecDepth 100000
namespace Go.Proofs.YtobiohcdpfpefaaDoor
open Go Go.E2
theorem b_New_c (l : (List Int)) {r : widgetrybase_Src} (hr : b_New l = some r) : Con Tryd.prog 7 [.c (.d (.sl (List.map (eInt .i64) l)))] [] (.s (.c (.loc 0 0))) [(0,.blk [.d (.sl (List.map (eInt .i64) r.L)),cI r.At] 74)]:=by
 unfold b_New at hr
 refine Con.of_ok 11 0 [.tmp 2] [(0,.s (.c (.d (.sl (List.map (eInt .i64) l)))))] Tryd.func7 rfl rfl rfl rfl rfl rfl rfl rfl fun w g M ρ _=>(Ok.seq (Ok.region (OkOps.y (.c (.d (.v (.pointer none)))) (OkOps.nil ?_))))
 obtain ⟨k2,hk2,hr⟩:=jn_some hr
 refine Ok.join (fun (s1 : (List Int))=>⟨[(0,.s (.c (.d (.sl (List.map (eInt .i64) s1)))))],[],0⟩) k2 r (fun s1 hr=>?_) ?_
 rw [hk2] at hr
 refine Ok.seq (Ok.region (OkOps.y (.c (.d (.sl (List.map (eInt .i64) s1)))) (OkOps.y (.agg [.d (.sl (List.map (eInt .i64) s1)),cI 0]) (OkOps.m 0 (triBox (j:=0) (cs:=[.d (.sl (List.map (eInt .i64) s1)),cI 0]) rfl rfl rfl rfl rfl) (OkOps.y (.c (.loc 0 0)) (OkOps.nil (Ok.ret ?_)))))))
 obtain rfl:=Option.some.inj hr
 exact ⟨_,rfl,.inl rfl,⟨rfl,trivial⟩⟩
 clear hk2
 refine Ok.seq (Ok.region (OkOps.y (.c (.d (.sl (List.map (eInt .i64) l)))) (OkOps.q (triLen (enc:=(eInt .i64)) l rfl rfl trivial rfl) (OkOps.y (aB (decide ((l.length : Int) > 4000))) (OkOps.nil ?_)))))
 refine Ok.cond (b:=decide ((l.length : Int) > 4000)) rfl (fun h3=>?_) (fun h3=>?_)
 have hr:=selT h3 hr
 refine Ok.region (OkOps.y (.c (.d (.sl (List.map (eInt .i64) l)))) ?_)
 obtain ⟨x4,hx4,hr⟩:=bind_some hr
 refine OkOps.q (triSlc (enc:=(eInt .i64)) (L:=l) hx4 rfl rfl rfl (.inl ⟨rfl,rfl⟩) (.inr ⟨_,rfl⟩) rfl (fun _=>rfl) trivial rfl) (OkOps.y (.c (.d (.sl (List.map (eInt .i64) x4)))) (OkOps.nil ?_))
 exact ⟨x4,hr,(Conv.mk (tau []) ⟨⟨_,rfl,.inl rfl⟩,trivial⟩ trivial rfl rfl rfl rfl)⟩
 have hr:=selF h3 hr
 refine Ok.skip ?_
 exact ⟨l,hr,(Conv.mk (tau []) ⟨⟨_,rfl,.inl rfl⟩,trivial⟩ trivial rfl rfl rfl rfl)⟩
theorem b_Src_N_c (p_s : widgetrybase_Src) (p_n : Int) {r : Int × widgetrybase_Src} (hr : b_Src_N p_s p_n = some r) : Con Tryd.prog 23 [.c (.loc 0 0),aI p_n] [(0,.blk [.d (.sl (List.map (eInt .i64) p_s.L)),cI p_s.At] 74)] (.s (aI r.1)) [(0,.blk [.d (.sl (List.map (eInt .i64) r.2.L)),cI r.2.At] 74)]:=by
 unfold b_Src_N at hr
 refine Con.of_ok 45 0 [.tmp 4] [(0,.s (.c (.loc 0 0))),(1,.s (aI p_n))] Tryd.func23 rfl rfl rfl rfl rfl rfl rfl rfl fun w g M ρ _=>(Ok.seq (Ok.region (OkOps.y (aI 0) (OkOps.nil (Ok.seq (Ok.seq (Ok.regionD (by kernel_rfl) (OkD.x (.c (.loc 0 0)) rfl trivial rfl (OkD.x (.c (.loc 0 0)) rfl trivial rfl (OkD.x (.c (.loc 0 1)) rfl trivial rfl (OkD.x (aI p_s.At) rfl trivial rfl (OkD.x (.c (.loc 0 0)) rfl trivial rfl (OkD.x (.c (.loc 0 0)) rfl trivial rfl (OkD.x (.c (.loc 0 0)) rfl trivial rfl (OkD.x (.c (.d (.sl (List.map (eInt .i64) p_s.L)))) rfl trivial rfl ?_)))))))))))))))
 refine OkD.q (triLen (enc:=(eInt .i64)) p_s.L rfl rfl trivial rfl) (OkD.x (aB (decide (p_s.At ≥ (p_s.L.length : Int)))) rfl trivial rfl (OkD.x (aB (decide (p_s.At ≥ (p_s.L.length : Int)))) rfl trivial rfl (OkD.q (triQG (x:=aI p_n) rfl rfl trivial rfl) (OkD.q (triQG (x:=aB (decide (p_n < 1))) rfl rfl ⟨fun h=>h,trivial⟩ rfl) ?_))))
 refine OkD.q (triOr rfl rfl (fun h=>by rw [h];rfl) rfl) ?_
 refine OkD.nil (by kernel_rfl) ?_
 refine Ok.cond (b:=(decide (p_s.At ≥ (p_s.L.length : Int))) || (decide (p_n < 1))) rfl (fun h1=>?_) (fun h1=>?_)
 have hr:=selT h1 hr
 refine Ok.seq (Ok.region (OkOps.y (aI 0) (OkOps.nil (Ok.ret ?_))))
 obtain rfl:=Option.some.inj hr
 exact ⟨_,rfl,.inl rfl,⟨rfl,trivial⟩⟩
 have hr:=selF h1 hr
 refine Ok.skip (Ok.seq (Ok.regionD (by kernel_rfl) (OkD.x (.c (.loc 0 0)) rfl trivial rfl (OkD.x (.c (.loc 0 0)) rfl trivial rfl (OkD.x (.c (.loc 0 0)) rfl trivial rfl (OkD.x (.c (.d (.sl (List.map (eInt .i64) p_s.L)))) rfl trivial rfl (OkD.x (.c (.loc 0 0)) rfl trivial rfl (OkD.x (.c (.loc 0 0)) rfl trivial rfl (OkD.x (.c (.loc 0 1)) rfl trivial rfl (OkD.x (aI p_s.At) rfl trivial rfl ?_))))))))))
 obtain ⟨x2,hx2,hr⟩:=bind_some hr
 refine OkD.q (triIdx (enc:=(eInt .i64)) (L:=p_s.L) (row:=[dI x2]) hx2 rfl rfl rfl rfl (fun _=>rfl) trivial rfl) (OkD.x (aI x2) rfl trivial rfl (OkD.x (aI p_n) rfl trivial rfl ?_))
 obtain ⟨x3,hx3,hr⟩:=bind_some hr
 refine OkD.q (triRem hx3 rfl rfl trivial rfl) (OkD.x (aI x3) rfl trivial rfl (OkD.nil (by kernel_rfl) (Ok.seq (Ok.region (OkOps.y (.c (.loc 0 0)) (OkOps.y (.c (.loc 0 0)) (OkOps.y (.c (.loc 0 1)) (OkOps.y (aI p_s.At) (OkOps.y (aI (IntKind.i64.wrap (p_s.At + 1))) (OkOps.y (.c (.loc 0 0)) (OkOps.y (.c (.loc 0 1)) (OkOps.w (triStore (cs':=[.d (.sl (List.map (eInt .i64) p_s.L)),cI (IntKind.i64.wrap (p_s.At + 1))]) rfl rfl rfl rfl rfl rfl rfl rfl rfl) (OkOps.nil ?_)))))))))))))
 obtain ⟨k5,hk5,hr⟩:=jn_some hr
 refine Ok.join (fun (s4 : Int)=>⟨[(5,.s (aI s4))],[(0,.blk [.d (.sl (List.map (eInt .i64) p_s.L)),cI (IntKind.i64.wrap (p_s.At + 1))] 74)],0⟩) k5 r (fun s4 hr=>?_) ?_
 rw [hk5] at hr
 refine Ok.seq (Ok.region (OkOps.y (aI s4) (OkOps.y (aI s4) (OkOps.nil (Ok.ret ?_)))))
 obtain rfl:=Option.some.inj hr
 exact ⟨_,rfl,.inl rfl,⟨rfl,trivial⟩⟩
 clear hk5
 refine Ok.seq (Ok.region (OkOps.y (aI x3) (OkOps.y (aB (decide (x3 < 0))) (OkOps.nil ?_))))
 refine Ok.cond (b:=decide (x3 < 0)) rfl (fun h6=>?_) (fun h6=>?_)
 have hr:=selT h6 hr
 refine Ok.region (OkOps.y (aI x3) (OkOps.y (aI p_n) (OkOps.y (aI (IntKind.i64.wrap (x3 + p_n))) (OkOps.y (aI (IntKind.i64.wrap (x3 + p_n))) (OkOps.nil ?_)))))
 exact ⟨IntKind.i64.wrap (x3 + p_n),hr,(Conv.mk (tau []) ⟨⟨_,rfl,.inl rfl⟩,trivial⟩ ⟨rfl,trivial⟩ rfl rfl rfl rfl)⟩
 have hr:=selF h6 hr
 refine Ok.skip ?_
 exact ⟨x3,hr,(Conv.mk (tau []) ⟨⟨_,rfl,.inl rfl⟩,trivial⟩ ⟨rfl,trivial⟩ rfl rfl rfl rfl)⟩
theorem b_Src_Raw_c (p_s : widgetrybase_Src) {r : Int × widgetrybase_Src} (hr : b_Src_Raw p_s = some r) : Con Tryd.prog 28 [.c (.loc 0 0)] [(0,.blk [.d (.sl (List.map (eInt .i64) p_s.L)),cI p_s.At] 74)] (.s (aI r.1)) [(0,.blk [.d (.sl (List.map (eInt .i64) r.2.L)),cI r.2.At] 74)]:=by
 unfold b_Src_Raw at hr
 refine Con.of_ok 31 0 [.tmp 2] [(0,.s (.c (.loc 0 0)))] Tryd.func28 rfl rfl rfl rfl rfl rfl rfl rfl fun w g M ρ _=>(Ok.seq (Ok.region (OkOps.y (aI 0) (OkOps.nil (Ok.seq (Ok.seq (Ok.regionD (by kernel_rfl) (OkD.x (.c (.loc 0 0)) rfl trivial rfl (OkD.x (.c (.loc 0 0)) rfl trivial rfl (OkD.x (.c (.loc 0 1)) rfl trivial rfl (OkD.x (aI p_s.At) rfl trivial rfl (OkD.x (.c (.loc 0 0)) rfl trivial rfl (OkD.x (.c (.loc 0 0)) rfl trivial rfl (OkD.x (.c (.loc 0 0)) rfl trivial rfl (OkD.x (.c (.d (.sl (List.map (eInt .i64) p_s.L)))) rfl trivial rfl ?_)))))))))))))))
 refine OkD.q (triLen (enc:=(eInt .i64)) p_s.L rfl rfl trivial rfl) (OkD.x (aB (decide (p_s.At ≥ (p_s.L.length : Int)))) rfl trivial rfl (OkD.nil (by kernel_rfl) ?_))
 refine Ok.cond (b:=decide (p_s.At ≥ (p_s.L.length : Int))) rfl (fun h1=>?_) (fun h1=>?_)
 have hr:=selT h1 hr
 refine Ok.seq (Ok.region (OkOps.y (aI 0) (OkOps.nil (Ok.ret ?_))))
 obtain rfl:=Option.some.inj hr
 exact ⟨_,rfl,.inl rfl,⟨rfl,trivial⟩⟩
 have hr:=selF h1 hr
 refine Ok.skip (Ok.seq (Ok.region (OkOps.y (.c (.loc 0 0)) (OkOps.y (.c (.loc 0 0)) (OkOps.y (.c (.loc 0 1)) (OkOps.y (aI p_s.At) (OkOps.y (aI (IntKind.i64.wrap (p_s.At + 1))) (OkOps.y (.c (.loc 0 0)) (OkOps.y (.c (.loc 0 1)) (OkOps.w (triStore (cs':=[.d (.sl (List.map (eInt .i64) p_s.L)),cI (IntKind.i64.wrap (p_s.At + 1))]) rfl rfl rfl rfl rfl rfl rfl rfl rfl) (OkOps.nil (Ok.seq (Ok.regionD (by kernel_rfl) (OkD.x (.c (.loc 0 0)) rfl trivial rfl (OkD.x (.c (.loc 0 0)) rfl trivial rfl ?_)))))))))))))))
 refine OkD.x (.c (.loc 0 0)) rfl trivial rfl (OkD.x (.c (.d (.sl (List.map (eInt .i64) p_s.L)))) rfl trivial rfl (OkD.x (.c (.loc 0 0)) rfl trivial rfl (OkD.x (.c (.loc 0 0)) rfl trivial rfl (OkD.x (.c (.loc 0 1)) rfl trivial rfl (OkD.x (aI (IntKind.i64.wrap (p_s.At + 1))) rfl trivial rfl (OkD.x (aI (IntKind.i64.wrap ((IntKind.i64.wrap (p_s.At + 1)) - 1))) rfl trivial rfl ?_))))))
 obtain ⟨x2,hx2,hr⟩:=bind_some hr
 refine OkD.q (triIdx (enc:=(eInt .i64)) (L:=p_s.L) (row:=[dI x2]) hx2 rfl rfl rfl rfl (fun _=>rfl) trivial rfl) (OkD.x (aI x2) rfl trivial rfl (OkD.x (aI x2) rfl trivial rfl (OkD.nil (by kernel_rfl) (Ok.ret ?_))))
 obtain rfl:=Option.some.inj hr
 exact ⟨_,rfl,.inl rfl,⟨rfl,trivial⟩⟩
theorem b_Src_Chance_c (p_s : widgetrybase_Src) (p_n : Int) {r : Bool × widgetrybase_Src} (hr : b_Src_Chance p_s p_n = some r) : Con Tryd.prog 27 [.c (.loc 0 0),aI p_n] [(0,.blk [.d (.sl (List.map (eInt .i64) p_s.L)),cI p_s.At] 74)] (.s (aB r.1)) [(0,.blk [.d (.sl (List.map (eInt .i64) r.2.L)),cI r.2.At] 74)]:=by
 unfold b_Src_Chance at hr
 refine Con.of_ok 11 0 [.tmp 4] [(0,.s (.c (.loc 0 0))),(1,.s (aI p_n))] Tryd.func27 rfl rfl rfl rfl rfl rfl rfl rfl fun w g M ρ _=>(Ok.seq (Ok.region (OkOps.y (aB false) (OkOps.nil (Ok.seq (Ok.region (OkOps.y (.c (.loc 0 0)) (OkOps.y (aI p_n) ?_))))))))
 obtain ⟨x1,hx1,hr⟩:=bind_some hr
 refine OkOps.m 0 (triCl (tau [(0,0)]) (.s (aI x1.1)) [(0,.blk [.d (.sl (List.map (eInt .i64) x1.2.L)),cI x1.2.At] 74)] (b_Src_N_c _ _ hx1) rfl ⟨.inl rfl,.inl rfl,trivial⟩ trivial entry23 ⟨rfl,trivial⟩) (OkOps.y (aI p_n) (OkOps.y (aI (IntKind.i64.wrap (p_n - 1))) (OkOps.y (aB (x1.1 == (IntKind.i64.wrap (p_n - 1)))) (OkOps.y (aB (x1.1 == (IntKind.i64.wrap (p_n - 1)))) (OkOps.nil (Ok.ret ?_))))))
 obtain rfl:=Option.some.inj hr
 exact ⟨_,rfl,.inl rfl,⟨rfl,trivial⟩⟩
theorem b_Src_Range_c (p_s : widgetrybase_Src) (low : Int) (high : Int) {r : Int × widgetrybase_Src} (hr : b_Src_Range p_s low high = some r) : Con Tryd.prog 22 [.c (.loc 0 0),aI low,aI high] [(0,.blk [.d (.sl (List.map (eInt .i64) p_s.L)),cI p_s.At] 74)] (.s (aI r.1)) [(0,.blk [.d (.sl (List.map (eInt .i64) r.2.L)),cI r.2.At] 74)]:=by
 unfold b_Src_Range at hr
 refine Con.of_ok 15 0 [.tmp 6] [(0,.s (.c (.loc 0 0))),(1,.s (aI low)),(2,.s (aI high))] Tryd.func22 rfl rfl rfl rfl rfl rfl rfl rfl fun w g M ρ _=>(Ok.seq (Ok.region (OkOps.y (aI 0) (OkOps.nil (Ok.seq (Ok.region (OkOps.y (aI low) (OkOps.y (.c (.loc 0 0)) (OkOps.y (aI high) (OkOps.y (aI low) (OkOps.y (aI (IntKind.i64.wrap (high - low))) (OkOps.y (aI (IntKind.i64.wrap ((IntKind.i64.wrap (high - low)) + 1))) ?_))))))))))))
 obtain ⟨x1,hx1,hr⟩:=bind_some hr
 refine OkOps.m 0 (triCl (tau [(0,0)]) (.s (aI x1.1)) [(0,.blk [.d (.sl (List.map (eInt .i64) x1.2.L)),cI x1.2.At] 74)] (b_Src_N_c _ _ hx1) rfl ⟨.inl rfl,.inl rfl,trivial⟩ trivial entry23 ⟨rfl,trivial⟩) (OkOps.y (aI (IntKind.i64.wrap (low + x1.1))) (OkOps.y (aI (IntKind.i64.wrap (low + x1.1))) (OkOps.nil (Ok.ret ?_))))
 obtain rfl:=Option.some.inj hr
 exact ⟨_,rfl,.inl rfl,⟨rfl,trivial⟩⟩
end Go.Proofs.YtobiohcdpfpefaaDoor
end
section
set_option maxRecDepth 100000
namespace Go.Proofs.YtobiohcdpfpefaaDoor
open Go Go.E2
end Go.Proofs.YtobiohcdpfpefaaDoor
end
section
namespace Go.E2
variable {P : Program} {C : Ctx}
def rec0 (a : Act) (fid : FuncId) (D : Nat) (ps : Array Tmp) (assign body : Code) (s : LoopState) (pe : Option Code) : Obj :=
 .loop { state:=s,pending:=pe,fn:=fid,tmps:=a.tmps,params:=ps,assign,body,defers:=D }
structure LoopE (C : Ctx) (st : AState) (ps : Array Tmp) (assign body : Code) (jl l : Nat) (ρ1 : Env) (M1 : Mem) (ob : LoopState → Option Code → Obj) : Prop where
 ptr : ρ1 jl = .pointer (some ⟨l,0,none⟩)
 ex : ∃ (a : Act) (fid : FuncId) (D : Nat),a.tmps.size = C.n ∧ (∀ ρ',Agree (look st.bl) ρ1 ρ' → ∀ s v,look st.sl s = some v → v.rep ρ' M1 (a.tmps.getD s undef)) ∧ ob = rec0 a fid D ps assign body
 old : C.w0.heap.size ≤ l
end Go.E2
end
section
namespace Go.E2
variable {P : Program} {C : Ctx} {F : FS} {ops : Array Oper} {dst : Nat} {op : Op} {ty : TypeId} {pos : String} {after : Array Edge}
end Go.E2
end
section
namespace Go.E2
variable {P : Program} {C : Ctx} {F : FS} {ops : Array Oper} {dst : Nat} {op : Op} {ty : TypeId} {pos : String} {after : Array Edge}
def keptOk (F : FS) : List (Nat × Ob) → Prop
 | []=>True
 | (k,o) :: r=>F.bl k = some o ∧ keptOk F r
theorem keptOk_over {F F' : FS} : ∀ {Wb : List (Nat × Ob)},keptOk F Wb → (∀ k ∈ Wb.map (·.1),F'.bl k = F.bl k) → over Wb F'.bl = F'.bl
 | [],_,_=>over_nil _
 | (k,o) :: r,h,hs=>by
  have ih:=keptOk_over h.2 (fun j hj=>hs j (by simp [hj]))
  funext n
  unfold over at ih ⊢
  rw [look_cons]
  by_cases e : k = n
  ·subst e;rw [if_pos rfl];simp only;rw [hs k (by simp),h.1]
  ·rw [if_neg e];exact congrFun ih n
theorem TriL.keep {o : Oper} {rs rb ws wb : List Nat} {Ws : List (Nat × AV)} {Wb : List (Nat × Ob)} (h : TriL P C ops o ⟨rs,rb,ws,wb⟩ Ws Wb F) (hk : keptOk F Wb) : TriL P C ops o ⟨rs,rb ++ Wb.map (·.1),ws,[]⟩ Ws [] F:=by
 refine ⟨⟨h.1.1,rfl⟩,fun F' hS=>?_⟩
 have h2:=h.2 F' ⟨hS.1,fun j hj=>hS.2 j (List.mem_append_left _ hj)⟩
 have e : F'.upd Ws Wb = F'.upd Ws []:=by
  unfold FS.upd
  rw [keptOk_over hk (fun k hk'=>hS.2 k (List.mem_append_right _ hk')),over_nil]
 rw [← e];exact h2
theorem TriL.guard {op : Op} {gk d : Nat} {want g : Bool} {rs rb : List Nat} {x : A1} (hb : guardB F ops gk want = some g) (hn : Nat.blt d C.n = true) (h : g = true → TriL P C ops ⟨some d,op,ty,pos,after,none⟩ ⟨rs,rb,[d],[]⟩ [(d,.s x)] [] F) :
  TriL P C ops ⟨some d,op,ty,pos,after,some (gk,want)⟩ ⟨gSlot ops gk ++ rs,rb,[d],[]⟩ [(d,.gd g x)] [] F:=by
 refine ⟨⟨rfl,rfl⟩,fun F' hS=>?_⟩
 have hb':=(guardB_same (want:=want) (fun t ht=>hS.1 t (by simp [ht]))).trans hb
 intro Q' K' hK ρ M a w hr
 cases g with
 | false =>
  rw [guardB_wanted hr.at rfl hb',if_neg (by simp)]
  refine hK ρ M _ _ fun ρ' ha=>?_
  have h0:=hr ρ' (fun j hj=>ha j (by rw [FS.upd,over_nil];exact hj))
  exact h0.put (v:=.gd false x) (Nat.blt_eq.mp hn) rfl (Mem.le_refl _) (by rw [over_nil];exact h0.heap)
 | true =>
  rw [guardB_wanted hr.at rfl hb',if_pos rfl]
  have h3:=(h rfl).2 F' ⟨fun t ht=>hS.1 t (List.mem_append_right _ ht),hS.2⟩ Q' K' (fun ρ1 M1 a1 w1 hr1=>hK ρ1 M1 a1 w1 (fun ρ' ha=>?_)) ρ M a w hr
  ·rw [if_pos (wanted_none rfl)] at h3
   exact h3
  ·have h0:=hr1 ρ' ha
   refine ⟨h0.defers,h0.size,fun s v hv=>?_,h0.heap⟩
   simp only [FS.upd,over_one] at hv
   split at hv
   ·cases hv
    exact h0.slots s (.s x) (by simp only [FS.upd,over_one];rename_i e;rw [if_pos e])
   ·rename_i e
    exact h0.slots s v (by simp only [FS.upd,over_one];rw [if_neg e];exact hv)
end Go.E2
end
section
set_option maxRecDepth 100000
namespace Go.Proofs.YtobiohcdpfpefaaDoor
open Go Go.E2
theorem sc_letter_c (p_r : Int) {r : Int} (hr : sc_letter p_r = some r) : Con Tryd.prog 57 [.c (.d (.v (.int .i32 p_r)))] [] (.s (aI r)) []:=by
 unfold sc_letter at hr
 refine Con.of_ok 34 0 [.tmp 2] [(0,.s (.c (.d (.v (.int .i32 p_r)))))] Tryd.func57 rfl rfl rfl rfl rfl rfl rfl rfl fun w g M ρ _=>(Ok.seq (Ok.region (OkOps.y (aI 0) (OkOps.nil (Ok.seq (Ok.block (Ok.seq (Ok.region (OkOps.y (.c (.d (.v (.int .i32 p_r)))) (OkOps.y (aB (decide (p_r ≥ 97))) (OkOps.y (aB (decide (p_r ≥ 97))) (OkOps.q (triQG (x:=.c (.d (.v (.int .i32 p_r)))) rfl rfl trivial rfl) (OkOps.q (triQG (x:=aB (decide (p_r ≤ 122))) rfl rfl ⟨fun h=>h,trivial⟩ rfl) (OkOps.q (triAnd rfl rfl (fun h=>h) rfl) (OkOps.y (aB ((decide (p_r ≥ 97)) && (decide (p_r ≤ 122)))) ?_)))))))))))))))
 refine OkOps.nil ?_
 refine Ok.cond (b:=(decide (p_r ≥ 97)) && (decide (p_r ≤ 122))) rfl (fun h1=>?_) (fun h1=>?_)
 have hr:=selT h1 hr
 refine Ok.seq (Ok.region (OkOps.y (.c (.d (.v (.int .i32 p_r)))) (OkOps.y (.c (.d (.v (.int .i32 (IntKind.i32.wrap (p_r - 97)))))) (OkOps.y (aI (IntKind.i64.wrap (IntKind.i32.wrap (p_r - 97)))) (OkOps.y (aI (IntKind.i64.wrap (IntKind.i32.wrap (p_r - 97)))) (OkOps.nil (Ok.ret ?_)))))))
 obtain rfl:=Option.some.inj hr
 exact ⟨_,rfl,.inl rfl,trivial⟩
 have hr:=selF h1 hr
 refine Ok.seq (Ok.region (OkOps.y (.c (.d (.v (.int .i32 p_r)))) (OkOps.y (aB (decide (p_r ≥ 65))) (OkOps.y (aB (decide (p_r ≥ 65))) (OkOps.q (triQG (x:=.c (.d (.v (.int .i32 p_r)))) rfl rfl trivial rfl) (OkOps.q (triQG (x:=aB (decide (p_r ≤ 90))) rfl rfl ⟨fun h=>h,trivial⟩ rfl) (OkOps.q (triAnd rfl rfl (fun h=>h) rfl) (OkOps.y (aB ((decide (p_r ≥ 65)) && (decide (p_r ≤ 90)))) (OkOps.nil ?_)))))))))
 refine Ok.cond (b:=(decide (p_r ≥ 65)) && (decide (p_r ≤ 90))) rfl (fun h2=>?_) (fun h2=>?_)
 have hr:=selT h2 hr
 refine Ok.seq (Ok.region (OkOps.y (.c (.d (.v (.int .i32 p_r)))) (OkOps.y (.c (.d (.v (.int .i32 (IntKind.i32.wrap (p_r - 65)))))) (OkOps.y (aI (IntKind.i64.wrap (IntKind.i32.wrap (p_r - 65)))) (OkOps.y (aI (IntKind.i64.wrap (IntKind.i32.wrap (p_r - 65)))) (OkOps.nil (Ok.ret ?_)))))))
 obtain rfl:=Option.some.inj hr
 exact ⟨_,rfl,.inl rfl,trivial⟩
 have hr:=selF h2 hr
 refine Ok.seq (Ok.region (OkOps.y (.c (.d (.v (.int .i32 p_r)))) (OkOps.y (aB (decide (p_r ≥ 48))) (OkOps.y (aB (decide (p_r ≥ 48))) (OkOps.q (triQG (x:=.c (.d (.v (.int .i32 p_r)))) rfl rfl trivial rfl) (OkOps.q (triQG (x:=aB (decide (p_r ≤ 57))) rfl rfl ⟨fun h=>h,trivial⟩ rfl) (OkOps.q (triAnd rfl rfl (fun h=>h) rfl) (OkOps.y (aB ((decide (p_r ≥ 48)) && (decide (p_r ≤ 57)))) (OkOps.nil ?_)))))))))
 refine Ok.cond (b:=(decide (p_r ≥ 48)) && (decide (p_r ≤ 57))) rfl (fun h3=>?_) (fun h3=>?_)
 have hr:=selT h3 hr
 refine Ok.seq (Ok.region (OkOps.y (.c (.d (.v (.int .i32 p_r)))) (OkOps.y (.c (.d (.v (.int .i32 (IntKind.i32.wrap (p_r - 48)))))) (OkOps.y (aI (IntKind.i64.wrap (IntKind.i32.wrap (p_r - 48)))) (OkOps.y (aI (IntKind.i64.wrap ((IntKind.i64.wrap (IntKind.i32.wrap (p_r - 48))) + 26))) (OkOps.y (aI (IntKind.i64.wrap ((IntKind.i64.wrap (IntKind.i32.wrap (p_r - 48))) + 26))) (OkOps.nil (Ok.ret ?_))))))))
 obtain rfl:=Option.some.inj hr
 exact ⟨_,rfl,.inl rfl,trivial⟩
 have hr:=selF h3 hr
 refine Ok.skip (Ok.seq (Ok.region (OkOps.y (aI (-1)) (OkOps.nil (Ok.ret ?_)))))
 obtain rfl:=Option.some.inj hr
 exact ⟨_,rfl,.inl rfl,trivial⟩
theorem sc_choices_c (label : Str) {r : (List shortcut_choice)} (hr : sc_choices label = some r) : Con Tryd.prog 34 [aS label] [] (.s (.c (.d (.sl (List.map shortcut_choice.cs r))))) []:=by
 unfold sc_choices at hr
 refine Con.of_ok 36 0 [.tmp 2] [(0,.s (aS label))] Tryd.func34 rfl rfl rfl rfl rfl rfl rfl rfl fun w g M ρ _=>(Ok.seq (Ok.region (OkOps.y (.c (.d (.v (.slice none 0 0)))) (OkOps.nil (Ok.seq (Ok.region (OkOps.y (.c (.d (.v (.slice none 0 0)))) (OkOps.nil (Ok.seq (Ok.region (OkOps.m 0 (triAlloc (j:=0) (cs:=([] ++ (arrC 36 dBool (fun _=>false) ++ []))) rfl rfl rfl rfl) (OkOps.nil ?_))))))))))))
 obtain ⟨k2,hk2,hr⟩:=jn_some hr
 refine Ok.join (fun (s1 : (List shortcut_choice))=>⟨[(3,.s (.c (.tl 1008 (List.map shortcut_choice.cs s1))))],[(1008,.tail 2)],0⟩) k2 r (fun s1 hr=>?_) ?_
 rw [hk2] at hr
 refine Ok.seq (Ok.region (OkOps.y (.c (.tl 1008 (List.map shortcut_choice.cs s1))) (OkOps.y (.c (.tl 1008 (List.map shortcut_choice.cs s1))) (OkOps.nil (Ok.ret ?_)))))
 obtain rfl:=Option.some.inj hr
 exact ⟨_,rfl,.inr rfl,trivial⟩
 clear hk2
 refine Ok.seq (Ok.region (OkOps.y (aS label) (OkOps.q (triRunes rfl rfl trivial rfl) (OkOps.q (triLen (enc:=(eInt .i32)) (runes label) rfl rfl trivial rfl) (OkOps.y (aI 0) (OkOps.nil (Ok.block (Ok.loopK (fun (s3 : (List shortcut_choice) × Int × (Nat → Bool))=>⟨[(3,.s (.c (.tl 1013 (List.map shortcut_choice.cs s3.1)))),(4,.s (.c (.loc 0 0))),(9,.s (.c (.d (.sl (List.map (eInt .i32) (runes label)))))),(10,.s (aI ((runes label).length : Int))),(11,.s (aI s3.2.1))],[(0,.blk ([] ++ (arrC 36 dBool s3.2.2 ++ [])) 88),(1013,.tail 2)],0⟩) hr (Conv.trans (Conv.nil 3 1016 2 0 rfl rfl) (Conv.mk (tau [(1013,1016)]) ⟨⟨_,rfl,.inl rfl⟩,⟨_,rfl,.inl rfl⟩,⟨_,rfl,.inl rfl⟩,⟨_,rfl,.inl rfl⟩,⟨_,rfl,.inl rfl⟩,trivial⟩ ⟨rfl,rfl,trivial⟩ rfl rfl rfl rfl)) ?_))))))))
 clear hr
 intro again4 s3 hr
 unfold sc_choices_L1 at hr
 refine Ok.seq (Ok.region (OkOps.y (aB (decide (s3.2.1 < ((runes label).length : Int)))) (OkOps.nil (Ok.seq ?_))))
 refine Ok.cond (b:=decide (s3.2.1 < ((runes label).length : Int))) rfl (fun h5=>?_) (fun h5=>?_)
 have hr:=selT h5 hr
 refine Ok.skip ?_
 obtain ⟨k7,hk7,hr⟩:=jn_some hr
 refine Ok.join (fun (s6 : (List shortcut_choice) × (Nat → Bool))=>⟨[(3,.s (.c (.tl 1017 (List.map shortcut_choice.cs s6.1)))),(4,.s (.c (.loc 0 0))),(9,.s (.c (.d (.sl (List.map (eInt .i32) (runes label)))))),(10,.s (aI ((runes label).length : Int))),(11,.s (aI s3.2.1))],[(0,.blk ([] ++ (arrC 36 dBool s6.2 ++ [])) 88),(1017,.tail 2)],0⟩) k7 r (fun s6 hr=>?_) ?_
 rw [hk7] at hr
 refine Ok.region (OkOps.y (aI (IntKind.i64.wrap (s3.2.1 + 1))) (OkOps.y (aI (IntKind.i64.wrap (s3.2.1 + 1))) (OkOps.nil ?_)))
 exact ⟨(s6.1,IntKind.i64.wrap (s3.2.1 + 1),s6.2),hr,(Conv.mk (tau [(1013,1017)]) ⟨⟨_,rfl,.inl rfl⟩,⟨_,rfl,.inl rfl⟩,⟨_,rfl,.inl rfl⟩,⟨_,rfl,.inl rfl⟩,⟨_,rfl,.inl rfl⟩,trivial⟩ ⟨rfl,rfl,trivial⟩ rfl rfl rfl rfl)⟩
 clear hk7
 refine Ok.block (Ok.seq (Ok.region (OkOps.y (aI s3.2.1) ?_)))
 obtain ⟨x8,hx8,hr⟩:=bind_some hr
 refine OkOps.q (triIdx (enc:=(eInt .i32)) (L:=runes label) (row:=[.v (.int .i32 x8)]) hx8 rfl rfl rfl rfl (fun _=>rfl) trivial rfl) (OkOps.y (.c (.d (.v (.int .i32 x8)))) (OkOps.y (aI s3.2.1) (OkOps.y (.c (.d (.v (.int .i32 x8)))) (OkOps.nil (Ok.seq (Ok.region (OkOps.y (.c (.d (.v (.int .i32 x8)))) ?_)))))))
 obtain ⟨x9,hx9,hr⟩:=bind_some hr
 refine OkOps.q (triCl (tau []) (.s (aI x9)) [] (sc_letter_c _ hx9) rfl ⟨.inl rfl,trivial⟩ trivial entry57 trivial) (OkOps.y (aI x9) (OkOps.nil (Ok.seq (Ok.region (OkOps.y (aI x9) (OkOps.y (aB (decide (x9 ≥ 0))) (OkOps.y (aB (decide (x9 ≥ 0))) (OkOps.q (triQG (x:=aI x9) rfl rfl trivial rfl) ?_))))))))
 obtain ⟨x10,hx10,hr⟩:=bind_some hr
 refine OkOps.q (triIdxAG (gO_t hx10) rfl rfl rfl rfl ⟨fun h=>h,trivial⟩ rfl) (OkOps.q (triLoadAG (c:=cB_ (s3.2.2 x10)) (fun hg=>(by exact arr_get (by simp) (ixO_spec (gO_t hx10 hg)).2)) rfl rfl rfl rfl ⟨fun h=>h,trivial⟩ rfl) (OkOps.q (triQG (x:=aB (!(s3.2.2 x10))) rfl rfl ⟨fun h=>h,trivial⟩ rfl) (OkOps.q (triAnd rfl rfl (fun h=>h) rfl) (OkOps.nil ?_))))
 refine Ok.cond (b:=(decide (x9 ≥ 0)) && (!(s3.2.2 x10))) rfl (fun h11=>?_) (fun h11=>?_)
 have hr:=selT h11 hr
 refine Ok.seq (Ok.region (OkOps.y (aI x9) ?_))
 obtain ⟨x12,hx12,hr⟩:=bind_some hr
 refine OkOps.q (triIdxA hx12 rfl rfl rfl trivial rfl) (OkOps.w (triStoreA (cs':=([] ++ (arrC 36 dBool (upd s3.2.2 x12 true) ++ []))) (by rw [arr_set (by simp) (ixO_spec hx12).2]) (by have:=(ixO_spec hx12).2;simp [arrC_len];omega) rfl rfl rfl rfl rfl) (OkOps.nil (Ok.region (OkOps.y (.c (.tl 1013 (List.map shortcut_choice.cs s3.1))) (OkOps.y (aI x9) (OkOps.y (aI s3.2.1) (OkOps.y (.agg [cI x9,cI s3.2.1]) (OkOps.m 0 (triBST (sz:=2) (enc:=shortcut_choice.cs) (j:=1) ([(shortcut_choice.mk x9 s3.2.1)]) rfl rfl rfl rfl rfl rfl rfl rfl (fun _=>rfl) trivial rfl rfl) ?_))))))))
 obtain ⟨x13,hx13,hr⟩:=bind_some hr
 refine OkOps.m2 0 (triApp (enc:=shortcut_choice.cs) (L:=s3.1) (X:=[(shortcut_choice.mk x9 s3.2.1)]) (j:=1013) (j':=2) hx13 rfl rfl rfl rfl rfl rfl (fun _=>rfl) (fun _=>rfl) (by decide) trivial rfl rfl) (OkOps.y (.c (.tl 2 (List.map shortcut_choice.cs x13))) (OkOps.nil ?_))
 exact ⟨(x13,upd s3.2.2 x12 true),hr,(Conv.mk (tau [(1017,2)]) ⟨⟨_,rfl,.inl rfl⟩,⟨_,rfl,.inl rfl⟩,⟨_,rfl,.inl rfl⟩,⟨_,rfl,.inl rfl⟩,⟨_,rfl,.inl rfl⟩,trivial⟩ ⟨rfl,rfl,trivial⟩ rfl rfl rfl rfl)⟩
 have hr:=selF h11 hr
 refine Ok.skip ?_
 exact ⟨(s3.1,s3.2.2),hr,(Conv.mk (tau [(1017,1013)]) ⟨⟨_,rfl,.inl rfl⟩,⟨_,rfl,.inl rfl⟩,⟨_,rfl,.inl rfl⟩,⟨_,rfl,.inl rfl⟩,⟨_,rfl,.inl rfl⟩,trivial⟩ ⟨rfl,rfl,trivial⟩ rfl rfl rfl rfl)⟩
 have hr:=selF h5 hr
 refine Ok.exit ?_
 exact ⟨s3.1,hr,(Conv.mk (tau [(1008,1013)]) ⟨⟨_,rfl,.inl rfl⟩,trivial⟩ ⟨rfl,trivial⟩ rfl rfl rfl rfl)⟩
theorem sc_matcher_assign_B_c (self0 : shortcut_matcher → Int → (Nat → Bool) → Option (Bool × shortcut_matcher × (Nat → Bool))) (hself0 : ∀ (m : shortcut_matcher) (label : Int) (seen : (Nat → Bool)) {r : Bool × shortcut_matcher × (Nat → Bool)},self0 m label seen = some r → Con Tryd.prog 58 [.c (.loc 0 0),aI label,.c (.loc 1 0)] [(0,.blk ([.d (.sl (List.map (eSl shortcut_choice.cs) m.l))] ++ (arrC 36 (dInt .i64) m.owner ++ (arrC 36 dBool m.taken ++ []))) 90),(1,.blk ([] ++ (arrC 36 dBool seen ++ [])) 88)] (.s (aB r.1)) [(0,.blk ([.d (.sl (List.map (eSl shortcut_choice.cs) r.2.1.l))] ++ (arrC 36 (dInt .i64) r.2.1.owner ++ (arrC 36 dBool r.2.1.taken ++ []))) 90),(1,.blk ([] ++ (arrC 36 dBool r.2.2 ++ [])) 88)]) (m : shortcut_matcher) (label : Int) (seen : (Nat → Bool)) {r : Bool × shortcut_matcher × (Nat → Bool)} (hr : sc_matcher_assign_B self0 m label seen = some r) : Con Tryd.prog 58 [.c (.loc 0 0),aI label,.c (.loc 1 0)] [(0,.blk ([.d (.sl (List.map (eSl shortcut_choice.cs) m.l))] ++ (arrC 36 (dInt .i64) m.owner ++ (arrC 36 dBool m.taken ++ []))) 90),(1,.blk ([] ++ (arrC 36 dBool seen ++ [])) 88)] (.s (aB r.1)) [(0,.blk ([.d (.sl (List.map (eSl shortcut_choice.cs) r.2.1.l))] ++ (arrC 36 (dInt .i64) r.2.1.owner ++ (arrC 36 dBool r.2.1.taken ++ []))) 90),(1,.blk ([] ++ (arrC 36 dBool r.2.2 ++ [])) 88)]:=by
 unfold sc_matcher_assign_B at hr
 refine Con.of_ok 69 0 [.tmp 6] [(0,.s (.c (.loc 0 0))),(1,.s (aI label)),(2,.s (.c (.loc 1 0)))] Tryd.func58 rfl rfl rfl rfl rfl rfl rfl rfl fun w g M ρ _=>(Ok.seq (Ok.region (OkOps.y (aB false) (OkOps.nil ?_))))
 obtain ⟨k2,hk2,hr⟩:=jn_some hr
 refine Ok.join (fun (s1 : (List (List shortcut_choice)) × (Nat → Int) × (Nat → Bool) × (Nat → Bool))=>⟨[],[(0,.blk ([.d (.sl (List.map (eSl shortcut_choice.cs) s1.1))] ++ (arrC 36 (dInt .i64) s1.2.1 ++ (arrC 36 dBool s1.2.2.1 ++ []))) 90),(1,.blk ([] ++ (arrC 36 dBool s1.2.2.2 ++ [])) 88)],0⟩) k2 r (fun s1 hr=>?_) ?_
 rw [hk2] at hr
 refine Ok.seq (Ok.region (OkOps.y (aB false) (OkOps.nil (Ok.ret ?_))))
 obtain rfl:=Option.some.inj hr
 exact ⟨_,rfl,.inl rfl,⟨rfl,rfl,trivial⟩⟩
 clear hk2
 refine Ok.seq (Ok.region (OkOps.y (.c (.loc 0 0)) (OkOps.y (.c (.loc 0 0)) (OkOps.y (.c (.loc 0 0)) (OkOps.y (.c (.d (.sl (List.map (eSl shortcut_choice.cs) m.l)))) (OkOps.y (aI label) ?_))))))
 obtain ⟨x3,hx3,hr⟩:=bind_some hr
 refine OkOps.q (triIdx (enc:=(eSl shortcut_choice.cs)) (L:=m.l) (row:=[.sl (List.map shortcut_choice.cs x3)]) hx3 rfl rfl rfl rfl (fun _=>rfl) trivial rfl) (OkOps.y (.c (.d (.sl (List.map shortcut_choice.cs x3)))) (OkOps.q (triLen (enc:=shortcut_choice.cs) x3 rfl rfl trivial rfl) (OkOps.y (aI 0) (OkOps.nil (Ok.block (Ok.loopK (fun (s4 : Int × (List (List shortcut_choice)) × (Nat → Int) × (Nat → Bool) × (Nat → Bool))=>⟨[(0,.s (.c (.loc 0 0))),(1,.s (aI label)),(2,.s (.c (.loc 1 0))),(15,.s (.c (.d (.sl (List.map shortcut_choice.cs x3))))),(16,.s (aI (x3.length : Int))),(17,.s (aI s4.1))],[(0,.blk ([.d (.sl (List.map (eSl shortcut_choice.cs) s4.2.1))] ++ (arrC 36 (dInt .i64) s4.2.2.1 ++ (arrC 36 dBool s4.2.2.2.1 ++ []))) 90),(1,.blk ([] ++ (arrC 36 dBool s4.2.2.2.2 ++ [])) 88)],0⟩) hr (Conv.mk (tau []) ⟨⟨_,rfl,.inl rfl⟩,⟨_,rfl,.inl rfl⟩,⟨_,rfl,.inl rfl⟩,⟨_,rfl,.inl rfl⟩,⟨_,rfl,.inl rfl⟩,⟨_,rfl,.inl rfl⟩,trivial⟩ ⟨rfl,rfl,trivial⟩ rfl rfl rfl rfl) ?_))))))
 clear hr
 intro again5 s4 hr
 unfold sc_matcher_assign_L1 at hr
 refine Ok.seq (Ok.region (OkOps.y (aB (decide (s4.1 < (x3.length : Int)))) (OkOps.nil (Ok.seq ?_))))
 refine Ok.cond (b:=decide (s4.1 < (x3.length : Int))) rfl (fun h6=>?_) (fun h6=>?_)
 have hr:=selT h6 hr
 refine Ok.skip ?_
 obtain ⟨k8,hk8,hr⟩:=jn_some hr
 refine Ok.join (fun (s7 : (List (List shortcut_choice)) × (Nat → Int) × (Nat → Bool) × (Nat → Bool))=>⟨[(0,.s (.c (.loc 0 0))),(1,.s (aI label)),(2,.s (.c (.loc 1 0))),(15,.s (.c (.d (.sl (List.map shortcut_choice.cs x3))))),(16,.s (aI (x3.length : Int))),(17,.s (aI s4.1))],[(0,.blk ([.d (.sl (List.map (eSl shortcut_choice.cs) s7.1))] ++ (arrC 36 (dInt .i64) s7.2.1 ++ (arrC 36 dBool s7.2.2.1 ++ []))) 90),(1,.blk ([] ++ (arrC 36 dBool s7.2.2.2 ++ [])) 88)],0⟩) k8 r (fun s7 hr=>?_) ?_
 rw [hk8] at hr
 refine Ok.region (OkOps.y (aI (IntKind.i64.wrap (s4.1 + 1))) (OkOps.y (aI (IntKind.i64.wrap (s4.1 + 1))) (OkOps.nil ?_)))
 exact ⟨(IntKind.i64.wrap (s4.1 + 1),s7.1,s7.2.1,s7.2.2.1,s7.2.2.2),hr,(Conv.mk (tau []) ⟨⟨_,rfl,.inl rfl⟩,⟨_,rfl,.inl rfl⟩,⟨_,rfl,.inl rfl⟩,⟨_,rfl,.inl rfl⟩,⟨_,rfl,.inl rfl⟩,⟨_,rfl,.inl rfl⟩,trivial⟩ ⟨rfl,rfl,trivial⟩ rfl rfl rfl rfl)⟩
 clear hk8
 refine Ok.block (Ok.seq (Ok.region ?_))
 obtain ⟨x9,hx9,hr⟩:=bind_some hr
 refine OkOps.q (triIdx (enc:=shortcut_choice.cs) (L:=x3) (row:=[dI x9.letter,dI x9.at_]) hx9 rfl rfl rfl rfl (fun _=>rfl) trivial rfl) (OkOps.y (.agg [cI x9.letter,cI x9.at_]) (OkOps.m 0 (triAlloc (j:=2) (cs:=[cI 0,cI 0]) rfl rfl rfl rfl) (OkOps.w (triStore (cs':=[cI x9.letter,cI x9.at_]) rfl rfl rfl rfl rfl rfl rfl rfl rfl) (OkOps.nil (Ok.seq (Ok.seq (Ok.regionD (by kernel_rfl) (OkD.x (.c (.loc 1 0)) rfl trivial rfl (OkD.x (.c (.loc 2 0)) rfl trivial rfl (OkD.x (aI x9.letter) rfl trivial rfl (OkD.x (.c (.loc 1 0)) rfl trivial rfl ?_)))))))))))
 obtain ⟨x10,hx10,hr⟩:=bind_some hr
 refine OkD.q (triIdxA hx10 rfl rfl rfl trivial rfl) (OkD.q (triLoadA (c:=cB_ (s4.2.2.2.2 x10)) (by exact arr_get (by simp) (ixO_spec hx10).2) rfl rfl rfl trivial rfl) (OkD.x (aB (s4.2.2.2.2 x10)) rfl trivial rfl (OkD.q (triQG (x:=.c (.loc 0 0)) rfl rfl trivial rfl) (OkD.q (triQG (x:=.c (.loc 2 0)) rfl rfl trivial rfl) (OkD.q (triQG (x:=aI x9.letter) rfl rfl ⟨fun h=>h,trivial⟩ rfl) (OkD.q (triQG (x:=.c (.loc 0 0)) rfl rfl ⟨fun h=>h,trivial⟩ rfl) (OkD.q (triQG (x:=.c (.loc 0 37)) rfl rfl ⟨fun h=>h,trivial⟩ rfl) ?_)))))))
 obtain ⟨x11,hx11,hr⟩:=bind_some hr
 refine OkD.q (triIdxAG (gO_t hx11) rfl rfl rfl rfl ⟨fun h=>h,⟨fun h=>h,trivial⟩⟩ rfl) (OkD.q (triLoadAG (c:=cB_ (s4.2.2.2.1 x11)) (fun hg=>(by rw [← List.append_assoc];exact arr_get (by simp [arrC_len]) (ixO_spec (gO_t hx11 hg)).2)) rfl rfl rfl rfl ⟨fun h=>h,trivial⟩ rfl) ?_)
 refine OkD.q (triOr rfl rfl (fun h=>by rw [h];rfl) rfl) ?_
 refine OkD.nil (by kernel_rfl) ?_
 refine Ok.cond (b:=(s4.2.2.2.2 x10) || (s4.2.2.2.1 x11)) rfl (fun h12=>?_) (fun h12=>?_)
 have hr:=selT h12 hr
 refine Ok.exit ?_
 exact ⟨(s4.2.1,s4.2.2.1,s4.2.2.2.1,s4.2.2.2.2),hr,(Conv.mk (tau []) ⟨⟨_,rfl,.inl rfl⟩,⟨_,rfl,.inl rfl⟩,⟨_,rfl,.inl rfl⟩,⟨_,rfl,.inl rfl⟩,⟨_,rfl,.inl rfl⟩,⟨_,rfl,.inl rfl⟩,trivial⟩ ⟨rfl,rfl,trivial⟩ rfl rfl rfl rfl)⟩
 have hr:=selF h12 hr
 refine Ok.skip (Ok.seq (Ok.regionD (by kernel_rfl) (OkD.x (.c (.loc 1 0)) rfl trivial rfl (OkD.x (.c (.loc 2 0)) rfl trivial rfl (OkD.x (aI x9.letter) rfl trivial rfl (OkD.x (.c (.loc 1 0)) rfl trivial rfl ?_))))))
 obtain ⟨x13,hx13,hr⟩:=bind_some hr
 refine OkD.q (triIdxA hx13 rfl rfl rfl trivial rfl) (OkD.w (triStoreA (cs':=([] ++ (arrC 36 dBool (upd s4.2.2.2.2 x13 true) ++ []))) (by rw [arr_set (by simp) (ixO_spec hx13).2]) (by have:=(ixO_spec hx13).2;simp [arrC_len];omega) rfl rfl rfl rfl rfl) (OkD.nil (by kernel_rfl) (Ok.seq (Ok.regionD (by kernel_rfl) (OkD.x (.c (.loc 0 0)) rfl trivial rfl (OkD.x (.c (.loc 2 0)) rfl trivial rfl (OkD.x (aI x9.letter) rfl trivial rfl (OkD.x (.c (.loc 0 0)) rfl trivial rfl (OkD.x (.c (.loc 0 1)) rfl trivial rfl ?_)))))))))
 obtain ⟨x14,hx14,hr⟩:=bind_some hr
 refine OkD.q (triIdxA hx14 rfl rfl rfl trivial rfl) (OkD.q (triLoadA (c:=cI (s4.2.2.1 x14)) (by exact arr_get (by simp) (ixO_spec hx14).2) rfl rfl rfl trivial rfl) (OkD.x (aB (decide ((s4.2.2.1 x14) < 0))) rfl trivial rfl (OkD.x (aB (decide ((s4.2.2.1 x14) < 0))) rfl trivial rfl (OkD.q (triQG (x:=.c (.loc 0 0)) rfl rfl trivial rfl) (OkD.q (triQG (x:=.c (.loc 0 0)) rfl rfl trivial rfl) (OkD.q (triQG (x:=.c (.loc 2 0)) rfl rfl trivial rfl) (OkD.q (triQG (x:=aI x9.letter) rfl rfl ⟨fun h=>h,trivial⟩ rfl) (OkD.q (triQG (x:=.c (.loc 0 0)) rfl rfl ⟨fun h=>h,trivial⟩ rfl) (OkD.q (triQG (x:=.c (.loc 0 1)) rfl rfl ⟨fun h=>h,trivial⟩ rfl) ?_)))))))))
 obtain ⟨x15,hx15,hr⟩:=bind_some hr
 refine OkD.q (triIdxAG (gO_t hx15) rfl rfl rfl rfl ⟨fun h=>h,⟨fun h=>h,trivial⟩⟩ rfl) (OkD.q (triLoadAG (c:=cI (s4.2.2.1 x15)) (fun hg=>(by exact arr_get (by simp) (ixO_spec (gO_t hx15 hg)).2)) rfl rfl rfl rfl ⟨fun h=>h,trivial⟩ rfl) (OkD.q (triQG (x:=.c (.loc 1 0)) rfl rfl trivial rfl) ?_))
 obtain ⟨x16,hx16,hr⟩:=bind_some hr
 refine OkD.m2 0 (triCallGW (tau [(0,0),(1,1)]) (aB x16.1) [(0,.blk ([.d (.sl (List.map (eSl shortcut_choice.cs) x16.2.1.l))] ++ (arrC 36 (dInt .i64) x16.2.1.owner ++ (arrC 36 dBool x16.2.1.taken ++ []))) 90),(1,.blk ([] ++ (arrC 36 dBool x16.2.2 ++ [])) 88)] (fun hg=>hself0 _ _ _ (selT hg hx16)) (fun hg=>by cases selF hg hx16;rfl) rfl rfl ⟨.inl rfl,.inl rfl,.inl rfl,trivial⟩ ⟨fun h=>h,⟨fun h=>h,⟨fun h=>h,trivial⟩⟩⟩ entry58 ⟨rfl,rfl,trivial⟩ rfl rfl rfl rfl rfl rfl rfl rfl) ?_
 refine OkD.q (triOr rfl rfl (fun h=>by rw [h];rfl) rfl) ?_
 refine OkD.nil (by kernel_rfl) ?_
 refine Ok.cond (b:=(decide ((s4.2.2.1 x14) < 0)) || x16.1) rfl (fun h17=>?_) (fun h17=>?_)
 have hr:=selT h17 hr
 refine Ok.seq (Ok.regionD (by kernel_rfl) (OkD.x (.c (.loc 0 0)) rfl trivial rfl (OkD.x (.c (.loc 2 0)) rfl trivial rfl (OkD.x (aI x9.letter) rfl trivial rfl (OkD.x (aI label) rfl trivial rfl (OkD.x (.c (.loc 0 0)) rfl trivial rfl (OkD.x (.c (.loc 0 1)) rfl trivial rfl ?_)))))))
 obtain ⟨x18,hx18,hr⟩:=bind_some hr
 refine OkD.q (triIdxA hx18 rfl rfl rfl trivial rfl) (OkD.w (triStoreA (cs':=([.d (.sl (List.map (eSl shortcut_choice.cs) x16.2.1.l))] ++ (arrC 36 (dInt .i64) (upd x16.2.1.owner x18 label) ++ (arrC 36 dBool x16.2.1.taken ++ [])))) (by rw [arr_set (by simp) (ixO_spec hx18).2]) (by have:=(ixO_spec hx18).2;simp [arrC_len];omega) rfl rfl rfl rfl rfl) (OkD.nil (by kernel_rfl) (Ok.seq (Ok.region (OkOps.y (aB true) (OkOps.nil (Ok.ret ?_)))))))
 obtain rfl:=Option.some.inj hr
 exact ⟨_,rfl,.inl rfl,⟨rfl,rfl,trivial⟩⟩
 have hr:=selF h17 hr
 refine Ok.skip ?_
 exact ⟨(x16.2.1.l,x16.2.1.owner,x16.2.1.taken,x16.2.2),hr,(Conv.mk (tau []) ⟨⟨_,rfl,.inl rfl⟩,⟨_,rfl,.inl rfl⟩,⟨_,rfl,.inl rfl⟩,⟨_,rfl,.inl rfl⟩,⟨_,rfl,.inl rfl⟩,⟨_,rfl,.inl rfl⟩,trivial⟩ ⟨rfl,rfl,trivial⟩ rfl rfl rfl rfl)⟩
 have hr:=selF h6 hr
 refine Ok.exit ?_
 exact ⟨(s4.2.1,s4.2.2.1,s4.2.2.2.1,s4.2.2.2.2),hr,(Conv.mk (tau []) trivial ⟨rfl,rfl,trivial⟩ rfl rfl rfl rfl)⟩
theorem sc_matcher_assign_all : ∀ n : Nat,(∀ (m : shortcut_matcher) (label : Int) (seen : (Nat → Bool)) {r : Bool × shortcut_matcher × (Nat → Bool)},sc_matcher_assign n m label seen = some r → Con Tryd.prog 58 [.c (.loc 0 0),aI label,.c (.loc 1 0)] [(0,.blk ([.d (.sl (List.map (eSl shortcut_choice.cs) m.l))] ++ (arrC 36 (dInt .i64) m.owner ++ (arrC 36 dBool m.taken ++ []))) 90),(1,.blk ([] ++ (arrC 36 dBool seen ++ [])) 88)] (.s (aB r.1)) [(0,.blk ([.d (.sl (List.map (eSl shortcut_choice.cs) r.2.1.l))] ++ (arrC 36 (dInt .i64) r.2.1.owner ++ (arrC 36 dBool r.2.1.taken ++ []))) 90),(1,.blk ([] ++ (arrC 36 dBool r.2.2 ++ [])) 88)]) ∧ True:=by
 intro n
 induction n with
 | zero=>exact ⟨(by intros;rename_i hr;cases hr),trivial⟩
 | succ n ih=>exact ⟨(by intros;rename_i hr;exact sc_matcher_assign_B_c _ ih.1 _ _ _ hr),trivial⟩
theorem sc_matcher_assign_c (n : Nat) (m : shortcut_matcher) (label : Int) (seen : (Nat → Bool)) {r : Bool × shortcut_matcher × (Nat → Bool)} (hr : sc_matcher_assign n m label seen = some r) : Con Tryd.prog 58 [.c (.loc 0 0),aI label,.c (.loc 1 0)] [(0,.blk ([.d (.sl (List.map (eSl shortcut_choice.cs) m.l))] ++ (arrC 36 (dInt .i64) m.owner ++ (arrC 36 dBool m.taken ++ []))) 90),(1,.blk ([] ++ (arrC 36 dBool seen ++ [])) 88)] (.s (aB r.1)) [(0,.blk ([.d (.sl (List.map (eSl shortcut_choice.cs) r.2.1.l))] ++ (arrC 36 (dInt .i64) r.2.1.owner ++ (arrC 36 dBool r.2.1.taken ++ []))) 90),(1,.blk ([] ++ (arrC 36 dBool r.2.2 ++ [])) 88)]:=(sc_matcher_assign_all n).1 m label seen hr
theorem sc_matcher_most_c (m : shortcut_matcher) (first : Int) {r : Int × shortcut_matcher} (hr : sc_matcher_most m first = some r) : Con Tryd.prog 35 [.c (.loc 0 0),aI first] [(0,.blk ([.d (.sl (List.map (eSl shortcut_choice.cs) m.l))] ++ (arrC 36 (dInt .i64) m.owner ++ (arrC 36 dBool m.taken ++ []))) 90)] (.s (aI r.1)) [(0,.blk ([.d (.sl (List.map (eSl shortcut_choice.cs) r.2.l))] ++ (arrC 36 (dInt .i64) r.2.owner ++ (arrC 36 dBool r.2.taken ++ []))) 90)]:=by
 unfold sc_matcher_most at hr
 refine Con.of_ok 34 0 [.tmp 4] [(0,.s (.c (.loc 0 0))),(1,.s (aI first))] Tryd.func35 rfl rfl rfl rfl rfl rfl rfl rfl fun w g M ρ _=>(Ok.seq (Ok.region (OkOps.y (aI 0) (OkOps.nil ?_))))
 obtain ⟨k2,hk2,hr⟩:=jn_some hr
 refine Ok.join (fun (s1 : (Nat → Int))=>⟨[(0,.s (.c (.loc 0 0))),(1,.s (aI first))],[(0,.blk ([.d (.sl (List.map (eSl shortcut_choice.cs) m.l))] ++ (arrC 36 (dInt .i64) s1 ++ (arrC 36 dBool m.taken ++ []))) 90)],0⟩) k2 r (fun s1 hr=>?_) ?_
 rw [hk2] at hr
 refine Ok.seq (Ok.region (OkOps.y (aI 0) (OkOps.nil ?_)))
 obtain ⟨k4,hk4,hr⟩:=jn_some hr
 refine Ok.join (fun (s3 : Int × (List (List shortcut_choice)) × (Nat → Int) × (Nat → Bool))=>⟨[(6,.s (aI s3.1))],[(0,.blk ([.d (.sl (List.map (eSl shortcut_choice.cs) s3.2.1))] ++ (arrC 36 (dInt .i64) s3.2.2.1 ++ (arrC 36 dBool s3.2.2.2 ++ []))) 90)],0⟩) k4 r (fun s3 hr=>?_) ?_
 rw [hk4] at hr
 refine Ok.seq (Ok.region (OkOps.y (aI s3.1) (OkOps.y (aI s3.1) (OkOps.nil (Ok.ret ?_)))))
 obtain rfl:=Option.some.inj hr
 exact ⟨_,rfl,.inl rfl,⟨rfl,trivial⟩⟩
 clear hk4
 refine Ok.seq (Ok.region (OkOps.y (aI first) (OkOps.y (aI first) (OkOps.nil (Ok.block (Ok.loopK (fun (s5 : Int × Int × (List (List shortcut_choice)) × (Nat → Int) × (Nat → Bool))=>⟨[(0,.s (.c (.loc 0 0))),(6,.s (aI s5.1)),(7,.s (aI s5.2.1))],[(0,.blk ([.d (.sl (List.map (eSl shortcut_choice.cs) s5.2.2.1))] ++ (arrC 36 (dInt .i64) s5.2.2.2.1 ++ (arrC 36 dBool s5.2.2.2.2 ++ []))) 90)],0⟩) hr (Conv.mk (tau []) ⟨⟨_,rfl,.inl rfl⟩,⟨_,rfl,.inl rfl⟩,⟨_,rfl,.inl rfl⟩,trivial⟩ ⟨rfl,trivial⟩ rfl rfl rfl rfl) ?_))))))
 clear hr
 intro again6 s5 hr
 unfold sc_matcher_most_L1 at hr
 refine Ok.seq (Ok.seq (Ok.region (OkOps.y (aI s5.2.1) (OkOps.y (.c (.loc 0 0)) (OkOps.y (.c (.loc 0 0)) (OkOps.y (.c (.loc 0 0)) (OkOps.y (.c (.d (.sl (List.map (eSl shortcut_choice.cs) s5.2.2.1)))) (OkOps.q (triLen (enc:=(eSl shortcut_choice.cs)) s5.2.2.1 rfl rfl trivial rfl) (OkOps.y (aB (decide (s5.2.1 < (s5.2.2.1.length : Int)))) (OkOps.nil ?_))))))))))
 refine Ok.cond (b:=decide (s5.2.1 < (s5.2.2.1.length : Int))) rfl (fun h7=>?_) (fun h7=>?_)
 have hr:=selT h7 hr
 refine Ok.skip ?_
 obtain ⟨k9,hk9,hr⟩:=jn_some hr
 refine Ok.join (fun (s8 : Int × (List (List shortcut_choice)) × (Nat → Int) × (Nat → Bool))=>⟨[(0,.s (.c (.loc 0 0))),(6,.s (aI s8.1)),(7,.s (aI s5.2.1))],[(0,.blk ([.d (.sl (List.map (eSl shortcut_choice.cs) s8.2.1))] ++ (arrC 36 (dInt .i64) s8.2.2.1 ++ (arrC 36 dBool s8.2.2.2 ++ []))) 90)],0⟩) k9 r (fun s8 hr=>?_) ?_
 rw [hk9] at hr
 refine Ok.region (OkOps.y (aI s5.2.1) (OkOps.y (aI (IntKind.i64.wrap (s5.2.1 + 1))) (OkOps.y (aI (IntKind.i64.wrap (s5.2.1 + 1))) (OkOps.nil ?_))))
 exact ⟨(s8.1,IntKind.i64.wrap (s5.2.1 + 1),s8.2.1,s8.2.2.1,s8.2.2.2),hr,(Conv.mk (tau []) ⟨⟨_,rfl,.inl rfl⟩,⟨_,rfl,.inl rfl⟩,⟨_,rfl,.inl rfl⟩,trivial⟩ ⟨rfl,trivial⟩ rfl rfl rfl rfl)⟩
 clear hk9
 refine Ok.block (Ok.seq (Ok.region (OkOps.m 0 (triAlloc (j:=1) (cs:=([] ++ (arrC 36 dBool (fun _=>false) ++ []))) rfl rfl rfl rfl) (OkOps.nil (Ok.seq (Ok.region (OkOps.y (.c (.loc 0 0)) (OkOps.y (aI s5.2.1) ?_))))))))
 obtain ⟨x10,hx10,hr⟩:=bind_some hr
 refine OkOps.m2 0 (triCl (tau [(0,0),(1,1)]) (.s (aB x10.1)) [(0,.blk ([.d (.sl (List.map (eSl shortcut_choice.cs) x10.2.1.l))] ++ (arrC 36 (dInt .i64) x10.2.1.owner ++ (arrC 36 dBool x10.2.1.taken ++ []))) 90),(1,.blk ([] ++ (arrC 36 dBool x10.2.2 ++ [])) 88)] (sc_matcher_assign_c _ _ _ _ hx10) rfl ⟨.inl rfl,.inl rfl,.inl rfl,trivial⟩ trivial entry58 ⟨rfl,rfl,trivial⟩) (OkOps.nil ?_)
 refine Ok.cond (b:=x10.1) rfl (fun h11=>?_) (fun h11=>?_)
 have hr:=selT h11 hr
 refine Ok.region (OkOps.y (aI s5.1) (OkOps.y (aI (IntKind.i64.wrap (s5.1 + 1))) (OkOps.y (aI (IntKind.i64.wrap (s5.1 + 1))) (OkOps.nil ?_))))
 exact ⟨(IntKind.i64.wrap (s5.1 + 1),x10.2.1.l,x10.2.1.owner,x10.2.1.taken),hr,(Conv.mk (tau []) ⟨⟨_,rfl,.inl rfl⟩,⟨_,rfl,.inl rfl⟩,⟨_,rfl,.inl rfl⟩,trivial⟩ ⟨rfl,trivial⟩ rfl rfl rfl rfl)⟩
 have hr:=selF h11 hr
 refine Ok.skip ?_
 exact ⟨(s5.1,x10.2.1.l,x10.2.1.owner,x10.2.1.taken),hr,(Conv.mk (tau []) ⟨⟨_,rfl,.inl rfl⟩,⟨_,rfl,.inl rfl⟩,⟨_,rfl,.inl rfl⟩,trivial⟩ ⟨rfl,trivial⟩ rfl rfl rfl rfl)⟩
 have hr:=selF h7 hr
 refine Ok.exit ?_
 exact ⟨(s5.1,s5.2.2.1,s5.2.2.2.1,s5.2.2.2.2),hr,(Conv.mk (tau []) ⟨⟨_,rfl,.inl rfl⟩,trivial⟩ ⟨rfl,trivial⟩ rfl rfl rfl rfl)⟩
 clear hk2
 refine Ok.seq (Ok.region (OkOps.y (aI 0) (OkOps.nil (Ok.block (Ok.loopK (fun (s12 : Int × (Nat → Int))=>⟨[(0,.s (.c (.loc 0 0))),(1,.s (aI first)),(9,.s (aI s12.1))],[(0,.blk ([.d (.sl (List.map (eSl shortcut_choice.cs) m.l))] ++ (arrC 36 (dInt .i64) s12.2 ++ (arrC 36 dBool m.taken ++ []))) 90)],0⟩) hr (Conv.mk (tau []) ⟨⟨_,rfl,.inl rfl⟩,⟨_,rfl,.inl rfl⟩,⟨_,rfl,.inl rfl⟩,trivial⟩ ⟨rfl,trivial⟩ rfl rfl rfl rfl) ?_)))))
 clear hr
 intro again13 s12 hr
 unfold sc_matcher_most_L2 at hr
 refine Ok.seq (Ok.region (OkOps.y (aB (decide (s12.1 < 36))) (OkOps.nil (Ok.seq ?_))))
 refine Ok.cond (b:=decide (s12.1 < 36)) rfl (fun h14=>?_) (fun h14=>?_)
 have hr:=selT h14 hr
 refine Ok.skip (Ok.seq (Ok.block (Ok.seq (Ok.region (OkOps.y (aI s12.1) (OkOps.y (aI s12.1) (OkOps.nil (Ok.region (OkOps.y (.c (.loc 0 0)) (OkOps.y (aI s12.1) (OkOps.y (.c (.loc 0 0)) (OkOps.y (.c (.loc 0 1)) ?_))))))))))))
 obtain ⟨x15,hx15,hr⟩:=bind_some hr
 refine OkOps.q (triIdxA hx15 rfl rfl rfl trivial rfl) (OkOps.w (triStoreA (cs':=([.d (.sl (List.map (eSl shortcut_choice.cs) m.l))] ++ (arrC 36 (dInt .i64) (upd s12.2 x15 (-1)) ++ (arrC 36 dBool m.taken ++ [])))) (by rw [arr_set (by simp) (ixO_spec hx15).2]) (by have:=(ixO_spec hx15).2;simp [arrC_len];omega) rfl rfl rfl rfl rfl) (OkOps.nil (Ok.region (OkOps.y (aI (IntKind.i64.wrap (s12.1 + 1))) (OkOps.y (aI (IntKind.i64.wrap (s12.1 + 1))) (OkOps.nil ?_))))))
 exact ⟨(IntKind.i64.wrap (s12.1 + 1),upd s12.2 x15 (-1)),hr,(Conv.mk (tau []) ⟨⟨_,rfl,.inl rfl⟩,⟨_,rfl,.inl rfl⟩,⟨_,rfl,.inl rfl⟩,trivial⟩ ⟨rfl,trivial⟩ rfl rfl rfl rfl)⟩
 have hr:=selF h14 hr
 refine Ok.exit ?_
 exact ⟨s12.2,hr,(Conv.mk (tau []) ⟨⟨_,rfl,.inl rfl⟩,⟨_,rfl,.inl rfl⟩,trivial⟩ ⟨rfl,trivial⟩ rfl rfl rfl rfl)⟩
theorem sc_Mnemonics_c (labels : (List Str)) {r : (List Int) × Int} (hr : sc_Mnemonics labels = some r) : Con Tryd.prog 18 [.c (.d (.sl (List.map eStr labels)))] [] (.tup [.c (.d (.sl (List.map (eInt .i64) r.1))),aI r.2]) []:=by
 unfold sc_Mnemonics at hr
 refine Con.of_ok 98 0 [.tmp 2,.tmp 3] [(0,.s (.c (.d (.sl (List.map eStr labels)))))] Tryd.func18 rfl rfl rfl rfl rfl rfl rfl rfl fun w g M ρ _=>(Ok.seq (Ok.region (OkOps.y (.c (.d (.v (.slice none 0 0)))) (OkOps.y (aI 0) (OkOps.nil (Ok.seq (Ok.seq (Ok.region (OkOps.y (.c (.d (.sl (List.map eStr labels)))) (OkOps.q (triLen (enc:=eStr) labels rfl rfl trivial rfl) (OkOps.y (aB (decide ((labels.length : Int) > 24))) (OkOps.nil ?_))))))))))))
 refine Ok.cond (b:=decide ((labels.length : Int) > 24)) rfl (fun h1=>?_) (fun h1=>?_)
 have hr:=selT h1 hr
 refine Ok.seq (Ok.region (OkOps.y (.c (.d (.v (.slice none 0 0)))) (OkOps.y (aI 2) (OkOps.nil (Ok.ret ?_)))))
 obtain rfl:=Option.some.inj hr
 exact ⟨_,rfl,.inr rfl,trivial⟩
 have hr:=selF h1 hr
 refine Ok.skip (Ok.seq (Ok.region (OkOps.q (triQ (x:=.agg [.d (.v (.slice none 0 0)),cI 0,cI 0,cI 0,cI 0,cI 0,cI 0,cI 0,cI 0,cI 0,cI 0,cI 0,cI 0,cI 0,cI 0,cI 0,cI 0,cI 0,cI 0,cI 0,cI 0,cI 0,cI 0,cI 0,cI 0,cI 0,cI 0,cI 0,cI 0,cI 0,cI 0,cI 0,cI 0,cI 0,cI 0,cI 0,cI 0,cB_ false,cB_ false,cB_ false,cB_ false,cB_ false,cB_ false,cB_ false,cB_ false,cB_ false,cB_ false,cB_ false,cB_ false,cB_ false,cB_ false,cB_ false,cB_ false,cB_ false,cB_ false,cB_ false,cB_ false,cB_ false,cB_ false,cB_ false,cB_ false,cB_ false,cB_ false,cB_ false,cB_ false,cB_ false,cB_ false,cB_ false,cB_ false,cB_ false,cB_ false,cB_ false,cB_ false]) (by kernel_rfl) trivial rfl) (OkOps.m 0 (triBox (j:=0) (cs:=([.d (.v (.slice none 0 0))] ++ (arrC 36 (dInt .i64) (fun _=>0) ++ (arrC 36 dBool (fun _=>false) ++ [])))) rfl rfl rfl rfl rfl) (OkOps.y (.c (.loc 0 0)) (OkOps.nil ?_))))))
 obtain ⟨k3,hk3,hr⟩:=jn_some hr
 refine Ok.join (fun (s2 : (List (List shortcut_choice)))=>⟨[(0,.s (.c (.d (.sl (List.map eStr labels))))),(4,.s (.c (.loc 0 0)))],[(0,.blk ([.tl 1004 (List.map (eSl shortcut_choice.cs) s2)] ++ (arrC 36 (dInt .i64) (fun _=>0) ++ (arrC 36 dBool (fun _=>false) ++ []))) 90),(1004,.tail 1)],0⟩) k3 r (fun s2 hr=>?_) ?_
 rw [hk3] at hr
 refine Ok.seq (Ok.region (OkOps.y (.c (.d (.sl (List.map eStr labels)))) (OkOps.q (triLen (enc:=eStr) labels rfl rfl trivial rfl) ?_)))
 obtain ⟨x4,hx4,hr⟩:=bind_some hr
 refine OkOps.m 0 (triMkT (sz:=1) (j:=1) hx4 rfl rfl rfl rfl trivial rfl rfl) (OkOps.y (.c (.tl 1 (List.map (eInt .i64) ([] : (List Int))))) (OkOps.nil (Ok.seq (Ok.region (OkOps.y (.c (.loc 0 0)) (OkOps.conv (Conv.norm 0 ([.tl 1004 (List.map (eSl shortcut_choice.cs) s2)] ++ (arrC 36 (dInt .i64) (fun _=>0) ++ (arrC 36 dBool (fun _=>false) ++ []))) ([.d (.sl (List.map (eSl shortcut_choice.cs) s2))] ++ (arrC 36 (dInt .i64) (fun _=>0) ++ (arrC 36 dBool (fun _=>false) ++ []))) 90 0 rfl rfl) ?_))))))
 obtain ⟨x5,hx5,hr⟩:=bind_some hr
 refine OkOps.m 0 (triCl (tau [(0,0)]) (.s (aI x5.1)) [(0,.blk ([.d (.sl (List.map (eSl shortcut_choice.cs) x5.2.l))] ++ (arrC 36 (dInt .i64) x5.2.owner ++ (arrC 36 dBool x5.2.taken ++ []))) 90)] (sc_matcher_most_c _ _ hx5) rfl ⟨.inl rfl,.inl rfl,trivial⟩ trivial entry35 ⟨rfl,trivial⟩) (OkOps.y (aI x5.1) (OkOps.nil ?_))
 obtain ⟨k7,hk7,hr⟩:=jn_some hr
 refine Ok.join (fun (s6 : (List Int))=>⟨[(7,.s (.c (.tl 1037 (List.map (eInt .i64) s6))))],[(1037,.tail 1)],0⟩) k7 r (fun s6 hr=>?_) ?_
 rw [hk7] at hr
 refine Ok.seq (Ok.region (OkOps.y (.c (.tl 1037 (List.map (eInt .i64) s6))) (OkOps.y (.c (.tl 1037 (List.map (eInt .i64) s6))) (OkOps.y (aI 0) (OkOps.nil (Ok.ret ?_))))))
 obtain rfl:=Option.some.inj hr
 exact ⟨_,rfl,.inr rfl,trivial⟩
 clear hk7
 refine Ok.seq (Ok.region (OkOps.y (.c (.d (.sl (List.map eStr labels)))) (OkOps.q (triLen (enc:=eStr) labels rfl rfl trivial rfl) (OkOps.y (aI 0) (OkOps.nil (Ok.block (Ok.loopK (fun (s8 : (List Int) × Int × Int × (List (List shortcut_choice)) × (Nat → Int) × (Nat → Bool))=>⟨[(4,.s (.c (.loc 0 0))),(7,.s (.c (.tl 1040 (List.map (eInt .i64) s8.1)))),(8,.s (aI s8.2.1)),(45,.s (aI (labels.length : Int))),(46,.s (aI s8.2.2.1))],[(0,.blk ([.d (.sl (List.map (eSl shortcut_choice.cs) s8.2.2.2.1))] ++ (arrC 36 (dInt .i64) s8.2.2.2.2.1 ++ (arrC 36 dBool s8.2.2.2.2.2 ++ []))) 90),(1040,.tail 1)],0⟩) hr (Conv.mk (tau [(1040,1)]) ⟨⟨_,rfl,.inl rfl⟩,⟨_,rfl,.inl rfl⟩,⟨_,rfl,.inl rfl⟩,⟨_,rfl,.inl rfl⟩,⟨_,rfl,.inl rfl⟩,trivial⟩ ⟨rfl,rfl,trivial⟩ rfl rfl rfl rfl) ?_)))))))
 clear hr
 intro again9 s8 hr
 unfold sc_Mnemonics_L2 at hr
 refine Ok.seq (Ok.region (OkOps.y (aB (decide (s8.2.2.1 < (labels.length : Int)))) (OkOps.nil (Ok.seq ?_))))
 refine Ok.cond (b:=decide (s8.2.2.1 < (labels.length : Int))) rfl (fun h10=>?_) (fun h10=>?_)
 have hr:=selT h10 hr
 refine Ok.skip ?_
 obtain ⟨k12,hk12,hr⟩:=jn_some hr
 refine Ok.join (fun (s11 : (List Int) × Int × (List (List shortcut_choice)) × (Nat → Int) × (Nat → Bool))=>⟨[(4,.s (.c (.loc 0 0))),(7,.s (.c (.tl 1069 (List.map (eInt .i64) s11.1)))),(8,.s (aI s11.2.1)),(45,.s (aI (labels.length : Int))),(46,.s (aI s8.2.2.1))],[(0,.blk ([.d (.sl (List.map (eSl shortcut_choice.cs) s11.2.2.1))] ++ (arrC 36 (dInt .i64) s11.2.2.2.1 ++ (arrC 36 dBool s11.2.2.2.2 ++ []))) 90),(1069,.tail 1)],0⟩) k12 r (fun s11 hr=>?_) ?_
 rw [hk12] at hr
 refine Ok.region (OkOps.y (aI (IntKind.i64.wrap (s8.2.2.1 + 1))) (OkOps.y (aI (IntKind.i64.wrap (s8.2.2.1 + 1))) (OkOps.nil ?_)))
 exact ⟨(s11.1,s11.2.1,IntKind.i64.wrap (s8.2.2.1 + 1),s11.2.2.1,s11.2.2.2.1,s11.2.2.2.2),hr,(Conv.mk (tau [(1040,1069)]) ⟨⟨_,rfl,.inl rfl⟩,⟨_,rfl,.inl rfl⟩,⟨_,rfl,.inl rfl⟩,⟨_,rfl,.inl rfl⟩,⟨_,rfl,.inl rfl⟩,trivial⟩ ⟨rfl,rfl,trivial⟩ rfl rfl rfl rfl)⟩
 clear hk12
 refine Ok.block (Ok.seq (Ok.region (OkOps.y (aI s8.2.2.1) (OkOps.y (aI s8.2.2.1) (OkOps.nil (Ok.seq (Ok.region (OkOps.y (aI (-1)) (OkOps.nil ?_)))))))))
 obtain ⟨k14,hk14,hr⟩:=jn_some hr
 refine Ok.join (fun (s13 : Int × Int × (List (List shortcut_choice)) × (Nat → Int) × (Nat → Bool))=>⟨[(4,.s (.c (.loc 0 0))),(7,.s (.c (.tl 1040 (List.map (eInt .i64) s8.1)))),(8,.s (aI s13.1)),(10,.s (aI s13.2.1)),(45,.s (aI (labels.length : Int))),(46,.s (aI s8.2.2.1))],[(0,.blk ([.d (.sl (List.map (eSl shortcut_choice.cs) s13.2.2.1))] ++ (arrC 36 (dInt .i64) s13.2.2.2.1 ++ (arrC 36 dBool s13.2.2.2.2 ++ []))) 90),(1040,.tail 1)],0⟩) k14 r (fun s13 hr=>?_) ?_
 rw [hk14] at hr
 refine Ok.region (OkOps.y (.c (.tl 1040 (List.map (eInt .i64) s8.1))) (OkOps.y (aI s13.2.1) (OkOps.m 0 (triBST (sz:=1) (enc:=(eInt .i64)) (j:=2) ([s13.2.1]) rfl rfl rfl rfl rfl rfl rfl rfl (fun _=>rfl) trivial rfl rfl) ?_)))
 obtain ⟨x15,hx15,hr⟩:=bind_some hr
 refine OkOps.m2 0 (triApp (enc:=(eInt .i64)) (L:=s8.1) (X:=[s13.2.1]) (j:=1040) (j':=3) hx15 rfl rfl rfl rfl rfl rfl (fun _=>rfl) (fun _=>rfl) (by decide) trivial rfl rfl) (OkOps.y (.c (.tl 3 (List.map (eInt .i64) x15))) (OkOps.nil ?_))
 exact ⟨(x15,s13.1,s13.2.2.1,s13.2.2.2.1,s13.2.2.2.2),hr,(Conv.mk (tau [(1069,3)]) ⟨⟨_,rfl,.inl rfl⟩,⟨_,rfl,.inl rfl⟩,⟨_,rfl,.inl rfl⟩,⟨_,rfl,.inl rfl⟩,⟨_,rfl,.inl rfl⟩,trivial⟩ ⟨rfl,rfl,trivial⟩ rfl rfl rfl rfl)⟩
 clear hk14
 refine Ok.seq (Ok.region (OkOps.y (.c (.loc 0 0)) (OkOps.y (.c (.loc 0 0)) (OkOps.y (.c (.loc 0 0)) (OkOps.y (.c (.d (.sl (List.map (eSl shortcut_choice.cs) s8.2.2.2.1)))) (OkOps.y (aI s8.2.2.1) ?_))))))
 obtain ⟨x16,hx16,hr⟩:=bind_some hr
 refine OkOps.q (triIdx (enc:=(eSl shortcut_choice.cs)) (L:=s8.2.2.2.1) (row:=[.sl (List.map shortcut_choice.cs x16)]) hx16 rfl rfl rfl rfl (fun _=>rfl) trivial rfl) (OkOps.y (.c (.d (.sl (List.map shortcut_choice.cs x16)))) (OkOps.q (triLen (enc:=shortcut_choice.cs) x16 rfl rfl trivial rfl) (OkOps.y (aI 0) (OkOps.nil (Ok.block (Ok.loopK (fun (s17 : Int × (List (List shortcut_choice)) × (Nat → Int) × (Nat → Bool))=>⟨[(4,.s (.c (.loc 0 0))),(7,.s (.c (.tl 1040 (List.map (eInt .i64) s8.1)))),(8,.s (aI s8.2.1)),(9,.s (aI s8.2.2.1)),(10,.s (aI (-1))),(45,.s (aI (labels.length : Int))),(46,.s (aI s8.2.2.1)),(55,.s (.c (.d (.sl (List.map shortcut_choice.cs x16))))),(56,.s (aI (x16.length : Int))),(57,.s (aI s17.1))],[(0,.blk ([.d (.sl (List.map (eSl shortcut_choice.cs) s17.2.1))] ++ (arrC 36 (dInt .i64) s17.2.2.1 ++ (arrC 36 dBool s17.2.2.2 ++ []))) 90),(1040,.tail 1)],0⟩) hr (Conv.mk (tau []) ⟨⟨_,rfl,.inl rfl⟩,⟨_,rfl,.inl rfl⟩,⟨_,rfl,.inl rfl⟩,⟨_,rfl,.inl rfl⟩,⟨_,rfl,.inl rfl⟩,⟨_,rfl,.inl rfl⟩,⟨_,rfl,.inl rfl⟩,⟨_,rfl,.inl rfl⟩,⟨_,rfl,.inl rfl⟩,⟨_,rfl,.inl rfl⟩,trivial⟩ ⟨rfl,rfl,trivial⟩ rfl rfl rfl rfl) ?_))))))
 clear hr
 intro again18 s17 hr
 unfold sc_Mnemonics_L1 at hr
 refine Ok.seq (Ok.region (OkOps.y (aB (decide (s17.1 < (x16.length : Int)))) (OkOps.nil (Ok.seq ?_))))
 refine Ok.cond (b:=decide (s17.1 < (x16.length : Int))) rfl (fun h19=>?_) (fun h19=>?_)
 have hr:=selT h19 hr
 refine Ok.skip ?_
 obtain ⟨k21,hk21,hr⟩:=jn_some hr
 refine Ok.join (fun (s20 : (List (List shortcut_choice)) × (Nat → Int) × (Nat → Bool))=>⟨[(4,.s (.c (.loc 0 0))),(7,.s (.c (.tl 1040 (List.map (eInt .i64) s8.1)))),(8,.s (aI s8.2.1)),(9,.s (aI s8.2.2.1)),(10,.s (aI (-1))),(45,.s (aI (labels.length : Int))),(46,.s (aI s8.2.2.1)),(55,.s (.c (.d (.sl (List.map shortcut_choice.cs x16))))),(56,.s (aI (x16.length : Int))),(57,.s (aI s17.1))],[(0,.blk ([.d (.sl (List.map (eSl shortcut_choice.cs) s20.1))] ++ (arrC 36 (dInt .i64) s20.2.1 ++ (arrC 36 dBool s20.2.2 ++ []))) 90),(1040,.tail 1)],0⟩) k21 r (fun s20 hr=>?_) ?_
 rw [hk21] at hr
 refine Ok.region (OkOps.y (aI (IntKind.i64.wrap (s17.1 + 1))) (OkOps.y (aI (IntKind.i64.wrap (s17.1 + 1))) (OkOps.nil ?_)))
 exact ⟨(IntKind.i64.wrap (s17.1 + 1),s20.1,s20.2.1,s20.2.2),hr,(Conv.mk (tau []) ⟨⟨_,rfl,.inl rfl⟩,⟨_,rfl,.inl rfl⟩,⟨_,rfl,.inl rfl⟩,⟨_,rfl,.inl rfl⟩,⟨_,rfl,.inl rfl⟩,⟨_,rfl,.inl rfl⟩,⟨_,rfl,.inl rfl⟩,⟨_,rfl,.inl rfl⟩,⟨_,rfl,.inl rfl⟩,⟨_,rfl,.inl rfl⟩,trivial⟩ ⟨rfl,rfl,trivial⟩ rfl rfl rfl rfl)⟩
 clear hk21
 refine Ok.block (Ok.seq (Ok.region ?_))
 obtain ⟨x22,hx22,hr⟩:=bind_some hr
 refine OkOps.q (triIdx (enc:=shortcut_choice.cs) (L:=x16) (row:=[dI x22.letter,dI x22.at_]) hx22 rfl rfl rfl rfl (fun _=>rfl) trivial rfl) (OkOps.y (.agg [cI x22.letter,cI x22.at_]) (OkOps.m 0 (triAlloc (j:=4) (cs:=[cI 0,cI 0]) rfl rfl rfl rfl) (OkOps.w (triStore (cs':=[cI x22.letter,cI x22.at_]) rfl rfl rfl rfl rfl rfl rfl rfl rfl) (OkOps.nil (Ok.seq (Ok.seq (Ok.regionD (by kernel_rfl) (OkD.x (.c (.loc 0 0)) rfl trivial rfl (OkD.x (.c (.loc 4 0)) rfl trivial rfl (OkD.x (aI x22.letter) rfl trivial rfl (OkD.x (.c (.loc 0 0)) rfl trivial rfl (OkD.x (.c (.loc 0 37)) rfl trivial rfl ?_))))))))))))
 obtain ⟨x23,hx23,hr⟩:=bind_some hr
 refine OkD.q (triIdxA hx23 rfl rfl rfl trivial rfl) (OkD.q (triLoadA (c:=cB_ (s17.2.2.2 x23)) (by rw [← List.append_assoc];exact arr_get (by simp [arrC_len]) (ixO_spec hx23).2) rfl rfl rfl trivial rfl) (OkD.nil (by kernel_rfl) ?_))
 refine Ok.cond (b:=s17.2.2.2 x23) rfl (fun h24=>?_) (fun h24=>?_)
 have hr:=selT h24 hr
 refine Ok.exit ?_
 exact ⟨(s17.2.1,s17.2.2.1,s17.2.2.2),hr,(Conv.mk (tau []) ⟨⟨_,rfl,.inl rfl⟩,⟨_,rfl,.inl rfl⟩,⟨_,rfl,.inl rfl⟩,⟨_,rfl,.inl rfl⟩,⟨_,rfl,.inl rfl⟩,⟨_,rfl,.inl rfl⟩,⟨_,rfl,.inl rfl⟩,⟨_,rfl,.inl rfl⟩,⟨_,rfl,.inl rfl⟩,⟨_,rfl,.inl rfl⟩,trivial⟩ ⟨rfl,rfl,trivial⟩ rfl rfl rfl rfl)⟩
 have hr:=selF h24 hr
 refine Ok.skip (Ok.seq (Ok.regionD (by kernel_rfl) (OkD.x (.c (.loc 0 0)) rfl trivial rfl (OkD.x (.c (.loc 4 0)) rfl trivial rfl (OkD.x (aI x22.letter) rfl trivial rfl (OkD.x (.c (.loc 0 0)) rfl trivial rfl (OkD.x (.c (.loc 0 37)) rfl trivial rfl ?_)))))))
 obtain ⟨x25,hx25,hr⟩:=bind_some hr
 refine OkD.q (triIdxA hx25 rfl rfl rfl trivial rfl) (OkD.w (triStoreA (cs':=([.d (.sl (List.map (eSl shortcut_choice.cs) s17.2.1))] ++ (arrC 36 (dInt .i64) s17.2.2.1 ++ (arrC 36 dBool (upd s17.2.2.2 x25 true) ++ [])))) (by rw [← List.append_assoc];rw [arr_set (by simp [arrC_len]) (ixO_spec hx25).2];rw [List.append_assoc]) (by have:=(ixO_spec hx25).2;simp [arrC_len];omega) rfl rfl rfl rfl rfl) (OkD.nil (by kernel_rfl) (Ok.seq (Ok.seq (Ok.region (OkOps.y (.c (.loc 0 0)) (OkOps.y (aI s8.2.2.1) (OkOps.y (aI (IntKind.i64.wrap (s8.2.2.1 + 1))) ?_))))))))
 obtain ⟨x26,hx26,hr⟩:=bind_some hr
 refine OkOps.m 0 (triCl (tau [(0,0)]) (.s (aI x26.1)) [(0,.blk ([.d (.sl (List.map (eSl shortcut_choice.cs) x26.2.l))] ++ (arrC 36 (dInt .i64) x26.2.owner ++ (arrC 36 dBool x26.2.taken ++ []))) 90)] (sc_matcher_most_c _ _ hx26) rfl ⟨.inl rfl,.inl rfl,trivial⟩ trivial entry35 ⟨rfl,trivial⟩) (OkOps.y (aI s8.2.1) (OkOps.y (aI (IntKind.i64.wrap (s8.2.1 - 1))) (OkOps.y (aB (x26.1 == (IntKind.i64.wrap (s8.2.1 - 1)))) (OkOps.nil ?_))))
 refine Ok.cond (b:=x26.1 == (IntKind.i64.wrap (s8.2.1 - 1))) rfl (fun h27=>?_) (fun h27=>?_)
 have hr:=selT h27 hr
 refine Ok.seq (Ok.region (OkOps.y (.c (.loc 4 1)) (OkOps.y (aI x22.at_) (OkOps.y (aI x22.at_) (OkOps.nil (Ok.seq (Ok.region (OkOps.y (aI s8.2.1) (OkOps.y (aI (IntKind.i64.wrap (s8.2.1 - 1))) (OkOps.y (aI (IntKind.i64.wrap (s8.2.1 - 1))) (OkOps.nil (Ok.exit ?_))))))))))))
 exact ⟨(IntKind.i64.wrap (s8.2.1 - 1),x22.at_,x26.2.l,x26.2.owner,x26.2.taken),hr,(Conv.mk (tau []) ⟨⟨_,rfl,.inl rfl⟩,⟨_,rfl,.inl rfl⟩,⟨_,rfl,.inl rfl⟩,⟨_,rfl,.inl rfl⟩,⟨_,rfl,.inl rfl⟩,⟨_,rfl,.inl rfl⟩,trivial⟩ ⟨rfl,rfl,trivial⟩ rfl rfl rfl rfl)⟩
 have hr:=selF h27 hr
 refine Ok.skip (Ok.regionD (by kernel_rfl) (OkD.x (.c (.loc 0 0)) rfl trivial rfl (OkD.x (.c (.loc 4 0)) rfl trivial rfl (OkD.x (aI x22.letter) rfl trivial rfl (OkD.x (.c (.loc 0 0)) rfl trivial rfl (OkD.x (.c (.loc 0 37)) rfl trivial rfl ?_))))))
 obtain ⟨x28,hx28,hr⟩:=bind_some hr
 refine OkD.q (triIdxA hx28 rfl rfl rfl trivial rfl) (OkD.w (triStoreA (cs':=([.d (.sl (List.map (eSl shortcut_choice.cs) x26.2.l))] ++ (arrC 36 (dInt .i64) x26.2.owner ++ (arrC 36 dBool (upd x26.2.taken x28 false) ++ [])))) (by rw [← List.append_assoc];rw [arr_set (by simp [arrC_len]) (ixO_spec hx28).2];rw [List.append_assoc]) (by have:=(ixO_spec hx28).2;simp [arrC_len];omega) rfl rfl rfl rfl rfl) (OkD.nil (by kernel_rfl) ?_))
 exact ⟨(x26.2.l,x26.2.owner,upd x26.2.taken x28 false),hr,(Conv.mk (tau []) ⟨⟨_,rfl,.inl rfl⟩,⟨_,rfl,.inl rfl⟩,⟨_,rfl,.inl rfl⟩,⟨_,rfl,.inl rfl⟩,⟨_,rfl,.inl rfl⟩,⟨_,rfl,.inl rfl⟩,⟨_,rfl,.inl rfl⟩,⟨_,rfl,.inl rfl⟩,⟨_,rfl,.inl rfl⟩,⟨_,rfl,.inl rfl⟩,trivial⟩ ⟨rfl,rfl,trivial⟩ rfl rfl rfl rfl)⟩
 have hr:=selF h19 hr
 refine Ok.exit ?_
 exact ⟨(s8.2.1,(-1),s17.2.1,s17.2.2.1,s17.2.2.2),hr,(Conv.mk (tau []) ⟨⟨_,rfl,.inl rfl⟩,⟨_,rfl,.inl rfl⟩,⟨_,rfl,.inl rfl⟩,⟨_,rfl,.inl rfl⟩,⟨_,rfl,.inl rfl⟩,⟨_,rfl,.inl rfl⟩,trivial⟩ ⟨rfl,rfl,trivial⟩ rfl rfl rfl rfl)⟩
 have hr:=selF h10 hr
 refine Ok.exit ?_
 exact ⟨s8.1,hr,(Conv.mk (tau [(1037,1040)]) ⟨⟨_,rfl,.inl rfl⟩,trivial⟩ ⟨rfl,trivial⟩ rfl rfl rfl rfl)⟩
 clear hk3
 refine Ok.seq (Ok.region (OkOps.y (.c (.d (.sl (List.map eStr labels)))) (OkOps.q (triLen (enc:=eStr) labels rfl rfl trivial rfl) (OkOps.y (aI 0) (OkOps.nil (Ok.block (Ok.loopK (fun (s29 : Int × (List (List shortcut_choice)))=>⟨[(0,.s (.c (.d (.sl (List.map eStr labels))))),(4,.s (.c (.loc 0 0))),(18,.s (.c (.d (.sl (List.map eStr labels))))),(19,.s (aI (labels.length : Int))),(20,.s (aI s29.1))],[(0,.blk ([.tl 1072 (List.map (eSl shortcut_choice.cs) s29.2)] ++ (arrC 36 (dInt .i64) (fun _=>0) ++ (arrC 36 dBool (fun _=>false) ++ []))) 90),(1072,.tail 1)],0⟩) hr (Conv.trans (Conv.nilO 0 0 1074 1 ([.d (.v (.slice none 0 0))] ++ (arrC 36 (dInt .i64) (fun _=>0) ++ (arrC 36 dBool (fun _=>false) ++ []))) ([.tl 1074 (List.map (eSl shortcut_choice.cs) ([] : (List (List shortcut_choice))))] ++ (arrC 36 (dInt .i64) (fun _=>0) ++ (arrC 36 dBool (fun _=>false) ++ []))) 90 0 rfl rfl rfl rfl) (Conv.mk (tau [(1072,1074)]) ⟨⟨_,rfl,.inl rfl⟩,⟨_,rfl,.inl rfl⟩,⟨_,rfl,.inl rfl⟩,⟨_,rfl,.inl rfl⟩,⟨_,rfl,.inl rfl⟩,trivial⟩ ⟨rfl,rfl,trivial⟩ rfl rfl rfl rfl)) ?_)))))))
 clear hr
 intro again30 s29 hr
 unfold sc_Mnemonics_L3 at hr
 refine Ok.seq (Ok.region (OkOps.y (aB (decide (s29.1 < (labels.length : Int)))) (OkOps.nil (Ok.seq ?_))))
 refine Ok.cond (b:=decide (s29.1 < (labels.length : Int))) rfl (fun h31=>?_) (fun h31=>?_)
 have hr:=selT h31 hr
 refine Ok.skip (Ok.seq (Ok.block (Ok.seq (Ok.region ?_))))
 obtain ⟨x32,hx32,hr⟩:=bind_some hr
 refine OkOps.q (triIdx (enc:=eStr) (L:=labels) (row:=[dS x32]) hx32 rfl rfl rfl rfl (fun _=>rfl) trivial rfl) (OkOps.y (aS x32) (OkOps.y (aS x32) (OkOps.nil (Ok.seq (Ok.seq (Ok.region (OkOps.y (aS x32) (OkOps.y (aI (x32.size : Int)) (OkOps.y (aB (decide ((x32.size : Int) > 2000))) (OkOps.nil ?_))))))))))
 refine Ok.cond (b:=decide ((x32.size : Int) > 2000)) rfl (fun h33=>?_) (fun h33=>?_)
 have hr:=selT h33 hr
 refine Ok.seq (Ok.region (OkOps.y (.c (.d (.v (.slice none 0 0)))) (OkOps.y (aI 2) (OkOps.nil (Ok.ret ?_)))))
 obtain rfl:=Option.some.inj hr
 exact ⟨_,rfl,.inr rfl,trivial⟩
 have hr:=selF h33 hr
 refine Ok.skip (Ok.regionD (by kernel_rfl) (OkD.x (.c (.loc 0 0)) rfl trivial rfl (OkD.x (.c (.loc 0 0)) rfl trivial rfl (OkD.x (.c (.loc 0 0)) rfl trivial rfl (OkD.x (.c (.loc 0 0)) rfl trivial rfl (OkD.x (.c (.tl 1072 (List.map (eSl shortcut_choice.cs) s29.2))) rfl trivial rfl (OkD.x (aS x32) rfl trivial rfl ?_)))))))
 obtain ⟨x34,hx34,hr⟩:=bind_some hr
 refine OkD.q (triCl (tau []) (.s (.c (.d (.sl (List.map shortcut_choice.cs x34))))) [] (sc_choices_c _ hx34) rfl ⟨.inl rfl,trivial⟩ trivial entry34 trivial) (OkD.m 0 (triBST (sz:=1) (enc:=(eSl shortcut_choice.cs)) (j:=5) ([x34]) rfl rfl rfl rfl rfl rfl rfl rfl (fun _=>rfl) trivial rfl rfl) ?_)
 obtain ⟨x35,hx35,hr⟩:=bind_some hr
 refine OkD.m2 0 (triApp (enc:=(eSl shortcut_choice.cs)) (L:=s29.2) (X:=[x34]) (j:=1072) (j':=6) hx35 rfl rfl rfl rfl rfl rfl (fun _=>rfl) (fun _=>rfl) (by decide) trivial rfl rfl) (OkD.x (.c (.loc 0 0)) rfl trivial rfl (OkD.x (.c (.loc 0 0)) rfl trivial rfl (OkD.w (triStore (cs':=([.tl 6 (List.map (eSl shortcut_choice.cs) x35)] ++ (arrC 36 (dInt .i64) (fun _=>0) ++ (arrC 36 dBool (fun _=>false) ++ [])))) rfl rfl rfl rfl rfl rfl rfl rfl rfl) (OkD.nil (by kernel_rfl) (Ok.region (OkOps.y (aI (IntKind.i64.wrap (s29.1 + 1))) (OkOps.y (aI (IntKind.i64.wrap (s29.1 + 1))) (OkOps.nil ?_))))))))
 exact ⟨(IntKind.i64.wrap (s29.1 + 1),x35),hr,(Conv.mk (tau [(1072,6)]) ⟨⟨_,rfl,.inl rfl⟩,⟨_,rfl,.inl rfl⟩,⟨_,rfl,.inl rfl⟩,⟨_,rfl,.inl rfl⟩,⟨_,rfl,.inl rfl⟩,trivial⟩ ⟨rfl,rfl,trivial⟩ rfl rfl rfl rfl)⟩
 have hr:=selF h31 hr
 refine Ok.exit ?_
 exact ⟨s29.2,hr,(Conv.mk (tau [(1004,1072)]) ⟨⟨_,rfl,.inl rfl⟩,⟨_,rfl,.inl rfl⟩,trivial⟩ ⟨rfl,rfl,trivial⟩ rfl rfl rfl rfl)⟩
theorem ext116 (s : Str) (c : Int) : ExtP Tryd.prog 116 [.string s,.int .u8 c] (.int .i64 (idxByte s c)):=ext_of (e:=Extern.BytealgIndexByte.indexByte) Tryd.func116 (by kernel_rfl) (by kernel_rfl) (by kernel_rfl) (by kernel_rfl) (idxByte_run s c)
theorem ext90 (s : Str) (c : Int) : ExtP Tryd.prog 90 [.string s,.int .u8 c] (.int .i64 (cntByte s c)):=ext_of (e:=Extern.BytealgCount.count) Tryd.func90 (by kernel_rfl) (by kernel_rfl) (by kernel_rfl) (by kernel_rfl) (cntByte_run s c)
theorem stringslite_IndexByte_c (p_s : Str) (c : Int) {r : Int} (hr : stringslite_IndexByte p_s c = some r) : Con Tryd.prog 107 [aS p_s,.c (.d (.v (.int .u8 c)))] [] (.s (aI r)) []:=by
 unfold stringslite_IndexByte at hr
 refine Con.of_ok 8 0 [.tmp 4] [(0,.s (aS p_s)),(1,.s (.c (.d (.v (.int .u8 c)))))] Tryd.func107 rfl rfl rfl rfl rfl rfl rfl rfl fun w g M ρ _=>(Ok.seq (Ok.region (OkOps.y (aI 0) (OkOps.nil (Ok.seq (Ok.region (OkOps.y (aS p_s) (OkOps.y (.c (.d (.v (.int .u8 c)))) (OkOps.q (triExt (x:=aI (idxByte p_s c)) (ext116 _ _) rfl rfl trivial rfl) (OkOps.y (aI (idxByte p_s c)) (OkOps.nil (Ok.ret ?_))))))))))))
 obtain rfl:=Option.some.inj hr
 exact ⟨_,rfl,.inl rfl,trivial⟩
theorem stringslite_Index_c (p_s : Str) (substr : Str) {r : Int} (hr : stringslite_Index p_s substr = some r) : Con Tryd.prog 91 [aS p_s,aS substr] [] (.s (aI r)) []:=by
 unfold stringslite_Index at hr
 refine Con.of_ok 143 0 [.tmp 4] [(0,.s (aS p_s)),(1,.s (aS substr))] Tryd.func91 rfl rfl rfl rfl rfl rfl rfl rfl fun w g M ρ _=>(Ok.seq (Ok.region (OkOps.y (aI 0) (OkOps.nil (Ok.seq (Ok.region (OkOps.y (aS substr) (OkOps.y (aI (substr.size : Int)) (OkOps.y (aI (substr.size : Int)) (OkOps.nil (Ok.seq (Ok.block (Ok.seq (Ok.region (OkOps.y (aI (substr.size : Int)) ?_)))))))))))))))
 refine OkOps.y (aB ((substr.size : Int) == 0)) (OkOps.y (aB ((substr.size : Int) == 0)) (OkOps.q (triQG (x:=aS substr) rfl rfl trivial rfl) (OkOps.q (triQG (x:=aS p_s) rfl rfl trivial rfl) (OkOps.q (triQG (x:=aB (substr.toList == p_s.toList)) rfl rfl ⟨fun h=>h,⟨fun h=>h,trivial⟩⟩ rfl) ?_))))
 refine OkOps.q (triOr rfl rfl (fun h=>by rw [h];rfl) rfl) ?_
 refine OkOps.y (aB (((substr.size : Int) == 0) || (substr.toList == p_s.toList))) (OkOps.nil ?_)
 refine Ok.cond (b:=((substr.size : Int) == 0) || (substr.toList == p_s.toList)) rfl (fun h1=>?_) (fun h1=>?_)
 have hr:=selT h1 hr
 refine Ok.seq (Ok.region (OkOps.y (aI 0) (OkOps.nil (Ok.ret ?_))))
 obtain rfl:=Option.some.inj hr
 exact ⟨_,rfl,.inl rfl,trivial⟩
 have hr:=selF h1 hr
 refine Ok.seq (Ok.region (OkOps.y (aI (substr.size : Int)) (OkOps.y (aB ((substr.size : Int) == 1)) (OkOps.y (aB ((substr.size : Int) == 1)) (OkOps.nil ?_)))))
 refine Ok.cond (b:=(substr.size : Int) == 1) rfl (fun h2=>?_) (fun h2=>?_)
 have hr:=selT h2 hr
 refine Ok.seq (Ok.region (OkOps.y (aS p_s) (OkOps.y (aS substr) ?_)))
 obtain ⟨x3,hx3,hr⟩:=bind_some hr
 refine OkOps.q (triSIdx hx3 rfl rfl rfl trivial rfl) ?_
 obtain ⟨x4,hx4,hr⟩:=bind_some hr
 refine OkOps.q (triCl (tau []) (.s (aI x4)) [] (stringslite_IndexByte_c _ _ hx4) rfl ⟨.inl rfl,.inl rfl,trivial⟩ trivial entry107 trivial) (OkOps.y (aI x4) (OkOps.nil (Ok.ret ?_)))
 obtain rfl:=Option.some.inj hr
 exact ⟨_,rfl,.inl rfl,trivial⟩
 have hr:=selF h2 hr
 refine Ok.seq (Ok.region (OkOps.y (aI (substr.size : Int)) (OkOps.y (aS p_s) (OkOps.y (aI (p_s.size : Int)) (OkOps.y (aB (decide ((substr.size : Int) ≥ (p_s.size : Int)))) (OkOps.y (aB (decide ((substr.size : Int) ≥ (p_s.size : Int)))) (OkOps.nil ?_)))))))
 refine Ok.cond (b:=decide ((substr.size : Int) ≥ (p_s.size : Int))) rfl (fun h5=>?_) (fun h5=>?_)
 have hr:=selT h5 hr
 refine Ok.seq (Ok.region (OkOps.y (aI (-1)) (OkOps.nil (Ok.ret ?_))))
 obtain rfl:=Option.some.inj hr
 exact ⟨_,rfl,.inl rfl,trivial⟩
 have hr:=selF h5 hr
 refine Ok.seq (Ok.region (OkOps.y (aI (substr.size : Int)) ?_))
 cases hr
theorem strings_Index_c (p_s : Str) (substr : Str) {r : Int} (hr : strings_Index p_s substr = some r) : Con Tryd.prog 71 [aS p_s,aS substr] [] (.s (aI r)) []:=by
 unfold strings_Index at hr
 refine Con.of_ok 8 0 [.tmp 4] [(0,.s (aS p_s)),(1,.s (aS substr))] Tryd.func71 rfl rfl rfl rfl rfl rfl rfl rfl fun w g M ρ _=>(Ok.seq (Ok.region (OkOps.y (aI 0) (OkOps.nil (Ok.seq (Ok.region (OkOps.y (aS p_s) (OkOps.y (aS substr) ?_))))))))
 obtain ⟨x1,hx1,hr⟩:=bind_some hr
 refine OkOps.q (triCl (tau []) (.s (aI x1)) [] (stringslite_Index_c _ _ hx1) rfl ⟨.inl rfl,.inl rfl,trivial⟩ trivial entry91 trivial) (OkOps.y (aI x1) (OkOps.nil (Ok.ret ?_)))
 obtain rfl:=Option.some.inj hr
 exact ⟨_,rfl,.inl rfl,trivial⟩
theorem strings_Count_c (p_s : Str) (substr : Str) {r : Int} (hr : strings_Count p_s substr = some r) : Con Tryd.prog 70 [aS p_s,aS substr] [] (.s (aI r)) []:=by
 unfold strings_Count at hr
 refine Con.of_ok 34 0 [.tmp 4] [(0,.s (aS p_s)),(1,.s (aS substr))] Tryd.func70 rfl rfl rfl rfl rfl rfl rfl rfl fun w g M ρ _=>(Ok.seq (Ok.region (OkOps.y (aI 0) (OkOps.nil (Ok.seq (Ok.seq (Ok.region (OkOps.y (aS substr) (OkOps.y (aI (substr.size : Int)) (OkOps.y (aB ((substr.size : Int) == 0)) (OkOps.nil ?_)))))))))))
 refine Ok.cond (b:=(substr.size : Int) == 0) rfl (fun h1=>?_) (fun h1=>?_)
 have hr:=selT h1 hr
 refine Ok.seq (Ok.region (OkOps.y (aS p_s) ?_))
 cases hr
 have hr:=selF h1 hr
 refine Ok.skip (Ok.seq (Ok.seq (Ok.region (OkOps.y (aS substr) (OkOps.y (aI (substr.size : Int)) (OkOps.y (aB ((substr.size : Int) == 1)) (OkOps.nil ?_)))))))
 refine Ok.cond (b:=(substr.size : Int) == 1) rfl (fun h2=>?_) (fun h2=>?_)
 have hr:=selT h2 hr
 refine Ok.seq (Ok.region (OkOps.y (aS p_s) (OkOps.y (aS substr) ?_)))
 obtain ⟨x3,hx3,hr⟩:=bind_some hr
 refine OkOps.q (triSIdx hx3 rfl rfl rfl trivial rfl) (OkOps.q (triExt (x:=aI (cntByte p_s x3)) (ext90 _ _) rfl rfl trivial rfl) (OkOps.y (aI (cntByte p_s x3)) (OkOps.nil (Ok.ret ?_))))
 obtain rfl:=Option.some.inj hr
 exact ⟨_,rfl,.inl rfl,trivial⟩
 have hr:=selF h2 hr
 refine Ok.skip (Ok.seq (Ok.region (OkOps.y (aI 0) (OkOps.nil (Ok.block (Ok.loopK (fun (s4 : Str × Int)=>⟨[(0,.s (aS s4.1)),(1,.s (aS substr)),(5,.s (aI s4.2))],[],0⟩) hr (Conv.mk (tau []) ⟨⟨_,rfl,.inl rfl⟩,⟨_,rfl,.inl rfl⟩,⟨_,rfl,.inl rfl⟩,trivial⟩ trivial rfl rfl rfl rfl) ?_))))))
 clear hr
 intro again5 s4 hr
 unfold strings_Count_L1 at hr
 refine Ok.block (Ok.seq (Ok.region (OkOps.y (aS s4.1) (OkOps.y (aS substr) ?_))))
 obtain ⟨x6,hx6,hr⟩:=bind_some hr
 refine OkOps.q (triCl (tau []) (.s (aI x6)) [] (strings_Index_c _ _ hx6) rfl ⟨.inl rfl,.inl rfl,trivial⟩ trivial entry71 trivial) (OkOps.y (aI x6) (OkOps.nil (Ok.seq (Ok.seq (Ok.region (OkOps.y (aI x6) (OkOps.y (aB (x6 == (-1))) (OkOps.nil ?_))))))))
 refine Ok.cond (b:=x6 == (-1)) rfl (fun h7=>?_) (fun h7=>?_)
 have hr:=selT h7 hr
 refine Ok.seq (Ok.region (OkOps.y (aI s4.2) (OkOps.y (aI s4.2) (OkOps.nil (Ok.ret ?_)))))
 obtain rfl:=Option.some.inj hr
 exact ⟨_,rfl,.inl rfl,trivial⟩
 have hr:=selF h7 hr
 refine Ok.skip (Ok.seq (Ok.region (OkOps.y (aI s4.2) (OkOps.y (aI (IntKind.i64.wrap (s4.2 + 1))) (OkOps.y (aI (IntKind.i64.wrap (s4.2 + 1))) (OkOps.nil (Ok.region (OkOps.y (aS s4.1) (OkOps.y (aI x6) (OkOps.y (aS substr) (OkOps.y (aI (substr.size : Int)) (OkOps.y (aI (IntKind.i64.wrap (x6 + (substr.size : Int)))) ?_))))))))))))
 obtain ⟨x8,hx8,hr⟩:=bind_some hr
 refine OkOps.q (triSSlc hx8 rfl rfl rfl (.inr ⟨_,rfl⟩) (.inl ⟨rfl,rfl⟩) rfl trivial rfl) (OkOps.y (aS x8) (OkOps.nil ?_))
 exact ⟨(x8,IntKind.i64.wrap (s4.2 + 1)),hr,(Conv.mk (tau []) ⟨⟨_,rfl,.inl rfl⟩,⟨_,rfl,.inl rfl⟩,⟨_,rfl,.inl rfl⟩,trivial⟩ trivial rfl rfl rfl rfl)⟩
theorem strings_genSplit_c (p_s : Str) (sep : Str) (sepSave : Int) (p_n : Int) {r : (List Str)} (hr : strings_genSplit p_s sep sepSave p_n = some r) : Con Tryd.prog 44 [aS p_s,aS sep,aI sepSave,aI p_n] [] (.s (.c (.d (.sl (List.map eStr r))))) []:=by
 unfold strings_genSplit at hr
 refine Con.of_ok 66 0 [.tmp 8] [(0,.s (aS p_s)),(1,.s (aS sep)),(2,.s (aI sepSave)),(3,.s (aI p_n))] Tryd.func44 rfl rfl rfl rfl rfl rfl rfl rfl fun w g M ρ _=>(Ok.seq (Ok.region (OkOps.y (.c (.d (.v (.slice none 0 0)))) (OkOps.nil (Ok.seq (Ok.seq (Ok.region (OkOps.y (aI p_n) (OkOps.y (aB (p_n == 0)) (OkOps.nil ?_))))))))))
 refine Ok.cond (b:=p_n == 0) rfl (fun h1=>?_) (fun h1=>?_)
 have hr:=selT h1 hr
 refine Ok.seq (Ok.region (OkOps.y (.c (.d (.v (.slice none 0 0)))) (OkOps.nil (Ok.ret ?_))))
 obtain rfl:=Option.some.inj hr
 exact ⟨_,rfl,.inr rfl,trivial⟩
 have hr:=selF h1 hr
 refine Ok.skip (Ok.seq (Ok.seq (Ok.region (OkOps.y (aS sep) (OkOps.y (aB (sep.toList == (ByteArray.mk #[]).toList)) (OkOps.nil ?_))))))
 refine Ok.cond (b:=sep.toList == (ByteArray.mk #[]).toList) rfl (fun h2=>?_) (fun h2=>?_)
 have hr:=selT h2 hr
 refine Ok.seq (Ok.region (OkOps.y (aS p_s) (OkOps.y (aI p_n) ?_)))
 cases hr
 have hr:=selF h2 hr
 refine Ok.skip ?_
 obtain ⟨k4,hk4,hr⟩:=jn_some hr
 refine Ok.join (fun (s3 : Int)=>⟨[(0,.s (aS p_s)),(1,.s (aS sep)),(2,.s (aI sepSave)),(3,.s (aI s3))],[],0⟩) k4 r (fun s3 hr=>?_) ?_
 rw [hk4] at hr
 refine Ok.seq (Ok.region (OkOps.y (aI s3) (OkOps.y (aS p_s) (OkOps.y (aI (p_s.size : Int)) (OkOps.y (aI (IntKind.i64.wrap ((p_s.size : Int) + 1))) (OkOps.y (aI (mnI s3 (IntKind.i64.wrap ((p_s.size : Int) + 1)))) (OkOps.y (aI (mnI s3 (IntKind.i64.wrap ((p_s.size : Int) + 1)))) (OkOps.nil (Ok.seq (Ok.region (OkOps.y (aI (mnI s3 (IntKind.i64.wrap ((p_s.size : Int) + 1)))) ?_)))))))))))
 obtain ⟨x5,hx5,hr⟩:=bind_some hr
 refine OkOps.m 0 (triMkV (sz:=1) (enc:=eStr) (zr:=ByteArray.empty) (j:=0) hx5 rfl rfl rfl rfl rfl (fun _=>rfl) (by decide) trivial rfl rfl) (OkOps.y (.c (.own 0)) (OkOps.nil (Ok.seq (Ok.region (OkOps.y (aI (mnI s3 (IntKind.i64.wrap ((p_s.size : Int) + 1)))) (OkOps.y (aI (IntKind.i64.wrap ((mnI s3 (IntKind.i64.wrap ((p_s.size : Int) + 1))) - 1))) (OkOps.y (aI (IntKind.i64.wrap ((mnI s3 (IntKind.i64.wrap ((p_s.size : Int) + 1))) - 1))) (OkOps.nil (Ok.seq (Ok.region (OkOps.y (aI 0) (OkOps.nil ?_))))))))))))
 obtain ⟨k7,hk7,hr⟩:=jn_some hr
 refine Ok.join (fun (s6 : Str × Int × (List Str))=>⟨[(0,.s (aS s6.1)),(9,.s (.c (.own 0))),(10,.s (aI s6.2.1))],[(0,.vec 1 (List.map eStr s6.2.2))],0⟩) k7 r (fun s6 hr=>?_) ?_
 rw [hk7] at hr
 refine Ok.seq (Ok.region (OkOps.y (.c (.own 0)) (OkOps.y (aI s6.2.1) (OkOps.y (aS s6.1) ?_))))
 obtain ⟨x8,hx8,hr⟩:=bind_some hr
 refine OkOps.q (triIdxV (enc:=eStr) (L:=s6.2.2) hx8 rfl rfl rfl rfl trivial rfl) (OkOps.w (triStoreV (enc:=eStr) (L:=s6.2.2) s6.1 (.inr (ixO_spec hx8).2) rfl rfl rfl rfl rfl rfl (fun _=>rfl) rfl) (OkOps.nil (Ok.seq (Ok.region (OkOps.y (.c (.own 0)) (OkOps.y (aI s6.2.1) (OkOps.y (aI (IntKind.i64.wrap (s6.2.1 + 1))) (OkOps.conv (Conv.freeze (enc:=eStr) (L:=List.set s6.2.2 x8 s6.1) [9,58,62] 0 1 1 0 ⟨rfl,rfl,rfl,trivial⟩ rfl (fun _=>rfl) rfl) ?_))))))))
 obtain ⟨x9,hx9,hr⟩:=bind_some hr
 refine OkOps.q (triSlc (enc:=eStr) (L:=List.set s6.2.2 x8 s6.1) hx9 rfl rfl rfl (.inl ⟨rfl,rfl⟩) (.inr ⟨_,rfl⟩) rfl (fun _=>rfl) trivial rfl) (OkOps.y (.c (.d (.sl (List.map eStr x9)))) (OkOps.nil (Ok.ret ?_)))
 obtain rfl:=Option.some.inj hr
 exact ⟨_,rfl,.inl rfl,trivial⟩
 clear hk7
 refine Ok.block (Ok.loopK (fun (s10 : Str × Int × (List Str))=>⟨[(0,.s (aS s10.1)),(1,.s (aS sep)),(2,.s (aI sepSave)),(3,.s (aI (IntKind.i64.wrap ((mnI s3 (IntKind.i64.wrap ((p_s.size : Int) + 1))) - 1)))),(9,.s (.c (.own 0))),(10,.s (aI s10.2.1))],[(0,.vec 1 (List.map eStr s10.2.2))],0⟩) hr (Conv.mk (tau []) ⟨⟨_,rfl,.inl rfl⟩,⟨_,rfl,.inl rfl⟩,⟨_,rfl,.inl rfl⟩,⟨_,rfl,.inl rfl⟩,⟨_,rfl,.inl rfl⟩,⟨_,rfl,.inl rfl⟩,trivial⟩ ⟨rfl,trivial⟩ rfl rfl rfl rfl) ?_)
 clear hr
 intro again11 s10 hr
 unfold strings_genSplit_L1 at hr
 refine Ok.seq (Ok.seq (Ok.region (OkOps.y (aI s10.2.1) (OkOps.y (aI (IntKind.i64.wrap ((mnI s3 (IntKind.i64.wrap ((p_s.size : Int) + 1))) - 1))) (OkOps.y (aB (decide (s10.2.1 < (IntKind.i64.wrap ((mnI s3 (IntKind.i64.wrap ((p_s.size : Int) + 1))) - 1))))) (OkOps.nil ?_))))))
 refine Ok.cond (b:=decide (s10.2.1 < (IntKind.i64.wrap ((mnI s3 (IntKind.i64.wrap ((p_s.size : Int) + 1))) - 1)))) rfl (fun h12=>?_) (fun h12=>?_)
 have hr:=selT h12 hr
 refine Ok.skip (Ok.block (Ok.seq (Ok.region (OkOps.y (aS s10.1) (OkOps.y (aS sep) ?_)))))
 obtain ⟨x13,hx13,hr⟩:=bind_some hr
 refine OkOps.q (triCl (tau []) (.s (aI x13)) [] (strings_Index_c _ _ hx13) rfl ⟨.inl rfl,.inl rfl,trivial⟩ trivial entry71 trivial) (OkOps.y (aI x13) (OkOps.nil (Ok.seq (Ok.seq (Ok.region (OkOps.y (aI x13) (OkOps.y (aB (decide (x13 < 0))) (OkOps.nil ?_))))))))
 refine Ok.cond (b:=decide (x13 < 0)) rfl (fun h14=>?_) (fun h14=>?_)
 have hr:=selT h14 hr
 refine Ok.exit ?_
 exact ⟨(s10.1,s10.2.1,s10.2.2),hr,(Conv.mk (tau []) ⟨⟨_,rfl,.inl rfl⟩,⟨_,rfl,.inl rfl⟩,⟨_,rfl,.inl rfl⟩,trivial⟩ ⟨rfl,trivial⟩ rfl rfl rfl rfl)⟩
 have hr:=selF h14 hr
 refine Ok.skip (Ok.seq (Ok.region (OkOps.y (.c (.own 0)) (OkOps.y (aI s10.2.1) (OkOps.y (aS s10.1) (OkOps.y (aI x13) (OkOps.y (aI sepSave) (OkOps.y (aI (IntKind.i64.wrap (x13 + sepSave))) ?_))))))))
 obtain ⟨x15,hx15,hr⟩:=bind_some hr
 refine OkOps.q (triSSlc hx15 rfl rfl rfl (.inl ⟨rfl,rfl⟩) (.inr ⟨_,rfl⟩) rfl trivial rfl) ?_
 obtain ⟨x16,hx16,hr⟩:=bind_some hr
 refine OkOps.q (triIdxV (enc:=eStr) (L:=s10.2.2) hx16 rfl rfl rfl rfl trivial rfl) (OkOps.w (triStoreV (enc:=eStr) (L:=s10.2.2) x15 (.inr (ixO_spec hx16).2) rfl rfl rfl rfl rfl rfl (fun _=>rfl) rfl) (OkOps.nil (Ok.seq (Ok.region (OkOps.y (aS s10.1) (OkOps.y (aI x13) (OkOps.y (aS sep) (OkOps.y (aI (sep.size : Int)) (OkOps.y (aI (IntKind.i64.wrap (x13 + (sep.size : Int)))) ?_)))))))))
 obtain ⟨x17,hx17,hr⟩:=bind_some hr
 refine OkOps.q (triSSlc hx17 rfl rfl rfl (.inr ⟨_,rfl⟩) (.inl ⟨rfl,rfl⟩) rfl trivial rfl) (OkOps.y (aS x17) (OkOps.nil (Ok.region (OkOps.y (aI s10.2.1) (OkOps.y (aI (IntKind.i64.wrap (s10.2.1 + 1))) (OkOps.y (aI (IntKind.i64.wrap (s10.2.1 + 1))) (OkOps.nil ?_)))))))
 exact ⟨(x17,IntKind.i64.wrap (s10.2.1 + 1),List.set s10.2.2 x16 x15),hr,(Conv.mk (tau []) ⟨⟨_,rfl,.inl rfl⟩,⟨_,rfl,.inl rfl⟩,⟨_,rfl,.inl rfl⟩,⟨_,rfl,.inl rfl⟩,⟨_,rfl,.inl rfl⟩,⟨_,rfl,.inl rfl⟩,trivial⟩ ⟨rfl,trivial⟩ rfl rfl rfl rfl)⟩
 have hr:=selF h12 hr
 refine Ok.exit ?_
 exact ⟨(s10.1,s10.2.1,s10.2.2),hr,(Conv.mk (tau []) ⟨⟨_,rfl,.inl rfl⟩,⟨_,rfl,.inl rfl⟩,⟨_,rfl,.inl rfl⟩,trivial⟩ ⟨rfl,trivial⟩ rfl rfl rfl rfl)⟩
 clear hk4
 refine Ok.seq (Ok.region (OkOps.y (aI p_n) (OkOps.y (aB (decide (p_n < 0))) (OkOps.nil ?_))))
 refine Ok.cond (b:=decide (p_n < 0)) rfl (fun h18=>?_) (fun h18=>?_)
 have hr:=selT h18 hr
 refine Ok.region (OkOps.y (aS p_s) (OkOps.y (aS sep) ?_))
 obtain ⟨x19,hx19,hr⟩:=bind_some hr
 refine OkOps.q (triCl (tau []) (.s (aI x19)) [] (strings_Count_c _ _ hx19) rfl ⟨.inl rfl,.inl rfl,trivial⟩ trivial entry70 trivial) (OkOps.y (aI (IntKind.i64.wrap (x19 + 1))) (OkOps.y (aI (IntKind.i64.wrap (x19 + 1))) (OkOps.nil ?_)))
 exact ⟨IntKind.i64.wrap (x19 + 1),hr,(Conv.mk (tau []) ⟨⟨_,rfl,.inl rfl⟩,⟨_,rfl,.inl rfl⟩,⟨_,rfl,.inl rfl⟩,⟨_,rfl,.inl rfl⟩,trivial⟩ trivial rfl rfl rfl rfl)⟩
 have hr:=selF h18 hr
 refine Ok.skip ?_
 exact ⟨p_n,hr,(Conv.mk (tau []) ⟨⟨_,rfl,.inl rfl⟩,⟨_,rfl,.inl rfl⟩,⟨_,rfl,.inl rfl⟩,⟨_,rfl,.inl rfl⟩,trivial⟩ trivial rfl rfl rfl rfl)⟩
theorem strings_Split_c (p_s : Str) (sep : Str) {r : (List Str)} (hr : strings_Split p_s sep = some r) : Con Tryd.prog 24 [aS p_s,aS sep] [] (.s (.c (.d (.sl (List.map eStr r))))) []:=by
 unfold strings_Split at hr
 refine Con.of_ok 8 0 [.tmp 4] [(0,.s (aS p_s)),(1,.s (aS sep))] Tryd.func24 rfl rfl rfl rfl rfl rfl rfl rfl fun w g M ρ _=>(Ok.seq (Ok.region (OkOps.y (.c (.d (.v (.slice none 0 0)))) (OkOps.nil (Ok.seq (Ok.region (OkOps.y (aS p_s) (OkOps.y (aS sep) ?_))))))))
 obtain ⟨x1,hx1,hr⟩:=bind_some hr
 refine OkOps.q (triCl (tau []) (.s (.c (.d (.sl (List.map eStr x1))))) [] (strings_genSplit_c _ _ _ _ hx1) rfl ⟨.inl rfl,.inl rfl,.inl rfl,.inl rfl,trivial⟩ trivial entry44 trivial) (OkOps.y (.c (.d (.sl (List.map eStr x1)))) (OkOps.nil (Ok.ret ?_)))
 obtain rfl:=Option.some.inj hr
 exact ⟨_,rfl,.inl rfl,trivial⟩
theorem stringslite_HasPrefix_c (p_s : Str) (p_prefix : Str) {r : Bool} (hr : stringslite_HasPrefix p_s p_prefix = some r) : Con Tryd.prog 92 [aS p_s,aS p_prefix] [] (.s (aB r)) []:=by
 unfold stringslite_HasPrefix at hr
 refine Con.of_ok 18 0 [.tmp 4] [(0,.s (aS p_s)),(1,.s (aS p_prefix))] Tryd.func92 rfl rfl rfl rfl rfl rfl rfl rfl fun w g M ρ _=>(Ok.seq (Ok.region (OkOps.y (aB false) (OkOps.nil (Ok.seq (Ok.region (OkOps.y (aS p_s) (OkOps.y (aI (p_s.size : Int)) (OkOps.y (aS p_prefix) (OkOps.y (aI (p_prefix.size : Int)) (OkOps.y (aB (decide ((p_s.size : Int) ≥ (p_prefix.size : Int)))) (OkOps.y (aB (decide ((p_s.size : Int) ≥ (p_prefix.size : Int)))) (OkOps.q (triQG (x:=aS p_s) rfl rfl trivial rfl) (OkOps.q (triQG (x:=aS p_prefix) rfl rfl trivial rfl) (OkOps.q (triQG (x:=aI (p_prefix.size : Int)) rfl rfl ⟨fun h=>h,trivial⟩ rfl) ?_)))))))))))))))
 obtain ⟨x1,hx1,hr⟩:=bind_some hr
 refine OkOps.q (triSSlcG (gO_t hx1) rfl rfl rfl rfl (.inl ⟨rfl,rfl⟩) (.inr ⟨_,rfl⟩) rfl ⟨fun h=>h,⟨fun h=>h,trivial⟩⟩ rfl) (OkOps.q (triQG (x:=aS p_prefix) rfl rfl trivial rfl) (OkOps.q (triQG (x:=aB (x1.toList == p_prefix.toList)) rfl rfl ⟨fun h=>h,⟨fun h=>h,trivial⟩⟩ rfl) (OkOps.q (triAnd rfl rfl (fun h=>h) rfl) (OkOps.y (aB ((decide ((p_s.size : Int) ≥ (p_prefix.size : Int))) && (x1.toList == p_prefix.toList))) (OkOps.nil (Ok.ret ?_))))))
 obtain rfl:=Option.some.inj hr
 exact ⟨_,rfl,.inl rfl,trivial⟩
theorem stringslite_CutPrefix_c (p_s : Str) (p_prefix : Str) {r : Str × Bool} (hr : stringslite_CutPrefix p_s p_prefix = some r) : Con Tryd.prog 72 [aS p_s,aS p_prefix] [] (.tup [aS r.1,aB r.2]) []:=by
 unfold stringslite_CutPrefix at hr
 refine Con.of_ok 15 0 [.tmp 4,.tmp 5] [(0,.s (aS p_s)),(1,.s (aS p_prefix))] Tryd.func72 rfl rfl rfl rfl rfl rfl rfl rfl fun w g M ρ _=>(Ok.seq (Ok.region (OkOps.y (aS (ByteArray.mk #[])) (OkOps.y (aB false) (OkOps.nil (Ok.seq (Ok.seq (Ok.region (OkOps.y (aS p_s) (OkOps.y (aS p_prefix) ?_))))))))))
 obtain ⟨x1,hx1,hr⟩:=bind_some hr
 refine OkOps.q (triCl (tau []) (.s (aB x1)) [] (stringslite_HasPrefix_c _ _ hx1) rfl ⟨.inl rfl,.inl rfl,trivial⟩ trivial entry92 trivial) (OkOps.y (aB (!x1)) (OkOps.nil ?_))
 refine Ok.cond (b:=!x1) rfl (fun h2=>?_) (fun h2=>?_)
 have hr:=selT h2 hr
 refine Ok.seq (Ok.region (OkOps.y (aS p_s) (OkOps.y (aS p_s) (OkOps.y (aB false) (OkOps.nil (Ok.ret ?_))))))
 obtain rfl:=Option.some.inj hr
 exact ⟨_,rfl,.inl rfl,trivial⟩
 have hr:=selF h2 hr
 refine Ok.skip (Ok.seq (Ok.region (OkOps.y (aS p_s) (OkOps.y (aS p_prefix) (OkOps.y (aI (p_prefix.size : Int)) ?_)))))
 obtain ⟨x3,hx3,hr⟩:=bind_some hr
 refine OkOps.q (triSSlc hx3 rfl rfl rfl (.inr ⟨_,rfl⟩) (.inl ⟨rfl,rfl⟩) rfl trivial rfl) (OkOps.y (aS x3) (OkOps.y (aB true) (OkOps.nil (Ok.ret ?_))))
 obtain rfl:=Option.some.inj hr
 exact ⟨_,rfl,.inl rfl,trivial⟩
theorem strings_CutPrefix_c (p_s : Str) (p_prefix : Str) {r : Str × Bool} (hr : strings_CutPrefix p_s p_prefix = some r) : Con Tryd.prog 46 [aS p_s,aS p_prefix] [] (.tup [aS r.1,aB r.2]) []:=by
 unfold strings_CutPrefix at hr
 refine Con.of_ok 11 0 [.tmp 4,.tmp 5] [(0,.s (aS p_s)),(1,.s (aS p_prefix))] Tryd.func46 rfl rfl rfl rfl rfl rfl rfl rfl fun w g M ρ _=>(Ok.seq (Ok.region (OkOps.y (aS (ByteArray.mk #[])) (OkOps.y (aB false) (OkOps.nil (Ok.seq (Ok.region (OkOps.y (aS p_s) (OkOps.y (aS p_prefix) ?_)))))))))
 obtain ⟨x1,hx1,hr⟩:=bind_some hr
 refine OkOps.q (triCl (tau []) (.tup [aS x1.1,aB x1.2]) [] (stringslite_CutPrefix_c _ _ hx1) rfl ⟨.inl rfl,.inl rfl,trivial⟩ trivial entry72 trivial) (OkOps.y (aS x1.1) (OkOps.y (aB x1.2) (OkOps.y (aS x1.1) (OkOps.y (aB x1.2) (OkOps.nil (Ok.ret ?_))))))
 obtain rfl:=Option.some.inj hr
 exact ⟨_,rfl,.inl rfl,trivial⟩
theorem slices_Index_Sl_string_string_c (p_s : (List Str)) (v : Str) {r : Int} (hr : slices_Index_Sl_string_string p_s v = some r) : Con Tryd.prog 47 [.c (.d (.sl (List.map eStr p_s))),aS v] [] (.s (aI r)) []:=by
 unfold slices_Index_Sl_string_string at hr
 refine Con.of_ok 19 0 [.tmp 4] [(0,.s (.c (.d (.sl (List.map eStr p_s))))),(1,.s (aS v))] Tryd.func47 rfl rfl rfl rfl rfl rfl rfl rfl fun w g M ρ _=>(Ok.seq (Ok.region (OkOps.y (aI 0) (OkOps.nil ?_))))
 obtain ⟨k2,hk2,hr⟩:=jn_some hr
 refine Ok.join (fun (s1 : Unit)=>⟨[],[],0⟩) k2 r (fun s1 hr=>?_) ?_
 rw [hk2] at hr
 refine Ok.seq (Ok.region (OkOps.y (aI (-1)) (OkOps.nil (Ok.ret ?_))))
 obtain rfl:=Option.some.inj hr
 exact ⟨_,rfl,.inl rfl,trivial⟩
 clear hk2
 refine Ok.seq (Ok.region (OkOps.y (.c (.d (.sl (List.map eStr p_s)))) (OkOps.q (triLen (enc:=eStr) p_s rfl rfl trivial rfl) (OkOps.y (aI 0) (OkOps.nil (Ok.block (Ok.loopK (fun (s3 : Int)=>⟨[(0,.s (.c (.d (.sl (List.map eStr p_s))))),(1,.s (aS v)),(7,.s (aI (p_s.length : Int))),(8,.s (aI s3))],[],0⟩) hr (Conv.mk (tau []) ⟨⟨_,rfl,.inl rfl⟩,⟨_,rfl,.inl rfl⟩,⟨_,rfl,.inl rfl⟩,⟨_,rfl,.inl rfl⟩,trivial⟩ trivial rfl rfl rfl rfl) ?_)))))))
 clear hr
 intro again4 s3 hr
 unfold slices_Index_Sl_string_string_L1 at hr
 refine Ok.seq (Ok.region (OkOps.y (aB (decide (s3 < (p_s.length : Int)))) (OkOps.nil (Ok.seq ?_))))
 refine Ok.cond (b:=decide (s3 < (p_s.length : Int))) rfl (fun h5=>?_) (fun h5=>?_)
 have hr:=selT h5 hr
 refine Ok.skip (Ok.seq (Ok.block (Ok.seq (Ok.region (OkOps.y (aI s3) (OkOps.y (aI s3) (OkOps.nil (Ok.seq (Ok.region (OkOps.y (aS v) (OkOps.y (.c (.d (.sl (List.map eStr p_s)))) (OkOps.y (aI s3) ?_))))))))))))
 obtain ⟨x6,hx6,hr⟩:=bind_some hr
 refine OkOps.q (triIdx (enc:=eStr) (L:=p_s) (row:=[dS x6]) hx6 rfl rfl rfl rfl (fun _=>rfl) trivial rfl) (OkOps.y (aS x6) (OkOps.y (aB (v.toList == x6.toList)) (OkOps.nil ?_)))
 refine Ok.cond (b:=v.toList == x6.toList) rfl (fun h7=>?_) (fun h7=>?_)
 have hr:=selT h7 hr
 refine Ok.seq (Ok.region (OkOps.y (aI s3) (OkOps.y (aI s3) (OkOps.nil (Ok.ret ?_)))))
 obtain rfl:=Option.some.inj hr
 exact ⟨_,rfl,.inl rfl,trivial⟩
 have hr:=selF h7 hr
 refine Ok.skip (Ok.region (OkOps.y (aI (IntKind.i64.wrap (s3 + 1))) (OkOps.y (aI (IntKind.i64.wrap (s3 + 1))) (OkOps.nil ?_))))
 exact ⟨IntKind.i64.wrap (s3 + 1),hr,(Conv.mk (tau []) ⟨⟨_,rfl,.inl rfl⟩,⟨_,rfl,.inl rfl⟩,⟨_,rfl,.inl rfl⟩,⟨_,rfl,.inl rfl⟩,trivial⟩ trivial rfl rfl rfl rfl)⟩
 have hr:=selF h5 hr
 refine Ok.exit ?_
 exact ⟨(),hr,(Conv.mk (tau []) trivial trivial rfl rfl rfl rfl)⟩
theorem sc_modifiers_c  {r : (List Str)} (hr : sc_modifiers  = some r) : Con Tryd.prog 45 [] [] (.s (.c (.d (.sl (List.map eStr r))))) []:=by
 unfold sc_modifiers at hr
 refine Con.of_ok 2 0 [.tmp 0] [] Tryd.func45 rfl rfl rfl rfl rfl rfl rfl rfl fun w g M ρ _=>(Ok.seq (Ok.region (OkOps.y (.c (.d (.v (.slice none 0 0)))) (OkOps.nil (Ok.seq (Ok.region (OkOps.m 0 (triBST (sz:=1) (enc:=eStr) (j:=0) ([(ByteArray.mk #[99,116,114,108]),(ByteArray.mk #[97,108,116]),(ByteArray.mk #[115,104,105,102,116]),(ByteArray.mk #[109,101,116,97])]) rfl rfl rfl rfl rfl rfl rfl rfl (fun _=>rfl) trivial rfl rfl) (OkOps.y (.c (.tl 0 (List.map eStr ([(ByteArray.mk #[99,116,114,108]),(ByteArray.mk #[97,108,116]),(ByteArray.mk #[115,104,105,102,116]),(ByteArray.mk #[109,101,116,97])])))) (OkOps.nil (Ok.ret ?_))))))))))
 obtain rfl:=Option.some.inj hr
 exact ⟨_,rfl,.inr rfl,trivial⟩
theorem sc_keys_c  {r : (List Str)} (hr : sc_keys  = some r) : Con Tryd.prog 48 [] [] (.s (.c (.d (.sl (List.map eStr r))))) []:=by
 unfold sc_keys at hr
 refine Con.of_ok 2 0 [.tmp 0] [] Tryd.func48 rfl rfl rfl rfl rfl rfl rfl rfl fun w g M ρ _=>(Ok.seq (Ok.region (OkOps.y (.c (.d (.v (.slice none 0 0)))) (OkOps.nil (Ok.seq (Ok.region (OkOps.m 0 (triBST (sz:=1) (enc:=eStr) (j:=0) ([(ByteArray.mk #[116,97,98]),(ByteArray.mk #[101,110,116,101,114]),(ByteArray.mk #[101,115,99,97,112,101]),(ByteArray.mk #[98,97,99,107,115,112,97,99,101]),(ByteArray.mk #[100,101,108,101,116,101]),(ByteArray.mk #[108,101,102,116]),(ByteArray.mk #[114,105,103,104,116]),(ByteArray.mk #[117,112]),(ByteArray.mk #[100,111,119,110]),(ByteArray.mk #[104,111,109,101]),(ByteArray.mk #[101,110,100]),(ByteArray.mk #[102,49]),(ByteArray.mk #[102,50]),(ByteArray.mk #[102,51]),(ByteArray.mk #[102,52]),(ByteArray.mk #[102,53]),(ByteArray.mk #[102,54]),(ByteArray.mk #[102,55]),(ByteArray.mk #[102,56]),(ByteArray.mk #[102,57]),(ByteArray.mk #[102,49,48]),(ByteArray.mk #[102,49,49]),(ByteArray.mk #[102,49,50])]) rfl rfl rfl rfl rfl rfl rfl rfl (fun _=>rfl) trivial rfl rfl) (OkOps.y (.c (.tl 0 (List.map eStr ([(ByteArray.mk #[116,97,98]),(ByteArray.mk #[101,110,116,101,114]),(ByteArray.mk #[101,115,99,97,112,101]),(ByteArray.mk #[98,97,99,107,115,112,97,99,101]),(ByteArray.mk #[100,101,108,101,116,101]),(ByteArray.mk #[108,101,102,116]),(ByteArray.mk #[114,105,103,104,116]),(ByteArray.mk #[117,112]),(ByteArray.mk #[100,111,119,110]),(ByteArray.mk #[104,111,109,101]),(ByteArray.mk #[101,110,100]),(ByteArray.mk #[102,49]),(ByteArray.mk #[102,50]),(ByteArray.mk #[102,51]),(ByteArray.mk #[102,52]),(ByteArray.mk #[102,53]),(ByteArray.mk #[102,54]),(ByteArray.mk #[102,55]),(ByteArray.mk #[102,56]),(ByteArray.mk #[102,57]),(ByteArray.mk #[102,49,48]),(ByteArray.mk #[102,49,49]),(ByteArray.mk #[102,49,50])])))) (OkOps.nil (Ok.ret ?_))))))))))
 obtain rfl:=Option.some.inj hr
 exact ⟨_,rfl,.inr rfl,trivial⟩
theorem sc_character_c (key : Int) {r : Bool} (hr : sc_character key = some r) : Con Tryd.prog 50 [aI key] [] (.s (aB r)) []:=by
 unfold sc_character at hr
 refine Con.of_ok 25 0 [.tmp 2] [(0,.s (aI key))] Tryd.func50 rfl rfl rfl rfl rfl rfl rfl rfl fun w g M ρ _=>(Ok.seq (Ok.region (OkOps.y (aB false) (OkOps.nil (Ok.seq (Ok.region (OkOps.y (aI key) (OkOps.y (aB (decide (key ≥ 32))) (OkOps.y (aB (decide (key ≥ 32))) (OkOps.q (triQG (x:=aI key) rfl rfl trivial rfl) (OkOps.q (triQG (x:=aB (decide (key ≤ 1114111))) rfl rfl ⟨fun h=>h,trivial⟩ rfl) (OkOps.q (triAnd rfl rfl (fun h=>h) rfl) (OkOps.y (aB ((decide (key ≥ 32)) && (decide (key ≤ 1114111)))) (OkOps.q (triQG (x:=aI key) rfl rfl trivial rfl) (OkOps.q (triQG (x:=aB (decide (key < 55296))) rfl rfl ⟨fun h=>h,trivial⟩ rfl) ?_)))))))))))))))
 refine OkOps.q (triQG (x:=aB (decide (key < 55296))) rfl rfl ⟨fun h=>h,trivial⟩ rfl) (OkOps.q (triQG (x:=aI key) rfl rfl trivial rfl) (OkOps.q (triQG (x:=aB (decide (key > 57343))) rfl rfl ⟨fun h=>h,trivial⟩ rfl) ?_))
 refine OkOps.q (triOrG rfl rfl rfl (fun h=>h) (fun h h2=>by rw [h,h2];rfl) rfl) ?_
 refine OkOps.q (triAnd rfl rfl (fun h=>h) rfl) (OkOps.y (aB (((decide (key ≥ 32)) && (decide (key ≤ 1114111))) && ((decide (key < 55296)) || (decide (key > 57343))))) (OkOps.q (triQG (x:=aI key) rfl rfl trivial rfl) (OkOps.q (triQG (x:=aB (decide (key < 65))) rfl rfl ⟨fun h=>h,trivial⟩ rfl) (OkOps.q (triQG (x:=aB (decide (key < 65))) rfl rfl ⟨fun h=>h,trivial⟩ rfl) (OkOps.q (triQG (x:=aI key) rfl rfl trivial rfl) (OkOps.q (triQG (x:=aB (decide (key > 90))) rfl rfl ⟨fun h=>h,trivial⟩ rfl) ?_))))))
 refine OkOps.q (triOrG rfl rfl rfl (fun h=>h) (fun h h2=>by rw [h,h2];rfl) rfl) ?_
 refine OkOps.q (triAnd rfl rfl (fun h=>h) rfl) (OkOps.y (aB ((((decide (key ≥ 32)) && (decide (key ≤ 1114111))) && ((decide (key < 55296)) || (decide (key > 57343)))) && ((decide (key < 65)) || (decide (key > 90))))) (OkOps.nil (Ok.ret ?_)))
 obtain rfl:=Option.some.inj hr
 exact ⟨_,rfl,.inl rfl,trivial⟩
theorem sc_chord_c (p_s : Str) {r : Chord × Bool} (hr : sc_chord p_s = some r) : Con Tryd.prog 25 [aS p_s] [] (.tup [.agg [cI r.1.Key,cI r.1.Mods],aB r.2]) []:=by
 unfold sc_chord at hr
 refine Con.of_ok 84 0 [.cell 2 34,.tmp 3] [(0,.s (aS p_s))] Tryd.func25 rfl rfl rfl rfl rfl rfl rfl rfl fun w g M ρ _=>(Ok.seq (Ok.region (OkOps.m 0 (triAlloc (j:=0) (cs:=[cI 0,cI 0]) rfl rfl rfl rfl) (OkOps.y (aB false) (OkOps.nil (Ok.seq (Ok.region (OkOps.m 0 (triAlloc (j:=1) (cs:=[cI 0,cI 0]) rfl rfl rfl rfl) (OkOps.nil ?_)))))))))
 obtain ⟨k2,hk2,hr⟩:=jn_some hr
 refine Ok.join (fun (s1 : Str × Int)=>⟨[(0,.s (aS s1.1)),(2,.s (.c (.loc 0 0))),(4,.s (.c (.loc 1 0)))],[(0,.blk [cI 0,cI 0] 34),(1,.blk [cI 0,cI s1.2] 34)],0⟩) k2 r (fun s1 hr=>?_) ?_
 rw [hk2] at hr
 refine Ok.seq (Ok.seq (Ok.region ?_))
 obtain ⟨x3,hx3,hr⟩:=bind_some hr
 refine OkOps.q (triCl (tau []) (.s (.c (.d (.sl (List.map eStr x3))))) [] (sc_keys_c  hx3) rfl trivial trivial entry48 trivial) (OkOps.y (aS s1.1) ?_)
 obtain ⟨x4,hx4,hr⟩:=bind_some hr
 refine OkOps.q (triCl (tau []) (.s (aI x4)) [] (slices_Index_Sl_string_string_c _ _ hx4) rfl ⟨.inl rfl,.inl rfl,trivial⟩ trivial entry47 trivial) (OkOps.y (aI x4) (OkOps.nil (Ok.seq (Ok.region (OkOps.y (aI x4) (OkOps.y (aB (decide (x4 ≥ 0))) (OkOps.nil ?_)))))))
 refine Ok.cond (b:=decide (x4 ≥ 0)) rfl (fun h5=>?_) (fun h5=>?_)
 have hr:=selT h5 hr
 refine Ok.seq (Ok.region (OkOps.y (aI x4) (OkOps.y (aI (IntKind.i64.wrap (1 + x4))) (OkOps.y (.c (.loc 1 0)) (OkOps.w (triStore (cs':=[cI (IntKind.i64.wrap (1 + x4)),cI s1.2]) rfl rfl rfl rfl rfl rfl rfl rfl rfl) (OkOps.nil (Ok.seq (Ok.region (OkOps.y (.agg [cI (IntKind.i64.wrap (1 + x4)),cI s1.2]) (OkOps.w (triStore (cs':=[cI (IntKind.i64.wrap (1 + x4)),cI s1.2]) rfl rfl rfl rfl rfl rfl rfl rfl rfl) (OkOps.y (aB true) (OkOps.nil (Ok.ret ?_)))))))))))))
 obtain rfl:=Option.some.inj hr
 exact ⟨_,rfl,.inl rfl,trivial⟩
 have hr:=selF h5 hr
 refine Ok.skip (Ok.seq (Ok.seq (Ok.region (OkOps.y (aS s1.1) (OkOps.y (aB (s1.1.toList == (ByteArray.mk #[115,112,97,99,101]).toList)) (OkOps.nil ?_))))))
 refine Ok.cond (b:=s1.1.toList == (ByteArray.mk #[115,112,97,99,101]).toList) rfl (fun h6=>?_) (fun h6=>?_)
 have hr:=selT h6 hr
 refine Ok.seq (Ok.region (OkOps.y (.c (.loc 1 0)) (OkOps.w (triStore (cs':=[cI 32,cI s1.2]) rfl rfl rfl rfl rfl rfl rfl rfl rfl) (OkOps.nil (Ok.seq (Ok.region (OkOps.y (.agg [cI 32,cI s1.2]) (OkOps.w (triStore (cs':=[cI 32,cI s1.2]) rfl rfl rfl rfl rfl rfl rfl rfl rfl) (OkOps.y (aB true) (OkOps.nil (Ok.ret ?_)))))))))))
 obtain rfl:=Option.some.inj hr
 exact ⟨_,rfl,.inl rfl,trivial⟩
 have hr:=selF h6 hr
 refine Ok.skip (Ok.seq (Ok.region (OkOps.y (aS s1.1) ?_)))
 obtain ⟨x7,hx7,hr⟩:=bind_some hr
 refine OkOps.q (triCl (tau []) (.tup [.c (.d (.v (.int .i32 x7.1))),aI x7.2]) [] (unicode_utf8_DecodeRuneInString_c _ hx7) rfl ⟨.inl rfl,trivial⟩ trivial entry49 trivial) (OkOps.q (triMv (v:=.tup [.c (.d (.v (.int .i32 x7.1))),aI x7.2]) rfl rfl) (OkOps.y (.c (.d (.v (.int .i32 x7.1)))) (OkOps.y (aI x7.2) (OkOps.y (.c (.d (.v (.int .i32 x7.1)))) (OkOps.y (aI x7.2) (OkOps.nil (Ok.seq (Ok.seq (Ok.region (OkOps.y (aI x7.2) (OkOps.y (aS s1.1) (OkOps.y (aI (s1.1.size : Int)) (OkOps.y (aB (x7.2 != (s1.1.size : Int))) (OkOps.y (aB (x7.2 != (s1.1.size : Int))) (OkOps.q (triQG (x:=aI x7.2) rfl rfl trivial rfl) ?_)))))))))))))))
 refine OkOps.q (triQG (x:=aB (x7.2 == 0)) rfl rfl ⟨fun h=>h,trivial⟩ rfl) ?_
 refine OkOps.q (triOr rfl rfl (fun h=>by rw [h];rfl) rfl) ?_
 refine OkOps.y (aB ((x7.2 != (s1.1.size : Int)) || (x7.2 == 0))) (OkOps.q (triQG (x:=.c (.d (.v (.int .i32 x7.1)))) rfl rfl trivial rfl) (OkOps.q (triQG (x:=aB (x7.1 == 65533)) rfl rfl ⟨fun h=>h,trivial⟩ rfl) (OkOps.q (triQG (x:=aB (x7.1 == 65533)) rfl rfl ⟨fun h=>h,trivial⟩ rfl) (OkOps.q (triQG (x:=aI x7.2) rfl rfl trivial rfl) (OkOps.q (triQG (x:=aB (x7.2 == 1)) rfl rfl ⟨fun h=>h,trivial⟩ rfl) ?_)))))
 refine OkOps.q (triAndG rfl rfl rfl (fun h=>h) (fun h h2=>by rw [h,h2];rfl) rfl) ?_
 refine OkOps.q (triOr rfl rfl (fun h=>by rw [h];rfl) rfl) ?_
 refine OkOps.y (aB (((x7.2 != (s1.1.size : Int)) || (x7.2 == 0)) || ((x7.1 == 65533) && (x7.2 == 1)))) (OkOps.q (triQG (x:=.c (.d (.v (.int .i32 x7.1)))) rfl rfl trivial rfl) (OkOps.q (triQG (x:=aB (x7.1 == 32)) rfl rfl ⟨fun h=>h,trivial⟩ rfl) ?_))
 refine OkOps.q (triOr rfl rfl (fun h=>by rw [h];rfl) rfl) ?_
 refine OkOps.y (aB ((((x7.2 != (s1.1.size : Int)) || (x7.2 == 0)) || ((x7.1 == 65533) && (x7.2 == 1))) || (x7.1 == 32))) (OkOps.q (triQG (x:=.c (.d (.v (.int .i32 x7.1)))) rfl rfl trivial rfl) (OkOps.q (triQG (x:=aI (IntKind.i64.wrap x7.1)) rfl rfl ⟨fun h=>h,trivial⟩ rfl) ?_))
 obtain ⟨x8,hx8,hr⟩:=bind_some hr
 refine OkOps.q (triCallG (x:=aB x8) (fun hg=>sc_character_c _ (gO_t hx8 hg)) rfl rfl ⟨.inl rfl,trivial⟩ ⟨fun h=>h,trivial⟩ entry50 rfl rfl rfl) (OkOps.q (triQG (x:=aB (!x8)) rfl rfl ⟨fun h=>h,trivial⟩ rfl) ?_)
 refine OkOps.q (triOr rfl rfl (fun h=>by rw [h];rfl) rfl) ?_
 refine OkOps.nil ?_
 refine Ok.cond (b:=((((x7.2 != (s1.1.size : Int)) || (x7.2 == 0)) || ((x7.1 == 65533) && (x7.2 == 1))) || (x7.1 == 32)) || (!x8)) rfl (fun h9=>?_) (fun h9=>?_)
 have hr:=selT h9 hr
 refine Ok.seq (Ok.region (OkOps.y (.agg [cI 0,cI 0]) (OkOps.w (triStore (cs':=[cI 0,cI 0]) rfl rfl rfl rfl rfl rfl rfl rfl rfl) (OkOps.y (aB false) (OkOps.nil (Ok.ret ?_))))))
 obtain rfl:=Option.some.inj hr
 exact ⟨_,rfl,.inl rfl,trivial⟩
 have hr:=selF h9 hr
 refine Ok.skip (Ok.seq (Ok.region (OkOps.y (.c (.d (.v (.int .i32 x7.1)))) (OkOps.y (aI (IntKind.i64.wrap x7.1)) (OkOps.y (.c (.loc 1 0)) (OkOps.w (triStore (cs':=[cI (IntKind.i64.wrap x7.1),cI s1.2]) rfl rfl rfl rfl rfl rfl rfl rfl rfl) (OkOps.nil (Ok.seq (Ok.region (OkOps.y (.agg [cI (IntKind.i64.wrap x7.1),cI s1.2]) (OkOps.w (triStore (cs':=[cI (IntKind.i64.wrap x7.1),cI s1.2]) rfl rfl rfl rfl rfl rfl rfl rfl rfl) (OkOps.y (aB true) (OkOps.nil (Ok.ret ?_))))))))))))))
 obtain rfl:=Option.some.inj hr
 exact ⟨_,rfl,.inl rfl,trivial⟩
 clear hk2
 refine Ok.seq (Ok.region ?_)
 obtain ⟨x10,hx10,hr⟩:=bind_some hr
 refine OkOps.q (triCl (tau []) (.s (.c (.d (.sl (List.map eStr x10))))) [] (sc_modifiers_c  hx10) rfl trivial trivial entry45 trivial) (OkOps.q (triLen (enc:=eStr) x10 rfl rfl trivial rfl) (OkOps.y (aI 0) (OkOps.nil (Ok.block (Ok.loopK (fun (s11 : Str × Int × Int)=>⟨[(0,.s (aS s11.1)),(2,.s (.c (.loc 0 0))),(4,.s (.c (.loc 1 0))),(12,.s (.c (.d (.sl (List.map eStr x10))))),(13,.s (aI (x10.length : Int))),(14,.s (aI s11.2.1))],[(0,.blk [cI 0,cI 0] 34),(1,.blk [cI 0,cI s11.2.2] 34)],0⟩) hr (Conv.mk (tau []) ⟨⟨_,rfl,.inl rfl⟩,⟨_,rfl,.inl rfl⟩,⟨_,rfl,.inl rfl⟩,⟨_,rfl,.inl rfl⟩,⟨_,rfl,.inl rfl⟩,⟨_,rfl,.inl rfl⟩,trivial⟩ ⟨rfl,rfl,trivial⟩ rfl rfl rfl rfl) ?_)))))
 clear hr
 intro again12 s11 hr
 unfold sc_chord_L1 at hr
 refine Ok.seq (Ok.region (OkOps.y (aB (decide (s11.2.1 < (x10.length : Int)))) (OkOps.nil (Ok.seq ?_))))
 refine Ok.cond (b:=decide (s11.2.1 < (x10.length : Int))) rfl (fun h13=>?_) (fun h13=>?_)
 have hr:=selT h13 hr
 refine Ok.skip ?_
 obtain ⟨k15,hk15,hr⟩:=jn_some hr
 refine Ok.join (fun (s14 : Str × Int)=>⟨[(0,.s (aS s14.1)),(2,.s (.c (.loc 0 0))),(4,.s (.c (.loc 1 0))),(12,.s (.c (.d (.sl (List.map eStr x10))))),(13,.s (aI (x10.length : Int))),(14,.s (aI s11.2.1))],[(0,.blk [cI 0,cI 0] 34),(1,.blk [cI 0,cI s14.2] 34)],0⟩) k15 r (fun s14 hr=>?_) ?_
 rw [hk15] at hr
 refine Ok.region (OkOps.y (aI (IntKind.i64.wrap (s11.2.1 + 1))) (OkOps.y (aI (IntKind.i64.wrap (s11.2.1 + 1))) (OkOps.nil ?_)))
 exact ⟨(s14.1,IntKind.i64.wrap (s11.2.1 + 1),s14.2),hr,(Conv.mk (tau []) ⟨⟨_,rfl,.inl rfl⟩,⟨_,rfl,.inl rfl⟩,⟨_,rfl,.inl rfl⟩,⟨_,rfl,.inl rfl⟩,⟨_,rfl,.inl rfl⟩,⟨_,rfl,.inl rfl⟩,trivial⟩ ⟨rfl,rfl,trivial⟩ rfl rfl rfl rfl)⟩
 clear hk15
 refine Ok.block (Ok.seq (Ok.region (OkOps.y (aI s11.2.1) ?_)))
 obtain ⟨x16,hx16,hr⟩:=bind_some hr
 refine OkOps.q (triIdx (enc:=eStr) (L:=x10) (row:=[dS x16]) hx16 rfl rfl rfl rfl (fun _=>rfl) trivial rfl) (OkOps.y (aS x16) (OkOps.y (aI s11.2.1) (OkOps.y (aS x16) (OkOps.nil (Ok.seq (Ok.region (OkOps.y (aS s11.1) (OkOps.y (aS x16) ?_))))))))
 obtain ⟨x17,hx17,hr⟩:=bind_some hr
 refine OkOps.q (triCat hx17 rfl rfl trivial rfl) ?_
 obtain ⟨x18,hx18,hr⟩:=bind_some hr
 refine OkOps.q (triCl (tau []) (.tup [aS x18.1,aB x18.2]) [] (strings_CutPrefix_c _ _ hx18) rfl ⟨.inl rfl,.inl rfl,trivial⟩ trivial entry46 trivial) (OkOps.q (triMv (v:=.tup [aS x18.1,aB x18.2]) rfl rfl) (OkOps.y (aS x18.1) (OkOps.y (aB x18.2) (OkOps.y (aS x18.1) (OkOps.y (aB x18.2) (OkOps.nil (Ok.seq (Ok.region (OkOps.y (aB x18.2) (OkOps.nil ?_))))))))))
 refine Ok.cond (b:=x18.2) rfl (fun h19=>?_) (fun h19=>?_)
 have hr:=selT h19 hr
 refine Ok.seq (Ok.region (OkOps.y (aS x18.1) (OkOps.y (aS x18.1) (OkOps.nil (Ok.regionD (by kernel_rfl) (OkD.x (.c (.loc 1 1)) rfl trivial rfl (OkD.x (aI s11.2.2) rfl trivial rfl (OkD.x (aI s11.2.1) rfl trivial rfl ?_))))))))
 obtain ⟨x20,hx20,hr⟩:=bind_some hr
 refine OkD.q (triShl hx20 rfl rfl trivial rfl) (OkD.x (aI (bOr .i64 s11.2.2 x20)) rfl trivial rfl (OkD.x (.c (.loc 1 1)) rfl trivial rfl (OkD.w (triStore (cs':=[cI 0,cI (bOr .i64 s11.2.2 x20)]) rfl rfl rfl rfl rfl rfl rfl rfl rfl) (OkD.nil (by kernel_rfl) ?_))))
 exact ⟨(x18.1,bOr .i64 s11.2.2 x20),hr,(Conv.mk (tau []) ⟨⟨_,rfl,.inl rfl⟩,⟨_,rfl,.inl rfl⟩,⟨_,rfl,.inl rfl⟩,⟨_,rfl,.inl rfl⟩,⟨_,rfl,.inl rfl⟩,⟨_,rfl,.inl rfl⟩,trivial⟩ ⟨rfl,rfl,trivial⟩ rfl rfl rfl rfl)⟩
 have hr:=selF h19 hr
 refine Ok.skip ?_
 exact ⟨(s11.1,s11.2.2),hr,(Conv.mk (tau []) ⟨⟨_,rfl,.inl rfl⟩,⟨_,rfl,.inl rfl⟩,⟨_,rfl,.inl rfl⟩,⟨_,rfl,.inl rfl⟩,⟨_,rfl,.inl rfl⟩,⟨_,rfl,.inl rfl⟩,trivial⟩ ⟨rfl,rfl,trivial⟩ rfl rfl rfl rfl)⟩
 have hr:=selF h13 hr
 refine Ok.exit ?_
 exact ⟨(s11.1,s11.2.2),hr,(Conv.mk (tau []) ⟨⟨_,rfl,.inl rfl⟩,⟨_,rfl,.inl rfl⟩,⟨_,rfl,.inl rfl⟩,trivial⟩ ⟨rfl,rfl,trivial⟩ rfl rfl rfl rfl)⟩
theorem sc_Parse_c (p_s : Str) {r : (List Chord) × Int} (hr : sc_Parse p_s = some r) : Con Tryd.prog 9 [aS p_s] [] (.tup [.c (.d (.sl (List.map Chord.cs r.1))),aI r.2]) []:=by
 unfold sc_Parse at hr
 refine Con.of_ok 35 0 [.tmp 2,.tmp 3] [(0,.s (aS p_s))] Tryd.func9 rfl rfl rfl rfl rfl rfl rfl rfl fun w g M ρ _=>(Ok.seq (Ok.region (OkOps.y (.c (.d (.v (.slice none 0 0)))) (OkOps.y (aI 0) (OkOps.nil (Ok.seq (Ok.seq (Ok.region (OkOps.y (aS p_s) (OkOps.y (aI (p_s.size : Int)) (OkOps.y (aB (decide ((p_s.size : Int) > 100))) (OkOps.nil ?_))))))))))))
 refine Ok.cond (b:=decide ((p_s.size : Int) > 100)) rfl (fun h1=>?_) (fun h1=>?_)
 have hr:=selT h1 hr
 refine Ok.seq (Ok.region (OkOps.y (.c (.d (.v (.slice none 0 0)))) (OkOps.y (aI 2) (OkOps.nil (Ok.ret ?_)))))
 obtain rfl:=Option.some.inj hr
 exact ⟨_,rfl,.inr rfl,trivial⟩
 have hr:=selF h1 hr
 refine Ok.skip (Ok.seq (Ok.region (OkOps.y (.c (.d (.v (.slice none 0 0)))) (OkOps.nil ?_))))
 obtain ⟨k3,hk3,hr⟩:=jn_some hr
 refine Ok.join (fun (s2 : (List Chord))=>⟨[(4,.s (.c (.tl 1004 (List.map Chord.cs s2))))],[(1004,.tail 2)],0⟩) k3 r (fun s2 hr=>?_) ?_
 rw [hk3] at hr
 refine Ok.seq (Ok.seq (Ok.region (OkOps.y (.c (.tl 1004 (List.map Chord.cs s2))) (OkOps.q (triLen (enc:=Chord.cs) s2 rfl rfl trivial rfl) (OkOps.y (aB (decide ((s2.length : Int) > 3))) (OkOps.nil ?_))))))
 refine Ok.cond (b:=decide ((s2.length : Int) > 3)) rfl (fun h4=>?_) (fun h4=>?_)
 have hr:=selT h4 hr
 refine Ok.seq (Ok.region (OkOps.y (.c (.d (.v (.slice none 0 0)))) (OkOps.y (aI 2) (OkOps.nil (Ok.ret ?_)))))
 obtain rfl:=Option.some.inj hr
 exact ⟨_,rfl,.inr rfl,trivial⟩
 have hr:=selF h4 hr
 refine Ok.skip (Ok.seq (Ok.region (OkOps.y (.c (.tl 1004 (List.map Chord.cs s2))) (OkOps.y (.c (.tl 1004 (List.map Chord.cs s2))) (OkOps.y (aI 0) (OkOps.nil (Ok.ret ?_)))))))
 obtain rfl:=Option.some.inj hr
 exact ⟨_,rfl,.inr rfl,trivial⟩
 clear hk3
 refine Ok.seq (Ok.region (OkOps.y (aS p_s) ?_))
 obtain ⟨x5,hx5,hr⟩:=bind_some hr
 refine OkOps.q (triCl (tau []) (.s (.c (.d (.sl (List.map eStr x5))))) [] (strings_Split_c _ _ hx5) rfl ⟨.inl rfl,.inl rfl,trivial⟩ trivial entry24 trivial) (OkOps.q (triLen (enc:=eStr) x5 rfl rfl trivial rfl) (OkOps.y (aI 0) (OkOps.nil (Ok.block (Ok.loopK (fun (s6 : (List Chord) × Int)=>⟨[(4,.s (.c (.tl 1007 (List.map Chord.cs s6.1)))),(13,.s (.c (.d (.sl (List.map eStr x5))))),(14,.s (aI (x5.length : Int))),(15,.s (aI s6.2))],[(1007,.tail 2)],0⟩) hr (Conv.trans (Conv.nil 4 1009 2 0 rfl rfl) (Conv.mk (tau [(1007,1009)]) ⟨⟨_,rfl,.inl rfl⟩,⟨_,rfl,.inl rfl⟩,⟨_,rfl,.inl rfl⟩,⟨_,rfl,.inl rfl⟩,trivial⟩ ⟨rfl,trivial⟩ rfl rfl rfl rfl)) ?_)))))
 clear hr
 intro again7 s6 hr
 unfold sc_Parse_L1 at hr
 refine Ok.seq (Ok.region (OkOps.y (aB (decide (s6.2 < (x5.length : Int)))) (OkOps.nil (Ok.seq ?_))))
 refine Ok.cond (b:=decide (s6.2 < (x5.length : Int))) rfl (fun h8=>?_) (fun h8=>?_)
 have hr:=selT h8 hr
 refine Ok.skip (Ok.seq (Ok.block (Ok.seq (Ok.region ?_))))
 obtain ⟨x9,hx9,hr⟩:=bind_some hr
 refine OkOps.q (triIdx (enc:=eStr) (L:=x5) (row:=[dS x9]) hx9 rfl rfl rfl rfl (fun _=>rfl) trivial rfl) (OkOps.y (aS x9) (OkOps.y (aS x9) (OkOps.nil (Ok.seq (Ok.region (OkOps.y (aS x9) ?_))))))
 obtain ⟨x10,hx10,hr⟩:=bind_some hr
 refine OkOps.q (triCl (tau []) (.tup [.agg [cI x10.1.Key,cI x10.1.Mods],aB x10.2]) [] (sc_chord_c _ hx10) rfl ⟨.inl rfl,trivial⟩ trivial entry25 trivial) (OkOps.q (triMv (v:=.tup [.agg [cI x10.1.Key,cI x10.1.Mods],aB x10.2]) rfl rfl) (OkOps.y (.agg [cI x10.1.Key,cI x10.1.Mods]) (OkOps.y (aB x10.2) (OkOps.m 0 (triAlloc (j:=0) (cs:=[cI 0,cI 0]) rfl rfl rfl rfl) (OkOps.w (triStore (cs':=[cI x10.1.Key,cI x10.1.Mods]) rfl rfl rfl rfl rfl rfl rfl rfl rfl) (OkOps.y (aB x10.2) (OkOps.nil (Ok.seq (Ok.seq (Ok.region (OkOps.y (aB x10.2) (OkOps.y (aB (!x10.2)) (OkOps.nil ?_)))))))))))))
 refine Ok.cond (b:=!x10.2) rfl (fun h11=>?_) (fun h11=>?_)
 have hr:=selT h11 hr
 refine Ok.seq (Ok.region (OkOps.y (.c (.d (.v (.slice none 0 0)))) (OkOps.y (aI 3) (OkOps.nil (Ok.ret ?_)))))
 obtain rfl:=Option.some.inj hr
 exact ⟨_,rfl,.inr rfl,trivial⟩
 have hr:=selF h11 hr
 refine Ok.skip (Ok.region (OkOps.y (.c (.tl 1007 (List.map Chord.cs s6.1))) (OkOps.y (.agg [cI x10.1.Key,cI x10.1.Mods]) (OkOps.m 0 (triBST (sz:=2) (enc:=Chord.cs) (j:=1) ([x10.1]) rfl rfl rfl rfl rfl rfl rfl rfl (fun _=>rfl) trivial rfl rfl) ?_))))
 obtain ⟨x12,hx12,hr⟩:=bind_some hr
 refine OkOps.m2 0 (triApp (enc:=Chord.cs) (L:=s6.1) (X:=[x10.1]) (j:=1007) (j':=2) hx12 rfl rfl rfl rfl rfl rfl (fun _=>rfl) (fun _=>rfl) (by decide) trivial rfl rfl) (OkOps.y (.c (.tl 2 (List.map Chord.cs x12))) (OkOps.nil (Ok.region (OkOps.y (aI (IntKind.i64.wrap (s6.2 + 1))) (OkOps.y (aI (IntKind.i64.wrap (s6.2 + 1))) (OkOps.nil ?_))))))
 exact ⟨(x12,IntKind.i64.wrap (s6.2 + 1)),hr,(Conv.mk (tau [(1007,2)]) ⟨⟨_,rfl,.inl rfl⟩,⟨_,rfl,.inl rfl⟩,⟨_,rfl,.inl rfl⟩,⟨_,rfl,.inl rfl⟩,trivial⟩ ⟨rfl,trivial⟩ rfl rfl rfl rfl)⟩
 have hr:=selF h8 hr
 refine Ok.exit ?_
 exact ⟨s6.1,hr,(Conv.mk (tau [(1004,1007)]) ⟨⟨_,rfl,.inl rfl⟩,trivial⟩ ⟨rfl,trivial⟩ rfl rfl rfl rfl)⟩
theorem l32_same_c (a : (List Chord)) (b : (List Chord)) {r : Bool} (hr : l32_same a b = some r) : Con Tryd.prog 11 [.c (.d (.sl (List.map Chord.cs a))),.c (.d (.sl (List.map Chord.cs b)))] [] (.s (aB r)) []:=by
 unfold l32_same at hr
 refine Con.of_ok 26 0 [.tmp 4] [(0,.s (.c (.d (.sl (List.map Chord.cs a))))),(1,.s (.c (.d (.sl (List.map Chord.cs b)))))] Tryd.func11 rfl rfl rfl rfl rfl rfl rfl rfl fun w g M ρ _=>(Ok.seq (Ok.region (OkOps.y (aB false) (OkOps.nil (Ok.seq (Ok.seq (Ok.region (OkOps.y (.c (.d (.sl (List.map Chord.cs a)))) (OkOps.q (triLen (enc:=Chord.cs) a rfl rfl trivial rfl) (OkOps.y (.c (.d (.sl (List.map Chord.cs b)))) (OkOps.q (triLen (enc:=Chord.cs) b rfl rfl trivial rfl) (OkOps.y (aB ((a.length : Int) != (b.length : Int))) (OkOps.nil ?_)))))))))))))
 refine Ok.cond (b:=(a.length : Int) != (b.length : Int)) rfl (fun h1=>?_) (fun h1=>?_)
 have hr:=selT h1 hr
 refine Ok.seq (Ok.region (OkOps.y (aB false) (OkOps.nil (Ok.ret ?_))))
 obtain rfl:=Option.some.inj hr
 exact ⟨_,rfl,.inl rfl,trivial⟩
 have hr:=selF h1 hr
 refine Ok.skip ?_
 obtain ⟨k3,hk3,hr⟩:=jn_some hr
 refine Ok.join (fun (s2 : Unit)=>⟨[],[],0⟩) k3 r (fun s2 hr=>?_) ?_
 rw [hk3] at hr
 refine Ok.seq (Ok.region (OkOps.y (aB true) (OkOps.nil (Ok.ret ?_))))
 obtain rfl:=Option.some.inj hr
 exact ⟨_,rfl,.inl rfl,trivial⟩
 clear hk3
 refine Ok.seq (Ok.region (OkOps.y (aI 0) (OkOps.nil (Ok.block (Ok.loopK (fun (s4 : Int)=>⟨[(0,.s (.c (.d (.sl (List.map Chord.cs a))))),(1,.s (.c (.d (.sl (List.map Chord.cs b))))),(5,.s (aI s4))],[],0⟩) hr (Conv.mk (tau []) ⟨⟨_,rfl,.inl rfl⟩,⟨_,rfl,.inl rfl⟩,⟨_,rfl,.inl rfl⟩,trivial⟩ trivial rfl rfl rfl rfl) ?_)))))
 clear hr
 intro again5 s4 hr
 unfold l32_same_L1 at hr
 refine Ok.seq (Ok.seq (Ok.region (OkOps.y (aI s4) (OkOps.y (.c (.d (.sl (List.map Chord.cs a)))) (OkOps.q (triLen (enc:=Chord.cs) a rfl rfl trivial rfl) (OkOps.y (aB (decide (s4 < (a.length : Int)))) (OkOps.nil ?_)))))))
 refine Ok.cond (b:=decide (s4 < (a.length : Int))) rfl (fun h6=>?_) (fun h6=>?_)
 have hr:=selT h6 hr
 refine Ok.skip (Ok.seq (Ok.block (Ok.seq (Ok.regionD (by kernel_rfl) (OkD.x (.c (.d (.sl (List.map Chord.cs a)))) rfl trivial rfl (OkD.x (aI s4) rfl trivial rfl ?_))))))
 obtain ⟨x7,hx7,hr⟩:=bind_some hr
 refine OkD.q (triIdx (enc:=Chord.cs) (L:=a) (row:=[dI x7.Key,dI x7.Mods]) hx7 rfl rfl rfl rfl (fun _=>rfl) trivial rfl) (OkD.x (.agg [cI x7.Key,cI x7.Mods]) rfl trivial rfl (OkD.x (.c (.d (.sl (List.map Chord.cs b)))) rfl trivial rfl (OkD.x (aI s4) rfl trivial rfl ?_)))
 obtain ⟨x8,hx8,hr⟩:=bind_some hr
 refine OkD.q (triIdx (enc:=Chord.cs) (L:=b) (row:=[dI x8.Key,dI x8.Mods]) hx8 rfl rfl rfl rfl (fun _=>rfl) trivial rfl) (OkD.x (.agg [cI x8.Key,cI x8.Mods]) rfl trivial rfl (OkD.q (triNeS (b:=((x7.Key == x8.Key) && (x7.Mods == x8.Mods))) rfl rfl eqok34 rfl trivial rfl) (OkD.nil (by kernel_rfl) ?_)))
 refine Ok.cond (b:=!((x7.Key == x8.Key) && (x7.Mods == x8.Mods))) rfl (fun h9=>?_) (fun h9=>?_)
 have hr:=selT h9 hr
 refine Ok.seq (Ok.region (OkOps.y (aB false) (OkOps.nil (Ok.ret ?_))))
 obtain rfl:=Option.some.inj hr
 exact ⟨_,rfl,.inl rfl,trivial⟩
 have hr:=selF h9 hr
 refine Ok.skip (Ok.region (OkOps.y (aI s4) (OkOps.y (aI (IntKind.i64.wrap (s4 + 1))) (OkOps.y (aI (IntKind.i64.wrap (s4 + 1))) (OkOps.nil ?_)))))
 exact ⟨IntKind.i64.wrap (s4 + 1),hr,(Conv.mk (tau []) ⟨⟨_,rfl,.inl rfl⟩,⟨_,rfl,.inl rfl⟩,⟨_,rfl,.inl rfl⟩,trivial⟩ trivial rfl rfl rfl rfl)⟩
 have hr:=selF h6 hr
 refine Ok.exit ?_
 exact ⟨(),hr,(Conv.mk (tau []) trivial trivial rfl rfl rfl rfl)⟩
theorem l32_awake_c  {r : Bool} (hr : l32_awake  = some r) : Con Tryd.prog 16 [] [] (.s (aB r)) []:=by
 unfold l32_awake at hr
 refine Con.of_ok 50 0 [.tmp 0] [] Tryd.func16 rfl rfl rfl rfl rfl rfl rfl rfl fun w g M ρ _=>(Ok.seq (Ok.region (OkOps.y (aB false) (OkOps.nil (Ok.seq (Ok.region ?_))))))
 obtain ⟨x1,hx1,hr⟩:=bind_some hr
 refine OkOps.q (triCl (tau []) (.tup [.c (.d (.sl (List.map Chord.cs x1.1))),aI x1.2]) [] (sc_Parse_c _ hx1) rfl ⟨.inl rfl,trivial⟩ trivial entry9 trivial) (OkOps.q (triMv (v:=.tup [.c (.d (.sl (List.map Chord.cs x1.1))),aI x1.2]) rfl rfl) (OkOps.y (.c (.d (.sl (List.map Chord.cs x1.1)))) (OkOps.y (aI x1.2) (OkOps.y (.c (.d (.sl (List.map Chord.cs x1.1)))) (OkOps.y (aI x1.2) (OkOps.nil (Ok.seq (Ok.region (OkOps.m 0 (triBST (sz:=1) (enc:=eStr) (j:=0) ([(ByteArray.mk #[83,97,118,101]),(ByteArray.mk #[83,97,118,101,32,97,115]),(ByteArray.mk #[83,117,109])]) rfl rfl rfl rfl rfl rfl rfl rfl (fun _=>rfl) trivial rfl rfl) ?_)))))))))
 obtain ⟨x2,hx2,hr⟩:=bind_some hr
 refine OkOps.q (triCl (tau []) (.tup [.c (.d (.sl (List.map (eInt .i64) x2.1))),aI x2.2]) [] (sc_Mnemonics_c _ hx2) rfl ⟨.inr rfl,trivial⟩ trivial entry18 trivial) (OkOps.q (triMv (v:=.tup [.c (.d (.sl (List.map (eInt .i64) x2.1))),aI x2.2]) rfl rfl) (OkOps.y (.c (.d (.sl (List.map (eInt .i64) x2.1)))) (OkOps.y (aI x2.2) (OkOps.y (.c (.d (.sl (List.map (eInt .i64) x2.1)))) (OkOps.y (aI x2.2) (OkOps.nil (Ok.seq (Ok.region (OkOps.y (aI x1.2) (OkOps.y (aB (x1.2 == 0)) (OkOps.y (aB (x1.2 == 0)) (OkOps.q (triQG (x:=aI x2.2) rfl rfl trivial rfl) (OkOps.q (triQG (x:=aB (x2.2 == 0)) rfl rfl ⟨fun h=>h,trivial⟩ rfl) (OkOps.q (triAnd rfl rfl (fun h=>h) rfl) (OkOps.y (aB ((x1.2 == 0) && (x2.2 == 0))) ?_)))))))))))))))
 refine OkOps.q (triQG (x:=.c (.d (.sl (List.map Chord.cs x1.1)))) rfl rfl trivial rfl) (OkOps.q (triQG (x:=.agg [cI 107,cI 1]) rfl rfl trivial rfl) (OkOps.q (triQG (x:=.agg [cI 99,cI 5]) rfl rfl trivial rfl) (OkOps.q (triBSG (enc:=Chord.cs) ([(Chord.mk 107 1),(Chord.mk 99 5)]) rfl rfl rfl rfl rfl rfl rfl rfl rfl (fun _=>rfl) ⟨fun h=>h,⟨fun h=>h,trivial⟩⟩ rfl) ?_)))
 obtain ⟨x3,hx3,hr⟩:=bind_some hr
 refine OkOps.q (triCallG (x:=aB x3) (fun hg=>l32_same_c _ _ (gO_t hx3 hg)) rfl rfl ⟨.inl rfl,.inl rfl,trivial⟩ ⟨fun h=>h,⟨fun h=>h,trivial⟩⟩ entry11 rfl rfl rfl) (OkOps.q (triAnd rfl rfl (fun h=>h) rfl) (OkOps.y (aB (((x1.2 == 0) && (x2.2 == 0)) && x3)) (OkOps.q (triQG (x:=.c (.d (.sl (List.map (eInt .i64) x2.1)))) rfl rfl trivial rfl) (OkOps.q (triLenG (enc:=(eInt .i64)) x2.1 rfl rfl rfl ⟨fun h=>h,trivial⟩ rfl) (OkOps.q (triQG (x:=aB ((x2.1.length : Int) == 3)) rfl rfl ⟨fun h=>h,trivial⟩ rfl) (OkOps.q (triAnd rfl rfl (fun h=>h) rfl) (OkOps.y (aB ((((x1.2 == 0) && (x2.2 == 0)) && x3) && ((x2.1.length : Int) == 3))) (OkOps.q (triQG (x:=.c (.d (.sl (List.map (eInt .i64) x2.1)))) rfl rfl trivial rfl) ?_))))))))
 obtain ⟨x4,hx4,hr⟩:=bind_some hr
 refine OkOps.q (triIdxG (enc:=(eInt .i64)) (L:=x2.1) (row:=[dI x4]) (gO_t hx4) rfl rfl rfl rfl rfl (fun _=>rfl) ⟨fun h=>h,trivial⟩ rfl) (OkOps.q (triQG (x:=aI x4) rfl rfl ⟨fun h=>h,trivial⟩ rfl) (OkOps.q (triQG (x:=aB (x4 == 0)) rfl rfl ⟨fun h=>h,trivial⟩ rfl) (OkOps.q (triAnd rfl rfl (fun h=>h) rfl) (OkOps.y (aB (((((x1.2 == 0) && (x2.2 == 0)) && x3) && ((x2.1.length : Int) == 3)) && (x4 == 0))) (OkOps.q (triQG (x:=.c (.d (.sl (List.map (eInt .i64) x2.1)))) rfl rfl trivial rfl) ?_)))))
 obtain ⟨x5,hx5,hr⟩:=bind_some hr
 refine OkOps.q (triIdxG (enc:=(eInt .i64)) (L:=x2.1) (row:=[dI x5]) (gO_t hx5) rfl rfl rfl rfl rfl (fun _=>rfl) ⟨fun h=>h,trivial⟩ rfl) (OkOps.q (triQG (x:=aI x5) rfl rfl ⟨fun h=>h,trivial⟩ rfl) (OkOps.q (triQG (x:=aB (x5 == 1)) rfl rfl ⟨fun h=>h,trivial⟩ rfl) (OkOps.q (triAnd rfl rfl (fun h=>h) rfl) (OkOps.y (aB ((((((x1.2 == 0) && (x2.2 == 0)) && x3) && ((x2.1.length : Int) == 3)) && (x4 == 0)) && (x5 == 1))) (OkOps.q (triQG (x:=.c (.d (.sl (List.map (eInt .i64) x2.1)))) rfl rfl trivial rfl) ?_)))))
 obtain ⟨x6,hx6,hr⟩:=bind_some hr
 refine OkOps.q (triIdxG (enc:=(eInt .i64)) (L:=x2.1) (row:=[dI x6]) (gO_t hx6) rfl rfl rfl rfl rfl (fun _=>rfl) ⟨fun h=>h,trivial⟩ rfl) (OkOps.q (triQG (x:=aI x6) rfl rfl ⟨fun h=>h,trivial⟩ rfl) (OkOps.q (triQG (x:=aB (x6 == 1)) rfl rfl ⟨fun h=>h,trivial⟩ rfl) (OkOps.q (triAnd rfl rfl (fun h=>h) rfl) (OkOps.y (aB (((((((x1.2 == 0) && (x2.2 == 0)) && x3) && ((x2.1.length : Int) == 3)) && (x4 == 0)) && (x5 == 1)) && (x6 == 1))) (OkOps.nil (Ok.ret ?_))))))
 obtain rfl:=Option.some.inj hr
 exact ⟨_,rfl,.inl rfl,trivial⟩
end Go.Proofs.YtobiohcdpfpefaaDoor
end
section
set_option maxRecDepth 100000
namespace Go.Proofs.YtobiohcdpfpefaaDoor
open Go Go.E2
theorem sc_valid_c (c : Chord) {r : Bool} (hr : sc_valid c = some r) : Con Tryd.prog 29 [.agg [cI c.Key,cI c.Mods]] [] (.s (aB r)) []:=by
 unfold sc_valid at hr
 refine Con.of_ok 26 0 [.tmp 2] [(0,.s (.agg [cI c.Key,cI c.Mods]))] Tryd.func29 rfl rfl rfl rfl rfl rfl rfl rfl fun w g M ρ _=>(Ok.seq (Ok.region (OkOps.m 0 (triBox (j:=0) (cs:=[cI c.Key,cI c.Mods]) rfl rfl rfl rfl rfl) (OkOps.y (aB false) (OkOps.nil (Ok.seq (Ok.region (OkOps.y (.c (.loc 0 1)) (OkOps.y (aI c.Mods) (OkOps.y (aB (decide (c.Mods ≥ 0))) (OkOps.y (aB (decide (c.Mods ≥ 0))) (OkOps.q (triQG (x:=.c (.loc 0 1)) rfl rfl trivial rfl) (OkOps.q (triQG (x:=aI c.Mods) rfl rfl ⟨fun h=>h,trivial⟩ rfl) (OkOps.q (triQG (x:=aB (decide (c.Mods ≤ 15))) rfl rfl ⟨fun h=>h,trivial⟩ rfl) (OkOps.q (triAnd rfl rfl (fun h=>h) rfl) ?_)))))))))))))))
 refine OkOps.y (aB ((decide (c.Mods ≥ 0)) && (decide (c.Mods ≤ 15)))) (OkOps.q (triQG (x:=.c (.loc 0 0)) rfl rfl trivial rfl) (OkOps.q (triQG (x:=aI c.Key) rfl rfl ⟨fun h=>h,trivial⟩ rfl) (OkOps.q (triQG (x:=aB (decide (c.Key ≥ 1))) rfl rfl ⟨fun h=>h,trivial⟩ rfl) (OkOps.q (triQG (x:=aB (decide (c.Key ≥ 1))) rfl rfl ⟨fun h=>h,trivial⟩ rfl) (OkOps.q (triQG (x:=.c (.loc 0 0)) rfl rfl trivial rfl) (OkOps.q (triQG (x:=aI c.Key) rfl rfl ⟨fun h=>h,trivial⟩ rfl) (OkOps.q (triQG (x:=aB (decide (c.Key ≤ 23))) rfl rfl ⟨fun h=>h,trivial⟩ rfl) ?_)))))))
 refine OkOps.q (triAndG rfl rfl rfl (fun h=>h) (fun h h2=>by rw [h,h2];rfl) rfl) ?_
 refine OkOps.q (triQG (x:=aB ((decide (c.Key ≥ 1)) && (decide (c.Key ≤ 23)))) rfl rfl ⟨fun h=>h,trivial⟩ rfl) (OkOps.q (triQG (x:=.c (.loc 0 0)) rfl rfl trivial rfl) (OkOps.q (triQG (x:=aI c.Key) rfl rfl ⟨fun h=>h,trivial⟩ rfl) ?_))
 obtain ⟨x1,hx1,hr⟩:=bind_some hr
 refine OkOps.q (triCallG (x:=aB x1) (fun hg=>sc_character_c _ (gO_t hx1 hg)) rfl rfl ⟨.inl rfl,trivial⟩ ⟨fun h=>h,trivial⟩ entry50 rfl rfl rfl) ?_
 refine OkOps.q (triOrG rfl rfl rfl (fun h=>h) (fun h h2=>by rw [h,h2];rfl) rfl) ?_
 refine OkOps.q (triAnd rfl rfl (fun h=>h) rfl) (OkOps.y (aB (((decide (c.Mods ≥ 0)) && (decide (c.Mods ≤ 15))) && (((decide (c.Key ≥ 1)) && (decide (c.Key ≤ 23))) || x1))) (OkOps.nil (Ok.ret ?_)))
 obtain rfl:=Option.some.inj hr
 exact ⟨_,rfl,.inl rfl,trivial⟩
theorem sc_Format_c (l : (List Chord)) {r : Str × Int} (hr : sc_Format l = some r) : Con Tryd.prog 14 [.c (.d (.sl (List.map Chord.cs l)))] [] (.tup [aS r.1,aI r.2]) []:=by
 unfold sc_Format at hr
 refine Con.of_ok 30 0 [.tmp 2,.tmp 3] [(0,.s (.c (.d (.sl (List.map Chord.cs l)))))] Tryd.func14 rfl rfl rfl rfl rfl rfl rfl rfl fun w g M ρ _=>(Ok.seq (Ok.region (OkOps.y (aS (ByteArray.mk #[])) (OkOps.y (aI 0) (OkOps.nil (Ok.seq (Ok.seq (Ok.region (OkOps.y (.c (.d (.sl (List.map Chord.cs l)))) (OkOps.q (triLen (enc:=Chord.cs) l rfl rfl trivial rfl) (OkOps.y (aB (decide ((l.length : Int) > 3))) (OkOps.nil ?_))))))))))))
 refine Ok.cond (b:=decide ((l.length : Int) > 3)) rfl (fun h1=>?_) (fun h1=>?_)
 have hr:=selT h1 hr
 refine Ok.seq (Ok.region (OkOps.y (aS (ByteArray.mk #[])) (OkOps.y (aI 2) (OkOps.nil (Ok.ret ?_)))))
 obtain rfl:=Option.some.inj hr
 exact ⟨_,rfl,.inl rfl,trivial⟩
 have hr:=selF h1 hr
 refine Ok.skip (Ok.seq (Ok.seq (Ok.region (OkOps.y (.c (.d (.sl (List.map Chord.cs l)))) (OkOps.q (triLen (enc:=Chord.cs) l rfl rfl trivial rfl) (OkOps.y (aB ((l.length : Int) == 0)) (OkOps.nil ?_)))))))
 refine Ok.cond (b:=(l.length : Int) == 0) rfl (fun h2=>?_) (fun h2=>?_)
 have hr:=selT h2 hr
 refine Ok.seq (Ok.region (OkOps.y (aS (ByteArray.mk #[])) (OkOps.y (aI 1) (OkOps.nil (Ok.ret ?_)))))
 obtain rfl:=Option.some.inj hr
 exact ⟨_,rfl,.inl rfl,trivial⟩
 have hr:=selF h2 hr
 refine Ok.skip (Ok.seq (Ok.region (OkOps.y (.c (.d (.v (.slice none 0 0)))) (OkOps.nil ?_))))
 obtain ⟨k4,hk4,hr⟩:=jn_some hr
 refine Ok.join (fun (s3 : (List Str))=>⟨[(4,.s (.c (.tl 1004 (List.map eStr s3))))],[(1004,.tail 1)],0⟩) k4 r (fun s3 hr=>?_) ?_
 rw [hk4] at hr
 refine Ok.seq (Ok.region (OkOps.y (.c (.tl 1004 (List.map eStr s3))) ?_))
 obtain ⟨x5,hx5,hr⟩:=bind_some hr
 refine OkOps.q (triCl (tau []) (.s (aS x5)) [] (strings_Join_c _ _ hx5) rfl ⟨.inr rfl,.inl rfl,trivial⟩ trivial entry31 trivial) (OkOps.y (aS x5) (OkOps.y (aI 0) (OkOps.nil (Ok.ret ?_))))
 obtain rfl:=Option.some.inj hr
 exact ⟨_,rfl,.inl rfl,trivial⟩
 clear hk4
 refine Ok.seq (Ok.region (OkOps.y (.c (.d (.sl (List.map Chord.cs l)))) (OkOps.q (triLen (enc:=Chord.cs) l rfl rfl trivial rfl) (OkOps.y (aI 0) (OkOps.nil (Ok.block (Ok.loopK (fun (s6 : (List Str) × Int)=>⟨[(4,.s (.c (.tl 1007 (List.map eStr s6.1)))),(13,.s (.c (.d (.sl (List.map Chord.cs l))))),(14,.s (aI (l.length : Int))),(15,.s (aI s6.2))],[(1007,.tail 1)],0⟩) hr (Conv.trans (Conv.nil 4 1009 1 0 rfl rfl) (Conv.mk (tau [(1007,1009)]) ⟨⟨_,rfl,.inl rfl⟩,⟨_,rfl,.inl rfl⟩,⟨_,rfl,.inl rfl⟩,⟨_,rfl,.inl rfl⟩,trivial⟩ ⟨rfl,trivial⟩ rfl rfl rfl rfl)) ?_)))))))
 clear hr
 intro again7 s6 hr
 unfold sc_Format_L1 at hr
 refine Ok.seq (Ok.region (OkOps.y (aB (decide (s6.2 < (l.length : Int)))) (OkOps.nil (Ok.seq ?_))))
 refine Ok.cond (b:=decide (s6.2 < (l.length : Int))) rfl (fun h8=>?_) (fun h8=>?_)
 have hr:=selT h8 hr
 refine Ok.skip (Ok.seq (Ok.block (Ok.seq (Ok.region ?_))))
 obtain ⟨x9,hx9,hr⟩:=bind_some hr
 refine OkOps.q (triIdx (enc:=Chord.cs) (L:=l) (row:=[dI x9.Key,dI x9.Mods]) hx9 rfl rfl rfl rfl (fun _=>rfl) trivial rfl) (OkOps.y (.agg [cI x9.Key,cI x9.Mods]) (OkOps.m 0 (triAlloc (j:=0) (cs:=[cI 0,cI 0]) rfl rfl rfl rfl) (OkOps.w (triStore (cs':=[cI x9.Key,cI x9.Mods]) rfl rfl rfl rfl rfl rfl rfl rfl rfl) (OkOps.nil (Ok.seq (Ok.seq (Ok.region (OkOps.y (.agg [cI x9.Key,cI x9.Mods]) ?_))))))))
 obtain ⟨x10,hx10,hr⟩:=bind_some hr
 refine OkOps.q (triCl (tau []) (.s (aB x10)) [] (sc_valid_c _ hx10) rfl ⟨.inl rfl,trivial⟩ trivial entry29 trivial) (OkOps.y (aB (!x10)) (OkOps.nil ?_))
 refine Ok.cond (b:=!x10) rfl (fun h11=>?_) (fun h11=>?_)
 have hr:=selT h11 hr
 refine Ok.seq (Ok.region (OkOps.y (aS (ByteArray.mk #[])) (OkOps.y (aI 1) (OkOps.nil (Ok.ret ?_)))))
 obtain rfl:=Option.some.inj hr
 exact ⟨_,rfl,.inl rfl,trivial⟩
 have hr:=selF h11 hr
 refine Ok.skip (Ok.region (OkOps.y (.c (.tl 1007 (List.map eStr s6.1))) (OkOps.y (.agg [cI x9.Key,cI x9.Mods]) ?_)))
 obtain ⟨x12,hx12,hr⟩:=bind_some hr
 refine OkOps.q (triCl (tau []) (.s (aS x12)) [] (sc_write_c _ hx12) rfl ⟨.inl rfl,trivial⟩ trivial entry30 trivial) (OkOps.m 0 (triBST (sz:=1) (enc:=eStr) (j:=1) ([x12]) rfl rfl rfl rfl rfl rfl rfl rfl (fun _=>rfl) trivial rfl rfl) ?_)
 obtain ⟨x13,hx13,hr⟩:=bind_some hr
 refine OkOps.m2 0 (triApp (enc:=eStr) (L:=s6.1) (X:=[x12]) (j:=1007) (j':=2) hx13 rfl rfl rfl rfl rfl rfl (fun _=>rfl) (fun _=>rfl) (by decide) trivial rfl rfl) (OkOps.y (.c (.tl 2 (List.map eStr x13))) (OkOps.nil (Ok.region (OkOps.y (aI (IntKind.i64.wrap (s6.2 + 1))) (OkOps.y (aI (IntKind.i64.wrap (s6.2 + 1))) (OkOps.nil ?_))))))
 exact ⟨(x13,IntKind.i64.wrap (s6.2 + 1)),hr,(Conv.mk (tau [(1007,2)]) ⟨⟨_,rfl,.inl rfl⟩,⟨_,rfl,.inl rfl⟩,⟨_,rfl,.inl rfl⟩,⟨_,rfl,.inl rfl⟩,trivial⟩ ⟨rfl,trivial⟩ rfl rfl rfl rfl)⟩
 have hr:=selF h8 hr
 refine Ok.exit ?_
 exact ⟨s6.1,hr,(Conv.mk (tau [(1004,1007)]) ⟨⟨_,rfl,.inl rfl⟩,trivial⟩ ⟨rfl,trivial⟩ rfl rfl rfl rfl)⟩
theorem b_Src_Chord_c (p_s : widgetrybase_Src) {r : Chord × widgetrybase_Src} (hr : b_Src_Chord p_s = some r) : Con Tryd.prog 13 [.c (.loc 0 0)] [(0,.blk [.d (.sl (List.map (eInt .i64) p_s.L)),cI p_s.At] 74)] (.s (.agg [cI r.1.Key,cI r.1.Mods])) [(0,.blk [.d (.sl (List.map (eInt .i64) r.2.L)),cI r.2.At] 74)]:=by
 unfold b_Src_Chord at hr
 refine Con.of_ok 30 0 [.cell 2 34] [(0,.s (.c (.loc 0 0)))] Tryd.func13 rfl rfl rfl rfl rfl rfl rfl rfl fun w g M ρ _=>(Ok.seq (Ok.region (OkOps.m 0 (triAlloc (j:=1) (cs:=[cI 0,cI 0]) rfl rfl rfl rfl) (OkOps.nil (Ok.seq (Ok.region (OkOps.m 0 (triBST (sz:=1) (enc:=(eInt .i64)) (j:=2) ([97,98,107,99,115,120,75,49,32,43,1,2,3,6,12,23,1488]) rfl rfl rfl rfl rfl rfl rfl rfl (fun _=>rfl) trivial rfl rfl) (OkOps.y (.c (.tl 2 (List.map (eInt .i64) ([97,98,107,99,115,120,75,49,32,43,1,2,3,6,12,23,1488])))) (OkOps.nil (Ok.seq (Ok.regionD (by kernel_rfl) (OkD.x (.c (.tl 2 (List.map (eInt .i64) ([97,98,107,99,115,120,75,49,32,43,1,2,3,6,12,23,1488])))) rfl trivial rfl (OkD.x (.c (.loc 0 0)) rfl trivial rfl (OkD.x (.c (.tl 2 (List.map (eInt .i64) ([97,98,107,99,115,120,75,49,32,43,1,2,3,6,12,23,1488])))) rfl trivial rfl (OkD.q (triLen (enc:=(eInt .i64)) ([97,98,107,99,115,120,75,49,32,43,1,2,3,6,12,23,1488]) rfl rfl trivial rfl) ?_)))))))))))))))
 obtain ⟨x1,hx1,hr⟩:=bind_some hr
 refine OkD.m 0 (triCl (tau [(0,0)]) (.s (aI x1.1)) [(0,.blk [.d (.sl (List.map (eInt .i64) x1.2.L)),cI x1.2.At] 74)] (b_Src_N_c _ _ hx1) rfl ⟨.inl rfl,.inl rfl,trivial⟩ trivial entry23 ⟨rfl,trivial⟩) ?_
 obtain ⟨x2,hx2,hr⟩:=bind_some hr
 refine OkD.q (triIdx (enc:=(eInt .i64)) (L:=[97,98,107,99,115,120,75,49,32,43,1,2,3,6,12,23,1488]) (row:=[dI x2]) hx2 rfl rfl rfl rfl (fun _=>rfl) trivial rfl) (OkD.x (aI x2) rfl trivial rfl (OkD.m 0 (triBST (sz:=1) (enc:=(eInt .i64)) (j:=3) ([0,0,1,1,2,4,8,15,5]) rfl rfl rfl rfl rfl rfl rfl rfl (fun _=>rfl) trivial rfl rfl) (OkD.x (.c (.loc 0 0)) rfl trivial rfl ?_)))
 obtain ⟨x3,hx3,hr⟩:=bind_some hr
 refine OkD.m 0 (triCl (tau [(0,0)]) (.s (aI x3.1)) [(0,.blk [.d (.sl (List.map (eInt .i64) x3.2.L)),cI x3.2.At] 74)] (b_Src_N_c _ _ hx3) rfl ⟨.inl rfl,.inl rfl,trivial⟩ trivial entry23 ⟨rfl,trivial⟩) ?_
 obtain ⟨x4,hx4,hr⟩:=bind_some hr
 refine OkD.q (triIdx (enc:=(eInt .i64)) (L:=[0,0,1,1,2,4,8,15,5]) (row:=[dI x4]) hx4 rfl rfl rfl rfl (fun _=>rfl) trivial rfl) (OkD.x (aI x4) rfl trivial rfl (OkD.x (.agg [cI x2,cI x4]) rfl trivial rfl (OkD.m 0 (triAlloc (j:=4) (cs:=[cI 0,cI 0]) rfl rfl rfl rfl) (OkD.w (triStore (cs':=[cI x2,cI x4]) rfl rfl rfl rfl rfl rfl rfl rfl rfl) (OkD.nil (by kernel_rfl) ?_)))))
 obtain ⟨k6,hk6,hr⟩:=jn_some hr
 refine Ok.join (fun (s5 : (List Int) × Int × Int)=>⟨[(0,.s (.c (.loc 0 0))),(2,.s (.c (.loc 1 0))),(4,.s (.c (.loc 4 0)))],[(0,.blk [.d (.sl (List.map (eInt .i64) s5.1)),cI s5.2.1] 74),(1,.blk [cI 0,cI 0] 34),(4,.blk [cI s5.2.2,cI x4] 34)],0⟩) k6 r (fun s5 hr=>?_) ?_
 rw [hk6] at hr
 obtain ⟨k8,hk8,hr⟩:=jn_some hr
 refine Ok.join (fun (s7 : (List Int) × Int × Int)=>⟨[(2,.s (.c (.loc 1 0))),(4,.s (.c (.loc 4 0)))],[(0,.blk [.d (.sl (List.map (eInt .i64) s7.1)),cI s7.2.1] 74),(1,.blk [cI 0,cI 0] 34),(4,.blk [cI s5.2.2,cI s7.2.2] 34)],0⟩) k8 r (fun s7 hr=>?_) ?_
 rw [hk8] at hr
 refine Ok.seq (Ok.region (OkOps.y (.agg [cI s5.2.2,cI s7.2.2]) (OkOps.w (triStore (cs':=[cI s5.2.2,cI s7.2.2]) rfl rfl rfl rfl rfl rfl rfl rfl rfl) (OkOps.nil (Ok.ret ?_)))))
 obtain rfl:=Option.some.inj hr
 exact ⟨_,rfl,.inl rfl,⟨rfl,trivial⟩⟩
 clear hk8
 refine Ok.seq (Ok.region (OkOps.y (.c (.loc 0 0)) ?_))
 obtain ⟨x9,hx9,hr⟩:=bind_some hr
 refine OkOps.m 0 (triCl (tau [(0,0)]) (.s (aB x9.1)) [(0,.blk [.d (.sl (List.map (eInt .i64) x9.2.L)),cI x9.2.At] 74)] (b_Src_Chance_c _ _ hx9) rfl ⟨.inl rfl,.inl rfl,trivial⟩ trivial entry27 ⟨rfl,trivial⟩) (OkOps.nil ?_)
 refine Ok.cond (b:=x9.1) rfl (fun h10=>?_) (fun h10=>?_)
 have hr:=selT h10 hr
 refine Ok.region (OkOps.y (.c (.loc 0 0)) ?_)
 obtain ⟨x11,hx11,hr⟩:=bind_some hr
 refine OkOps.m 0 (triCl (tau [(0,0)]) (.s (aI x11.1)) [(0,.blk [.d (.sl (List.map (eInt .i64) x11.2.L)),cI x11.2.At] 74)] (b_Src_Raw_c _ hx11) rfl ⟨.inl rfl,trivial⟩ trivial entry28 ⟨rfl,trivial⟩) (OkOps.y (.c (.loc 4 1)) (OkOps.w (triStore (cs':=[cI s5.2.2,cI x11.1]) rfl rfl rfl rfl rfl rfl rfl rfl rfl) (OkOps.nil ?_)))
 exact ⟨(x11.2.L,x11.2.At,x11.1),hr,(Conv.mk (tau []) ⟨⟨_,rfl,.inl rfl⟩,⟨_,rfl,.inl rfl⟩,trivial⟩ ⟨rfl,rfl,rfl,trivial⟩ rfl rfl rfl rfl)⟩
 have hr:=selF h10 hr
 refine Ok.skip ?_
 exact ⟨(x9.2.L,x9.2.At,x4),hr,(Conv.mk (tau []) ⟨⟨_,rfl,.inl rfl⟩,⟨_,rfl,.inl rfl⟩,trivial⟩ ⟨rfl,rfl,rfl,trivial⟩ rfl rfl rfl rfl)⟩
 clear hk6
 refine Ok.seq (Ok.region (OkOps.y (.c (.loc 0 0)) ?_))
 obtain ⟨x12,hx12,hr⟩:=bind_some hr
 refine OkOps.m 0 (triCl (tau [(0,0)]) (.s (aB x12.1)) [(0,.blk [.d (.sl (List.map (eInt .i64) x12.2.L)),cI x12.2.At] 74)] (b_Src_Chance_c _ _ hx12) rfl ⟨.inl rfl,.inl rfl,trivial⟩ trivial entry27 ⟨rfl,trivial⟩) (OkOps.nil ?_)
 refine Ok.cond (b:=x12.1) rfl (fun h13=>?_) (fun h13=>?_)
 have hr:=selT h13 hr
 refine Ok.region (OkOps.y (.c (.loc 0 0)) ?_)
 obtain ⟨x14,hx14,hr⟩:=bind_some hr
 refine OkOps.m 0 (triCl (tau [(0,0)]) (.s (aI x14.1)) [(0,.blk [.d (.sl (List.map (eInt .i64) x14.2.L)),cI x14.2.At] 74)] (b_Src_Raw_c _ hx14) rfl ⟨.inl rfl,trivial⟩ trivial entry28 ⟨rfl,trivial⟩) (OkOps.y (.c (.loc 4 0)) (OkOps.w (triStore (cs':=[cI x14.1,cI x4]) rfl rfl rfl rfl rfl rfl rfl rfl rfl) (OkOps.nil ?_)))
 exact ⟨(x14.2.L,x14.2.At,x14.1),hr,(Conv.mk (tau []) ⟨⟨_,rfl,.inl rfl⟩,⟨_,rfl,.inl rfl⟩,⟨_,rfl,.inl rfl⟩,trivial⟩ ⟨rfl,rfl,rfl,trivial⟩ rfl rfl rfl rfl)⟩
 have hr:=selF h13 hr
 refine Ok.skip ?_
 exact ⟨(x12.2.L,x12.2.At,x2),hr,(Conv.mk (tau []) ⟨⟨_,rfl,.inl rfl⟩,⟨_,rfl,.inl rfl⟩,⟨_,rfl,.inl rfl⟩,trivial⟩ ⟨rfl,rfl,rfl,trivial⟩ rfl rfl rfl rfl)⟩
theorem b_Src_Chords_c (p_s : widgetrybase_Src) {r : (List Chord) × widgetrybase_Src} (hr : b_Src_Chords p_s = some r) : Con Tryd.prog 12 [.c (.loc 0 0)] [(0,.blk [.d (.sl (List.map (eInt .i64) p_s.L)),cI p_s.At] 74)] (.s (.c (.d (.sl (List.map Chord.cs r.1))))) [(0,.blk [.d (.sl (List.map (eInt .i64) r.2.L)),cI r.2.At] 74)]:=by
 unfold b_Src_Chords at hr
 refine Con.of_ok 27 0 [.tmp 2] [(0,.s (.c (.loc 0 0)))] Tryd.func12 rfl rfl rfl rfl rfl rfl rfl rfl fun w g M ρ _=>(Ok.seq (Ok.region (OkOps.y (.c (.d (.v (.slice none 0 0)))) (OkOps.nil (Ok.seq (Ok.region (OkOps.m 0 (triBST (sz:=1) (enc:=(eInt .i64)) (j:=1) ([97,107,99,49,32,2,12]) rfl rfl rfl rfl rfl rfl rfl rfl (fun _=>rfl) trivial rfl rfl) (OkOps.y (.c (.tl 1 (List.map (eInt .i64) ([97,107,99,49,32,2,12])))) (OkOps.nil (Ok.seq (Ok.region (OkOps.y (.c (.d (.v (.slice none 0 0)))) (OkOps.nil ?_)))))))))))))
 obtain ⟨k2,hk2,hr⟩:=jn_some hr
 refine Ok.join (fun (s1 : (List Chord) × (List Int) × Int)=>⟨[(4,.s (.c (.tl 1004 (List.map Chord.cs s1.1))))],[(0,.blk [.d (.sl (List.map (eInt .i64) s1.2.1)),cI s1.2.2] 74),(1004,.tail 2)],0⟩) k2 r (fun s1 hr=>?_) ?_
 rw [hk2] at hr
 refine Ok.seq (Ok.region (OkOps.y (.c (.tl 1004 (List.map Chord.cs s1.1))) (OkOps.y (.c (.tl 1004 (List.map Chord.cs s1.1))) (OkOps.nil (Ok.ret ?_)))))
 obtain rfl:=Option.some.inj hr
 exact ⟨_,rfl,.inr rfl,⟨rfl,trivial⟩⟩
 clear hk2
 refine Ok.seq (Ok.region (OkOps.y (.c (.loc 0 0)) ?_))
 obtain ⟨x3,hx3,hr⟩:=bind_some hr
 refine OkOps.m 0 (triCl (tau [(0,0)]) (.s (aI x3.1)) [(0,.blk [.d (.sl (List.map (eInt .i64) x3.2.L)),cI x3.2.At] 74)] (b_Src_Range_c _ _ _ hx3) rfl ⟨.inl rfl,.inl rfl,.inl rfl,trivial⟩ trivial entry22 ⟨rfl,trivial⟩) (OkOps.y (aI x3.1) (OkOps.nil (Ok.block (Ok.loopK (fun (s4 : (List Chord) × Int × (List Int) × Int)=>⟨[(0,.s (.c (.loc 0 0))),(3,.s (.c (.tl 1 (List.map (eInt .i64) ([97,107,99,49,32,2,12]))))),(4,.s (.c (.tl 1007 (List.map Chord.cs s4.1)))),(5,.s (aI s4.2.1))],[(0,.blk [.d (.sl (List.map (eInt .i64) s4.2.2.1)),cI s4.2.2.2] 74),(1,.tail 1),(1007,.tail 2)],0⟩) hr (Conv.trans (Conv.nil 4 1009 2 0 rfl rfl) (Conv.mk (tau [(1007,1009)]) ⟨⟨_,rfl,.inl rfl⟩,⟨_,rfl,.inl rfl⟩,⟨_,rfl,.inl rfl⟩,⟨_,rfl,.inl rfl⟩,trivial⟩ ⟨rfl,rfl,rfl,trivial⟩ rfl rfl rfl rfl)) ?_))))
 clear hr
 intro again5 s4 hr
 unfold b_Src_Chords_L1 at hr
 refine Ok.seq (Ok.seq (Ok.region (OkOps.y (aI s4.2.1) (OkOps.y (aB (decide (s4.2.1 > 0))) (OkOps.nil ?_)))))
 refine Ok.cond (b:=decide (s4.2.1 > 0)) rfl (fun h6=>?_) (fun h6=>?_)
 have hr:=selT h6 hr
 refine Ok.skip (Ok.seq (Ok.block (Ok.regionD (by kernel_rfl) (OkD.x (.c (.tl 1007 (List.map Chord.cs s4.1))) rfl trivial rfl (OkD.x (.c (.tl 1 (List.map (eInt .i64) ([97,107,99,49,32,2,12])))) rfl trivial rfl (OkD.x (.c (.loc 0 0)) rfl trivial rfl (OkD.x (.c (.tl 1 (List.map (eInt .i64) ([97,107,99,49,32,2,12])))) rfl trivial rfl (OkD.q (triLen (enc:=(eInt .i64)) ([97,107,99,49,32,2,12]) rfl rfl trivial rfl) ?_))))))))
 obtain ⟨x7,hx7,hr⟩:=bind_some hr
 refine OkD.m 0 (triCl (tau [(0,0)]) (.s (aI x7.1)) [(0,.blk [.d (.sl (List.map (eInt .i64) x7.2.L)),cI x7.2.At] 74)] (b_Src_N_c _ _ hx7) rfl ⟨.inl rfl,.inl rfl,trivial⟩ trivial entry23 ⟨rfl,trivial⟩) ?_
 obtain ⟨x8,hx8,hr⟩:=bind_some hr
 refine OkD.q (triIdx (enc:=(eInt .i64)) (L:=[97,107,99,49,32,2,12]) (row:=[dI x8]) hx8 rfl rfl rfl rfl (fun _=>rfl) trivial rfl) (OkD.x (aI x8) rfl trivial rfl (OkD.x (.c (.loc 0 0)) rfl trivial rfl ?_))
 obtain ⟨x9,hx9,hr⟩:=bind_some hr
 refine OkD.m 0 (triCl (tau [(0,0)]) (.s (aI x9.1)) [(0,.blk [.d (.sl (List.map (eInt .i64) x9.2.L)),cI x9.2.At] 74)] (b_Src_N_c _ _ hx9) rfl ⟨.inl rfl,.inl rfl,trivial⟩ trivial entry23 ⟨rfl,trivial⟩) (OkD.x (.agg [cI x8,cI x9.1]) rfl trivial rfl (OkD.m 0 (triBST (sz:=2) (enc:=Chord.cs) (j:=2) ([(Chord.mk x8 x9.1)]) rfl rfl rfl rfl rfl rfl rfl rfl (fun _=>rfl) trivial rfl rfl) ?_))
 obtain ⟨x10,hx10,hr⟩:=bind_some hr
 refine OkD.m2 0 (triApp (enc:=Chord.cs) (L:=s4.1) (X:=[(Chord.mk x8 x9.1)]) (j:=1007) (j':=3) hx10 rfl rfl rfl rfl rfl rfl (fun _=>rfl) (fun _=>rfl) (by decide) trivial rfl rfl) (OkD.x (.c (.tl 3 (List.map Chord.cs x10))) rfl trivial rfl (OkD.nil (by kernel_rfl) (Ok.region (OkOps.y (aI s4.2.1) (OkOps.y (aI (IntKind.i64.wrap (s4.2.1 - 1))) (OkOps.y (aI (IntKind.i64.wrap (s4.2.1 - 1))) (OkOps.nil ?_)))))))
 exact ⟨(x10,IntKind.i64.wrap (s4.2.1 - 1),x9.2.L,x9.2.At),hr,(Conv.mk (tau [(1007,3)]) ⟨⟨_,rfl,.inl rfl⟩,⟨_,rfl,.inl rfl⟩,⟨_,rfl,.inl rfl⟩,⟨_,rfl,.inl rfl⟩,trivial⟩ ⟨rfl,rfl,rfl,trivial⟩ rfl rfl rfl rfl)⟩
 have hr:=selF h6 hr
 refine Ok.exit ?_
 exact ⟨(s4.1,s4.2.2.1,s4.2.2.2),hr,(Conv.mk (tau [(1004,1007)]) ⟨⟨_,rfl,.inl rfl⟩,trivial⟩ ⟨rfl,rfl,trivial⟩ rfl rfl rfl rfl)⟩
theorem l32_pieces_c (p_s : widgetrybase_Src) {r : Str × widgetrybase_Src} (hr : l32_pieces p_s = some r) : Con Tryd.prog 8 [.c (.loc 0 0)] [(0,.blk [.d (.sl (List.map (eInt .i64) p_s.L)),cI p_s.At] 74)] (.s (aS r.1)) [(0,.blk [.d (.sl (List.map (eInt .i64) r.2.L)),cI r.2.At] 74)]:=by
 unfold l32_pieces at hr
 refine Con.of_ok 23 0 [.tmp 2] [(0,.s (.c (.loc 0 0)))] Tryd.func8 rfl rfl rfl rfl rfl rfl rfl rfl fun w g M ρ _=>(Ok.seq (Ok.region (OkOps.y (aS (ByteArray.mk #[])) (OkOps.nil (Ok.seq (Ok.region (OkOps.m 0 (triBST (sz:=1) (enc:=eStr) (j:=1) ([(ByteArray.mk #[99,116,114,108,43]),(ByteArray.mk #[97,108,116,43]),(ByteArray.mk #[115,104,105,102,116,43]),(ByteArray.mk #[109,101,116,97,43]),(ByteArray.mk #[107]),(ByteArray.mk #[116,97,98]),(ByteArray.mk #[102,49]),(ByteArray.mk #[102,49,50]),(ByteArray.mk #[102,49,51]),(ByteArray.mk #[115,112,97,99,101]),(ByteArray.mk #[32]),(ByteArray.mk #[32]),(ByteArray.mk #[65]),(ByteArray.mk #[43]),(ByteArray.mk #[101,115,99,97,112,101]),(ByteArray.mk #[195,169]),(ByteArray.mk #[120]),(ByteArray.mk #[117,112]),(ByteArray.mk #[255]),(ByteArray.mk #[101,110,100])]) rfl rfl rfl rfl rfl rfl rfl rfl (fun _=>rfl) trivial rfl rfl) (OkOps.y (.c (.tl 1 (List.map eStr ([(ByteArray.mk #[99,116,114,108,43]),(ByteArray.mk #[97,108,116,43]),(ByteArray.mk #[115,104,105,102,116,43]),(ByteArray.mk #[109,101,116,97,43]),(ByteArray.mk #[107]),(ByteArray.mk #[116,97,98]),(ByteArray.mk #[102,49]),(ByteArray.mk #[102,49,50]),(ByteArray.mk #[102,49,51]),(ByteArray.mk #[115,112,97,99,101]),(ByteArray.mk #[32]),(ByteArray.mk #[32]),(ByteArray.mk #[65]),(ByteArray.mk #[43]),(ByteArray.mk #[101,115,99,97,112,101]),(ByteArray.mk #[195,169]),(ByteArray.mk #[120]),(ByteArray.mk #[117,112]),(ByteArray.mk #[255]),(ByteArray.mk #[101,110,100])])))) (OkOps.nil (Ok.seq (Ok.region (OkOps.y (aS (ByteArray.mk #[])) (OkOps.nil ?_)))))))))))))
 obtain ⟨k2,hk2,hr⟩:=jn_some hr
 refine Ok.join (fun (s1 : Str × (List Int) × Int)=>⟨[(4,.s (aS s1.1))],[(0,.blk [.d (.sl (List.map (eInt .i64) s1.2.1)),cI s1.2.2] 74)],0⟩) k2 r (fun s1 hr=>?_) ?_
 rw [hk2] at hr
 refine Ok.seq (Ok.region (OkOps.y (aS s1.1) (OkOps.y (aS s1.1) (OkOps.nil (Ok.ret ?_)))))
 obtain rfl:=Option.some.inj hr
 exact ⟨_,rfl,.inl rfl,⟨rfl,trivial⟩⟩
 clear hk2
 refine Ok.seq (Ok.region (OkOps.y (.c (.loc 0 0)) ?_))
 obtain ⟨x3,hx3,hr⟩:=bind_some hr
 refine OkOps.m 0 (triCl (tau [(0,0)]) (.s (aI x3.1)) [(0,.blk [.d (.sl (List.map (eInt .i64) x3.2.L)),cI x3.2.At] 74)] (b_Src_Range_c _ _ _ hx3) rfl ⟨.inl rfl,.inl rfl,.inl rfl,trivial⟩ trivial entry22 ⟨rfl,trivial⟩) (OkOps.y (aI x3.1) (OkOps.nil (Ok.block (Ok.loopK (fun (s4 : Str × Int × (List Int) × Int)=>⟨[(0,.s (.c (.loc 0 0))),(3,.s (.c (.tl 1 (List.map eStr ([(ByteArray.mk #[99,116,114,108,43]),(ByteArray.mk #[97,108,116,43]),(ByteArray.mk #[115,104,105,102,116,43]),(ByteArray.mk #[109,101,116,97,43]),(ByteArray.mk #[107]),(ByteArray.mk #[116,97,98]),(ByteArray.mk #[102,49]),(ByteArray.mk #[102,49,50]),(ByteArray.mk #[102,49,51]),(ByteArray.mk #[115,112,97,99,101]),(ByteArray.mk #[32]),(ByteArray.mk #[32]),(ByteArray.mk #[65]),(ByteArray.mk #[43]),(ByteArray.mk #[101,115,99,97,112,101]),(ByteArray.mk #[195,169]),(ByteArray.mk #[120]),(ByteArray.mk #[117,112]),(ByteArray.mk #[255]),(ByteArray.mk #[101,110,100])]))))),(4,.s (aS s4.1)),(5,.s (aI s4.2.1))],[(0,.blk [.d (.sl (List.map (eInt .i64) s4.2.2.1)),cI s4.2.2.2] 74),(1,.tail 1)],0⟩) hr (Conv.mk (tau []) ⟨⟨_,rfl,.inl rfl⟩,⟨_,rfl,.inl rfl⟩,⟨_,rfl,.inl rfl⟩,⟨_,rfl,.inl rfl⟩,trivial⟩ ⟨rfl,rfl,trivial⟩ rfl rfl rfl rfl) ?_))))
 clear hr
 intro again5 s4 hr
 unfold l32_pieces_L1 at hr
 refine Ok.seq (Ok.seq (Ok.region (OkOps.y (aI s4.2.1) (OkOps.y (aB (decide (s4.2.1 > 0))) (OkOps.nil ?_)))))
 refine Ok.cond (b:=decide (s4.2.1 > 0)) rfl (fun h6=>?_) (fun h6=>?_)
 have hr:=selT h6 hr
 refine Ok.skip (Ok.seq (Ok.block (Ok.region (OkOps.y (aS s4.1) (OkOps.y (.c (.tl 1 (List.map eStr ([(ByteArray.mk #[99,116,114,108,43]),(ByteArray.mk #[97,108,116,43]),(ByteArray.mk #[115,104,105,102,116,43]),(ByteArray.mk #[109,101,116,97,43]),(ByteArray.mk #[107]),(ByteArray.mk #[116,97,98]),(ByteArray.mk #[102,49]),(ByteArray.mk #[102,49,50]),(ByteArray.mk #[102,49,51]),(ByteArray.mk #[115,112,97,99,101]),(ByteArray.mk #[32]),(ByteArray.mk #[32]),(ByteArray.mk #[65]),(ByteArray.mk #[43]),(ByteArray.mk #[101,115,99,97,112,101]),(ByteArray.mk #[195,169]),(ByteArray.mk #[120]),(ByteArray.mk #[117,112]),(ByteArray.mk #[255]),(ByteArray.mk #[101,110,100])])))) (OkOps.y (.c (.loc 0 0)) (OkOps.y (.c (.tl 1 (List.map eStr ([(ByteArray.mk #[99,116,114,108,43]),(ByteArray.mk #[97,108,116,43]),(ByteArray.mk #[115,104,105,102,116,43]),(ByteArray.mk #[109,101,116,97,43]),(ByteArray.mk #[107]),(ByteArray.mk #[116,97,98]),(ByteArray.mk #[102,49]),(ByteArray.mk #[102,49,50]),(ByteArray.mk #[102,49,51]),(ByteArray.mk #[115,112,97,99,101]),(ByteArray.mk #[32]),(ByteArray.mk #[32]),(ByteArray.mk #[65]),(ByteArray.mk #[43]),(ByteArray.mk #[101,115,99,97,112,101]),(ByteArray.mk #[195,169]),(ByteArray.mk #[120]),(ByteArray.mk #[117,112]),(ByteArray.mk #[255]),(ByteArray.mk #[101,110,100])])))) (OkOps.q (triLen (enc:=eStr) ([(ByteArray.mk #[99,116,114,108,43]),(ByteArray.mk #[97,108,116,43]),(ByteArray.mk #[115,104,105,102,116,43]),(ByteArray.mk #[109,101,116,97,43]),(ByteArray.mk #[107]),(ByteArray.mk #[116,97,98]),(ByteArray.mk #[102,49]),(ByteArray.mk #[102,49,50]),(ByteArray.mk #[102,49,51]),(ByteArray.mk #[115,112,97,99,101]),(ByteArray.mk #[32]),(ByteArray.mk #[32]),(ByteArray.mk #[65]),(ByteArray.mk #[43]),(ByteArray.mk #[101,115,99,97,112,101]),(ByteArray.mk #[195,169]),(ByteArray.mk #[120]),(ByteArray.mk #[117,112]),(ByteArray.mk #[255]),(ByteArray.mk #[101,110,100])]) rfl rfl trivial rfl) ?_))))))))
 obtain ⟨x7,hx7,hr⟩:=bind_some hr
 refine OkOps.m 0 (triCl (tau [(0,0)]) (.s (aI x7.1)) [(0,.blk [.d (.sl (List.map (eInt .i64) x7.2.L)),cI x7.2.At] 74)] (b_Src_N_c _ _ hx7) rfl ⟨.inl rfl,.inl rfl,trivial⟩ trivial entry23 ⟨rfl,trivial⟩) ?_
 obtain ⟨x8,hx8,hr⟩:=bind_some hr
 refine OkOps.q (triIdx (enc:=eStr) (L:=[(ByteArray.mk #[99,116,114,108,43]),(ByteArray.mk #[97,108,116,43]),(ByteArray.mk #[115,104,105,102,116,43]),(ByteArray.mk #[109,101,116,97,43]),(ByteArray.mk #[107]),(ByteArray.mk #[116,97,98]),(ByteArray.mk #[102,49]),(ByteArray.mk #[102,49,50]),(ByteArray.mk #[102,49,51]),(ByteArray.mk #[115,112,97,99,101]),(ByteArray.mk #[32]),(ByteArray.mk #[32]),(ByteArray.mk #[65]),(ByteArray.mk #[43]),(ByteArray.mk #[101,115,99,97,112,101]),(ByteArray.mk #[195,169]),(ByteArray.mk #[120]),(ByteArray.mk #[117,112]),(ByteArray.mk #[255]),(ByteArray.mk #[101,110,100])]) (row:=[dS x8]) hx8 rfl rfl rfl rfl (fun _=>rfl) trivial rfl) (OkOps.y (aS x8) ?_)
 obtain ⟨x9,hx9,hr⟩:=bind_some hr
 refine OkOps.q (triCat hx9 rfl rfl trivial rfl) (OkOps.y (aS x9) (OkOps.nil (Ok.region (OkOps.y (aI s4.2.1) (OkOps.y (aI (IntKind.i64.wrap (s4.2.1 - 1))) (OkOps.y (aI (IntKind.i64.wrap (s4.2.1 - 1))) (OkOps.nil ?_)))))))
 exact ⟨(x9,IntKind.i64.wrap (s4.2.1 - 1),x7.2.L,x7.2.At),hr,(Conv.mk (tau []) ⟨⟨_,rfl,.inl rfl⟩,⟨_,rfl,.inl rfl⟩,⟨_,rfl,.inl rfl⟩,⟨_,rfl,.inl rfl⟩,trivial⟩ ⟨rfl,rfl,trivial⟩ rfl rfl rfl rfl)⟩
 have hr:=selF h6 hr
 refine Ok.exit ?_
 exact ⟨(s4.1,s4.2.2.1,s4.2.2.2),hr,(Conv.mk (tau []) ⟨⟨_,rfl,.inl rfl⟩,trivial⟩ ⟨rfl,trivial⟩ rfl rfl rfl rfl)⟩
theorem l32_ShortcutBack_c (text : Str) (l : (List Chord)) (p_n : (List Int)) {r : Bool} (hr : l32_ShortcutBack text l p_n = some r) : Con Tryd.prog 4 [aS text,.c (.d (.sl (List.map Chord.cs l))),.c (.d (.sl (List.map (eInt .i64) p_n)))] [] (.s (aB r)) []:=by
 unfold l32_ShortcutBack at hr
 refine Con.of_ok 116 0 [.tmp 6] [(0,.s (aS text)),(1,.s (.c (.d (.sl (List.map Chord.cs l))))),(2,.s (.c (.d (.sl (List.map (eInt .i64) p_n)))))] Tryd.func4 rfl rfl rfl rfl rfl rfl rfl rfl fun w g M ρ _=>(Ok.seq (Ok.region (OkOps.y (aB false) (OkOps.nil (Ok.seq (Ok.seq (Ok.region (OkOps.y (aS text) (OkOps.y (aI (text.size : Int)) (OkOps.y (aB (decide ((text.size : Int) > 200))) (OkOps.y (aB (decide ((text.size : Int) > 200))) (OkOps.q (triQG (x:=.c (.d (.sl (List.map Chord.cs l)))) rfl rfl trivial rfl) (OkOps.q (triLenG (enc:=Chord.cs) l rfl rfl rfl ⟨fun h=>h,trivial⟩ rfl) (OkOps.q (triQG (x:=aB (decide ((l.length : Int) > 20))) rfl rfl ⟨fun h=>h,trivial⟩ rfl) ?_))))))))))))))
 refine OkOps.q (triOr rfl rfl (fun h=>by rw [h];rfl) rfl) ?_
 refine OkOps.nil ?_
 refine Ok.cond (b:=(decide ((text.size : Int) > 200)) || (decide ((l.length : Int) > 20))) rfl (fun h1=>?_) (fun h1=>?_)
 have hr:=selT h1 hr
 refine Ok.seq (Ok.region (OkOps.y (aB true) (OkOps.nil (Ok.ret ?_))))
 obtain rfl:=Option.some.inj hr
 exact ⟨_,rfl,.inl rfl,trivial⟩
 have hr:=selF h1 hr
 refine Ok.skip (Ok.seq (Ok.region (OkOps.y (.c (.d (.sl (List.map (eInt .i64) p_n)))) ?_)))
 obtain ⟨x2,hx2,hr⟩:=bind_some hr
 refine OkOps.m 0 (triCall (tau [(0,0)]) (.s (.c (.loc 0 0))) [(0,.blk [.d (.sl (List.map (eInt .i64) x2.L)),cI x2.At] 74)] (b_New_c _ hx2) rfl ⟨.inl rfl,trivial⟩ trivial entry7 trivial rfl rfl rfl rfl ⟨rfl,trivial⟩ rfl rfl rfl) (OkOps.y (.c (.loc 0 0)) (OkOps.nil (Ok.seq (Ok.region (OkOps.y (.c (.d (.sl (List.map Chord.cs l)))) (OkOps.y (.c (.loc 0 0)) ?_))))))
 obtain ⟨x3,hx3,hr⟩:=bind_some hr
 refine OkOps.m 0 (triCl (tau [(0,0)]) (.s (.c (.d (.sl (List.map Chord.cs x3.1))))) [(0,.blk [.d (.sl (List.map (eInt .i64) x3.2.L)),cI x3.2.At] 74)] (b_Src_Chords_c _ hx3) rfl ⟨.inl rfl,trivial⟩ trivial entry12 ⟨rfl,trivial⟩) (OkOps.y (.c (.loc 0 0)) ?_)
 obtain ⟨x4,hx4,hr⟩:=bind_some hr
 refine OkOps.m 0 (triCl (tau [(0,0)]) (.s (.agg [cI x4.1.Key,cI x4.1.Mods])) [(0,.blk [.d (.sl (List.map (eInt .i64) x4.2.L)),cI x4.2.At] 74)] (b_Src_Chord_c _ hx4) rfl ⟨.inl rfl,trivial⟩ trivial entry13 ⟨rfl,trivial⟩) (OkOps.m 0 (triBST (sz:=2) (enc:=Chord.cs) (j:=1) ([x4.1]) rfl rfl rfl rfl rfl rfl rfl rfl (fun _=>rfl) trivial rfl rfl) (OkOps.y (.c (.loc 0 0)) ?_))
 obtain ⟨x5,hx5,hr⟩:=bind_some hr
 refine OkOps.m 0 (triCl (tau [(0,0)]) (.s (.agg [cI x5.1.Key,cI x5.1.Mods])) [(0,.blk [.d (.sl (List.map (eInt .i64) x5.2.L)),cI x5.2.At] 74)] (b_Src_Chord_c _ hx5) rfl ⟨.inl rfl,trivial⟩ trivial entry13 ⟨rfl,trivial⟩) (OkOps.y (.c (.loc 0 0)) ?_)
 obtain ⟨x6,hx6,hr⟩:=bind_some hr
 refine OkOps.m 0 (triCl (tau [(0,0)]) (.s (.agg [cI x6.1.Key,cI x6.1.Mods])) [(0,.blk [.d (.sl (List.map (eInt .i64) x6.2.L)),cI x6.2.At] 74)] (b_Src_Chord_c _ hx6) rfl ⟨.inl rfl,trivial⟩ trivial entry13 ⟨rfl,trivial⟩) (OkOps.y (.c (.loc 0 0)) ?_)
 obtain ⟨x7,hx7,hr⟩:=bind_some hr
 refine OkOps.m 0 (triCl (tau [(0,0)]) (.s (.agg [cI x7.1.Key,cI x7.1.Mods])) [(0,.blk [.d (.sl (List.map (eInt .i64) x7.2.L)),cI x7.2.At] 74)] (b_Src_Chord_c _ hx7) rfl ⟨.inl rfl,trivial⟩ trivial entry13 ⟨rfl,trivial⟩) (OkOps.m 0 (triBST (sz:=2) (enc:=Chord.cs) (j:=2) ([x5.1,x6.1,x7.1]) rfl rfl rfl rfl rfl rfl rfl rfl (fun _=>rfl) trivial rfl rfl) (OkOps.m 0 (triBST (sz:=1) (enc:=(eSl Chord.cs)) (j:=3) ([l,x3.1,[x4.1],[x5.1,x6.1,x7.1]]) rfl rfl rfl rfl rfl rfl rfl rfl (fun _=>rfl) trivial rfl rfl) (OkOps.y (.c (.tl 3 (List.map (eSl Chord.cs) ([l,x3.1,[x4.1],[x5.1,x6.1,x7.1]])))) (OkOps.nil ?_))))
 obtain ⟨k9,hk9,hr⟩:=jn_some hr
 refine Ok.join (fun (s8 : Unit)=>⟨[(0,.s (aS text)),(7,.s (.c (.loc 0 0)))],[(0,.blk [.d (.sl (List.map (eInt .i64) x7.2.L)),cI x7.2.At] 74)],0⟩) k9 r (fun s8 hr=>?_) ?_
 rw [hk9] at hr
 refine Ok.seq (Ok.region (OkOps.y (aS text) (OkOps.y (.c (.loc 0 0)) ?_)))
 obtain ⟨x10,hx10,hr⟩:=bind_some hr
 refine OkOps.m 0 (triCl (tau [(0,0)]) (.s (aS x10.1)) [(0,.blk [.d (.sl (List.map (eInt .i64) x10.2.L)),cI x10.2.At] 74)] (l32_pieces_c _ hx10) rfl ⟨.inl rfl,trivial⟩ trivial entry8 ⟨rfl,trivial⟩) (OkOps.y (.c (.loc 0 0)) ?_)
 obtain ⟨x11,hx11,hr⟩:=bind_some hr
 refine OkOps.m 0 (triCl (tau [(0,0)]) (.s (aS x11.1)) [(0,.blk [.d (.sl (List.map (eInt .i64) x11.2.L)),cI x11.2.At] 74)] (l32_pieces_c _ hx11) rfl ⟨.inl rfl,trivial⟩ trivial entry8 ⟨rfl,trivial⟩) (OkOps.y (.c (.loc 0 0)) ?_)
 obtain ⟨x12,hx12,hr⟩:=bind_some hr
 refine OkOps.m 0 (triCl (tau [(0,0)]) (.s (aS x12.1)) [(0,.blk [.d (.sl (List.map (eInt .i64) x12.2.L)),cI x12.2.At] 74)] (l32_pieces_c _ hx12) rfl ⟨.inl rfl,trivial⟩ trivial entry8 ⟨rfl,trivial⟩) (OkOps.m 0 (triBST (sz:=1) (enc:=eStr) (j:=4) ([text,x10.1,x11.1,x12.1]) rfl rfl rfl rfl rfl rfl rfl rfl (fun _=>rfl) trivial rfl rfl) (OkOps.y (.c (.tl 4 (List.map eStr ([text,x10.1,x11.1,x12.1])))) (OkOps.nil ?_)))
 obtain ⟨k14,hk14,hr⟩:=jn_some hr
 refine Ok.join (fun (s13 : Unit)=>⟨[],[],0⟩) k14 r (fun s13 hr=>?_) ?_
 rw [hk14] at hr
 refine Ok.seq (Ok.region ?_)
 obtain ⟨x15,hx15,hr⟩:=bind_some hr
 refine OkOps.q (triCl (tau []) (.s (aB x15)) [] (l32_awake_c  hx15) rfl trivial trivial entry16 trivial) (OkOps.y (aB x15) (OkOps.nil (Ok.ret ?_)))
 obtain rfl:=Option.some.inj hr
 exact ⟨_,rfl,.inl rfl,trivial⟩
 clear hk14
 refine Ok.seq (Ok.region (OkOps.y (aI 0) (OkOps.nil (Ok.block (Ok.loopK (fun (s16 : Int)=>⟨[(14,.s (.c (.tl 4 (List.map eStr ([text,x10.1,x11.1,x12.1]))))),(15,.s (aI s16))],[(4,.tail 1)],0⟩) hr (Conv.mk (tau []) ⟨⟨_,rfl,.inl rfl⟩,⟨_,rfl,.inl rfl⟩,trivial⟩ ⟨rfl,trivial⟩ rfl rfl rfl rfl) ?_)))))
 clear hr
 intro again17 s16 hr
 unfold l32_ShortcutBack_L1 at hr
 refine Ok.seq (Ok.seq (Ok.region (OkOps.y (aI s16) (OkOps.y (.c (.tl 4 (List.map eStr ([text,x10.1,x11.1,x12.1])))) (OkOps.q (triLen (enc:=eStr) ([text,x10.1,x11.1,x12.1]) rfl rfl trivial rfl) (OkOps.y (aB (decide (s16 < (([text,x10.1,x11.1,x12.1]).length : Int)))) (OkOps.nil ?_)))))))
 refine Ok.cond (b:=decide (s16 < (([text,x10.1,x11.1,x12.1]).length : Int))) rfl (fun h18=>?_) (fun h18=>?_)
 have hr:=selT h18 hr
 refine Ok.skip ?_
 obtain ⟨k20,hk20,hr⟩:=jn_some hr
 refine Ok.join (fun (s19 : Unit)=>⟨[(14,.s (.c (.tl 4 (List.map eStr ([text,x10.1,x11.1,x12.1]))))),(15,.s (aI s16))],[(4,.tail 1)],0⟩) k20 r (fun s19 hr=>?_) ?_
 rw [hk20] at hr
 refine Ok.region (OkOps.y (aI s16) (OkOps.y (aI (IntKind.i64.wrap (s16 + 1))) (OkOps.y (aI (IntKind.i64.wrap (s16 + 1))) (OkOps.nil ?_))))
 exact ⟨IntKind.i64.wrap (s16 + 1),hr,(Conv.mk (tau []) ⟨⟨_,rfl,.inl rfl⟩,⟨_,rfl,.inl rfl⟩,trivial⟩ ⟨rfl,trivial⟩ rfl rfl rfl rfl)⟩
 clear hk20
 refine Ok.block (Ok.seq (Ok.region (OkOps.y (.c (.tl 4 (List.map eStr ([text,x10.1,x11.1,x12.1])))) (OkOps.y (aI s16) ?_))))
 obtain ⟨x21,hx21,hr⟩:=bind_some hr
 refine OkOps.q (triIdx (enc:=eStr) (L:=[text,x10.1,x11.1,x12.1]) (row:=[dS x21]) hx21 rfl rfl rfl rfl (fun _=>rfl) trivial rfl) (OkOps.y (aS x21) ?_)
 obtain ⟨x22,hx22,hr⟩:=bind_some hr
 refine OkOps.q (triCl (tau []) (.tup [.c (.d (.sl (List.map Chord.cs x22.1))),aI x22.2]) [] (sc_Parse_c _ hx22) rfl ⟨.inl rfl,trivial⟩ trivial entry9 trivial) (OkOps.q (triMv (v:=.tup [.c (.d (.sl (List.map Chord.cs x22.1))),aI x22.2]) rfl rfl) (OkOps.y (.c (.d (.sl (List.map Chord.cs x22.1)))) (OkOps.y (aI x22.2) (OkOps.y (.c (.d (.sl (List.map Chord.cs x22.1)))) (OkOps.y (aI x22.2) (OkOps.nil (Ok.seq (Ok.seq (Ok.region (OkOps.y (aI x22.2) (OkOps.y (aB (x22.2 != 0)) (OkOps.nil ?_))))))))))))
 refine Ok.cond (b:=x22.2 != 0) rfl (fun h23=>?_) (fun h23=>?_)
 have hr:=selT h23 hr
 refine Ok.exit ?_
 exact ⟨(),hr,(Conv.mk (tau []) ⟨⟨_,rfl,.inl rfl⟩,⟨_,rfl,.inl rfl⟩,trivial⟩ ⟨rfl,trivial⟩ rfl rfl rfl rfl)⟩
 have hr:=selF h23 hr
 refine Ok.skip (Ok.seq (Ok.region (OkOps.y (.c (.d (.sl (List.map Chord.cs x22.1)))) ?_)))
 obtain ⟨x24,hx24,hr⟩:=bind_some hr
 refine OkOps.q (triCl (tau []) (.tup [aS x24.1,aI x24.2]) [] (sc_Format_c _ hx24) rfl ⟨.inl rfl,trivial⟩ trivial entry14 trivial) (OkOps.q (triMv (v:=.tup [aS x24.1,aI x24.2]) rfl rfl) (OkOps.y (aS x24.1) (OkOps.y (aI x24.2) (OkOps.y (aS x24.1) (OkOps.y (aI x24.2) (OkOps.nil (Ok.seq (Ok.region (OkOps.y (aI x24.2) (OkOps.y (aB (x24.2 != 0)) (OkOps.y (aB (x24.2 != 0)) (OkOps.q (triQG (x:=aS x24.1) rfl rfl trivial rfl) (OkOps.q (triQG (x:=.c (.tl 4 (List.map eStr ([text,x10.1,x11.1,x12.1])))) rfl rfl trivial rfl) (OkOps.q (triQG (x:=aI s16) rfl rfl trivial rfl) ?_))))))))))))))
 obtain ⟨x25,hx25,hr⟩:=bind_some hr
 refine OkOps.q (triIdxG (enc:=eStr) (L:=[text,x10.1,x11.1,x12.1]) (row:=[dS x25]) (gO_t hx25) rfl rfl rfl rfl rfl (fun _=>rfl) ⟨fun h=>h,⟨fun h=>h,trivial⟩⟩ rfl) (OkOps.q (triQG (x:=aS x25) rfl rfl ⟨fun h=>h,trivial⟩ rfl) (OkOps.q (triQG (x:=aB (!(x24.1.toList == x25.toList))) rfl rfl ⟨fun h=>h,⟨fun h=>h,trivial⟩⟩ rfl) ?_))
 refine OkOps.q (triOr rfl rfl (fun h=>by rw [h];rfl) rfl) ?_
 refine OkOps.nil ?_
 refine Ok.cond (b:=(x24.2 != 0) || (!(x24.1.toList == x25.toList))) rfl (fun h26=>?_) (fun h26=>?_)
 have hr:=selT h26 hr
 refine Ok.seq (Ok.region (OkOps.y (aB false) (OkOps.nil (Ok.ret ?_))))
 obtain rfl:=Option.some.inj hr
 exact ⟨_,rfl,.inl rfl,trivial⟩
 have hr:=selF h26 hr
 refine Ok.skip ?_
 exact ⟨(),hr,(Conv.mk (tau []) ⟨⟨_,rfl,.inl rfl⟩,⟨_,rfl,.inl rfl⟩,trivial⟩ ⟨rfl,trivial⟩ rfl rfl rfl rfl)⟩
 have hr:=selF h18 hr
 refine Ok.exit ?_
 exact ⟨(),hr,(Conv.mk (tau []) trivial trivial rfl rfl rfl rfl)⟩
 clear hk9
 refine Ok.seq (Ok.region (OkOps.y (aI 0) (OkOps.nil (Ok.block (Ok.loopK (fun (s27 : Int)=>⟨[(0,.s (aS text)),(7,.s (.c (.loc 0 0))),(8,.s (.c (.tl 3 (List.map (eSl Chord.cs) ([l,x3.1,[x4.1],[x5.1,x6.1,x7.1]]))))),(9,.s (aI s27))],[(0,.blk [.d (.sl (List.map (eInt .i64) x7.2.L)),cI x7.2.At] 74),(3,.tail 1)],0⟩) hr (Conv.mk (tau []) ⟨⟨_,rfl,.inl rfl⟩,⟨_,rfl,.inl rfl⟩,⟨_,rfl,.inl rfl⟩,⟨_,rfl,.inl rfl⟩,trivial⟩ ⟨rfl,rfl,trivial⟩ rfl rfl rfl rfl) ?_)))))
 clear hr
 intro again28 s27 hr
 unfold l32_ShortcutBack_L2 at hr
 refine Ok.seq (Ok.seq (Ok.region (OkOps.y (aI s27) (OkOps.y (.c (.tl 3 (List.map (eSl Chord.cs) ([l,x3.1,[x4.1],[x5.1,x6.1,x7.1]])))) (OkOps.q (triLen (enc:=(eSl Chord.cs)) ([l,x3.1,[x4.1],[x5.1,x6.1,x7.1]]) rfl rfl trivial rfl) (OkOps.y (aB (decide (s27 < (([l,x3.1,[x4.1],[x5.1,x6.1,x7.1]]).length : Int)))) (OkOps.nil ?_)))))))
 refine Ok.cond (b:=decide (s27 < (([l,x3.1,[x4.1],[x5.1,x6.1,x7.1]]).length : Int))) rfl (fun h29=>?_) (fun h29=>?_)
 have hr:=selT h29 hr
 refine Ok.skip ?_
 obtain ⟨k31,hk31,hr⟩:=jn_some hr
 refine Ok.join (fun (s30 : Unit)=>⟨[(0,.s (aS text)),(7,.s (.c (.loc 0 0))),(8,.s (.c (.tl 3 (List.map (eSl Chord.cs) ([l,x3.1,[x4.1],[x5.1,x6.1,x7.1]]))))),(9,.s (aI s27))],[(0,.blk [.d (.sl (List.map (eInt .i64) x7.2.L)),cI x7.2.At] 74),(3,.tail 1)],0⟩) k31 r (fun s30 hr=>?_) ?_
 rw [hk31] at hr
 refine Ok.region (OkOps.y (aI s27) (OkOps.y (aI (IntKind.i64.wrap (s27 + 1))) (OkOps.y (aI (IntKind.i64.wrap (s27 + 1))) (OkOps.nil ?_))))
 exact ⟨IntKind.i64.wrap (s27 + 1),hr,(Conv.mk (tau []) ⟨⟨_,rfl,.inl rfl⟩,⟨_,rfl,.inl rfl⟩,⟨_,rfl,.inl rfl⟩,⟨_,rfl,.inl rfl⟩,trivial⟩ ⟨rfl,rfl,trivial⟩ rfl rfl rfl rfl)⟩
 clear hk31
 refine Ok.block (Ok.seq (Ok.region (OkOps.y (.c (.tl 3 (List.map (eSl Chord.cs) ([l,x3.1,[x4.1],[x5.1,x6.1,x7.1]])))) (OkOps.y (aI s27) ?_))))
 obtain ⟨x32,hx32,hr⟩:=bind_some hr
 refine OkOps.q (triIdx (enc:=(eSl Chord.cs)) (L:=[l,x3.1,[x4.1],[x5.1,x6.1,x7.1]]) (row:=[.sl (List.map Chord.cs x32)]) hx32 rfl rfl rfl rfl (fun _=>rfl) trivial rfl) (OkOps.y (.c (.d (.sl (List.map Chord.cs x32)))) ?_)
 obtain ⟨x33,hx33,hr⟩:=bind_some hr
 refine OkOps.q (triCl (tau []) (.tup [aS x33.1,aI x33.2]) [] (sc_Format_c _ hx33) rfl ⟨.inl rfl,trivial⟩ trivial entry14 trivial) (OkOps.q (triMv (v:=.tup [aS x33.1,aI x33.2]) rfl rfl) (OkOps.y (aS x33.1) (OkOps.y (aI x33.2) (OkOps.y (aS x33.1) (OkOps.y (aI x33.2) (OkOps.nil (Ok.seq (Ok.seq (Ok.region (OkOps.y (aI x33.2) (OkOps.y (aB (x33.2 != 0)) (OkOps.nil ?_))))))))))))
 refine Ok.cond (b:=x33.2 != 0) rfl (fun h34=>?_) (fun h34=>?_)
 have hr:=selT h34 hr
 refine Ok.exit ?_
 exact ⟨(),hr,(Conv.mk (tau []) ⟨⟨_,rfl,.inl rfl⟩,⟨_,rfl,.inl rfl⟩,⟨_,rfl,.inl rfl⟩,⟨_,rfl,.inl rfl⟩,trivial⟩ ⟨rfl,rfl,trivial⟩ rfl rfl rfl rfl)⟩
 have hr:=selF h34 hr
 refine Ok.skip (Ok.seq (Ok.region (OkOps.y (aS x33.1) ?_)))
 obtain ⟨x35,hx35,hr⟩:=bind_some hr
 refine OkOps.q (triCl (tau []) (.tup [.c (.d (.sl (List.map Chord.cs x35.1))),aI x35.2]) [] (sc_Parse_c _ hx35) rfl ⟨.inl rfl,trivial⟩ trivial entry9 trivial) (OkOps.q (triMv (v:=.tup [.c (.d (.sl (List.map Chord.cs x35.1))),aI x35.2]) rfl rfl) (OkOps.y (.c (.d (.sl (List.map Chord.cs x35.1)))) (OkOps.y (aI x35.2) (OkOps.y (.c (.d (.sl (List.map Chord.cs x35.1)))) (OkOps.y (aI x35.2) (OkOps.nil (Ok.seq (Ok.region (OkOps.y (aI x35.2) (OkOps.y (aB (x35.2 != 0)) (OkOps.y (aB (x35.2 != 0)) (OkOps.q (triQG (x:=.c (.d (.sl (List.map Chord.cs x35.1)))) rfl rfl trivial rfl) (OkOps.q (triQG (x:=.c (.tl 3 (List.map (eSl Chord.cs) ([l,x3.1,[x4.1],[x5.1,x6.1,x7.1]])))) rfl rfl trivial rfl) (OkOps.q (triQG (x:=aI s27) rfl rfl trivial rfl) ?_))))))))))))))
 obtain ⟨x36,hx36,hr⟩:=bind_some hr
 refine OkOps.q (triIdxG (enc:=(eSl Chord.cs)) (L:=[l,x3.1,[x4.1],[x5.1,x6.1,x7.1]]) (row:=[.sl (List.map Chord.cs x36)]) (gO_t hx36) rfl rfl rfl rfl rfl (fun _=>rfl) ⟨fun h=>h,⟨fun h=>h,trivial⟩⟩ rfl) (OkOps.q (triQG (x:=.c (.d (.sl (List.map Chord.cs x36)))) rfl rfl ⟨fun h=>h,trivial⟩ rfl) ?_)
 obtain ⟨x37,hx37,hr⟩:=bind_some hr
 refine OkOps.q (triCallG (x:=aB x37) (fun hg=>l32_same_c _ _ (gO_t hx37 hg)) rfl rfl ⟨.inl rfl,.inl rfl,trivial⟩ ⟨fun h=>h,⟨fun h=>h,trivial⟩⟩ entry11 rfl rfl rfl) (OkOps.q (triQG (x:=aB (!x37)) rfl rfl ⟨fun h=>h,trivial⟩ rfl) ?_)
 refine OkOps.q (triOr rfl rfl (fun h=>by rw [h];rfl) rfl) ?_
 refine OkOps.nil ?_
 refine Ok.cond (b:=(x35.2 != 0) || (!x37)) rfl (fun h38=>?_) (fun h38=>?_)
 have hr:=selT h38 hr
 refine Ok.seq (Ok.region (OkOps.y (aB false) (OkOps.nil (Ok.ret ?_))))
 obtain rfl:=Option.some.inj hr
 exact ⟨_,rfl,.inl rfl,trivial⟩
 have hr:=selF h38 hr
 refine Ok.skip ?_
 exact ⟨(),hr,(Conv.mk (tau []) ⟨⟨_,rfl,.inl rfl⟩,⟨_,rfl,.inl rfl⟩,⟨_,rfl,.inl rfl⟩,⟨_,rfl,.inl rfl⟩,trivial⟩ ⟨rfl,rfl,trivial⟩ rfl rfl rfl rfl)⟩
 have hr:=selF h29 hr
 refine Ok.exit ?_
 exact ⟨(),hr,(Conv.mk (tau []) ⟨⟨_,rfl,.inl rfl⟩,⟨_,rfl,.inl rfl⟩,trivial⟩ ⟨rfl,trivial⟩ rfl rfl rfl rfl)⟩
end Go.Proofs.YtobiohcdpfpefaaDoor
end

/-
  Part 1 of the texts under the law FocusRaw: the calculus, the plain functions, their walks, plain facts.
-/
import GoSem.Core.Utf8
import Derived.Tactics
import GoSem.Claims
import Derived.Below
import Derived.Orders
import Derived.OrdersIn
import Derived.TacticsIn
import Derived.LoopNIn
import Derived.RangeFuncLeaves
import Derived.RangeFuncRecord
import Derived.Laws.StructEq
import Derived.ChangeKeysEq
section
namespace Go.E2
abbrev Str:=ByteArray
def N0:Nat:=9223372036854775808
def sel {α:Type} (c:Bool) (a b:α):α:=match c with
 | true=>a
 | false=>b
theorem yv {α:Type} {c:Bool} (h:c=true) (a b:α):sel c a b=a:=by subst h;rfl
theorem yw {α:Type} {c:Bool} (h:c=false) (a b:α):sel c a b=b:=by subst h;rfl
theorem selT {α:Type} {c:Bool} {a b r:α} (h:c=true) (hr:sel c a b=r):a=r:=(yv h a b).symm.trans hr
theorem selF {α:Type} {c:Bool} {a b r:α} (h:c=false) (hr:sel c a b=r):b=r:=(yw h a b).symm.trans hr
theorem bind_some {α β:Type} {o:Option α} {k:α→Option β} {r:β} (h:o.bind k=some r):∃ x,o=some x∧k x=some r:=by
 cases o with
 | none=>cases h
 | some x=>exact ⟨x,rfl,h⟩
def gO {α:Type} [Inhabited α] (g:Bool) (o:Option α):Option α:=sel g o (some default)
theorem cQ {α:Type} [Inhabited α] {g:Bool} {o:Option α} {x:α} (h:gO g o=some x) (hg:g=true):o=some x:=selT hg h
def loopK {S R:Type} (B:(S→Option R)→S→Option R):Nat→S→Option R
 | 0,_=>none
 | n+1,s=>B (loopK B n) s
def jn {S R:Type} (k:S→Option R) (b:(S→Option R)→Option R):Option R:=b k
def idxO {α:Type} (L:List α):Int→Option α
 | .ofNat k=>L[k]?
 | .negSucc _=>none
theorem qw {α:Type} {L:List α} {i:Int} {x:α} (h:idxO L i=some x):0≤i∧i<L.length∧L[i.toNat]? = some x:=by
 cases i with
 | ofNat k =>
  have h':L[k]? = some x:=h
  have:=(List.getElem?_eq_some_iff.1 h').1
  exact ⟨Int.natCast_nonneg k,Int.ofNat_lt.mpr this,h'⟩
 | negSucc k=>cases h
def slcO {α:Type} (L:List α) (lo hi:Int):Option (List α):=if 0≤lo∧lo≤hi∧hi≤L.length then some ((L.take hi.toNat).drop lo.toNat) else none
theorem pO {α:Type} {L R:List α} {lo hi:Int} (h:slcO L lo hi=some R):0≤lo∧lo≤hi∧hi≤L.length∧R=(L.take hi.toNat).drop lo.toNat:=by
 unfold slcO at h
 split at h
 ·rename_i hc;cases h;exact ⟨hc.1,hc.2.1,hc.2.2,rfl⟩
 ·cases h
def appO {α:Type} (L X:List α):Option (List α):=if L.length+X.length≤1073741824 then some (L++X) else none
theorem lr {α:Type} {L X R:List α} (h:appO L X=some R):L.length+X.length≤1073741824∧R=L++X:=by
 unfold appO at h
 split at h
 ·rename_i hc;cases h;exact ⟨hc,rfl⟩
 ·cases h
def ixO (n:Nat):Int→Option Nat
 | .ofNat k=>if k<n then some k else none
 | .negSucc _=>none
theorem e9 {n:Nat} {i:Int} {k:Nat} (h:ixO n i=some k):i=(k:Int)∧k<n:=by
 unfold ixO at h
 split at h
 ·split at h
  ·rename_i hk;cases h;exact ⟨rfl,hk⟩
  ·cases h
 ·cases h
def sidxO (s:Str) (i:Int):Option Int:=if 0≤i then (s[i.toNat]?).map (fun b=>(b.toNat:Int)) else none
def sslcO (s:Str) (lo hi:Int):Option Str:=if 0≤lo∧lo≤hi∧hi≤s.size then some (s.extract lo.toNat hi.toNat) else none
def nzO {α:Type} (b:Int) (x:α):Option α:=if b=0 then none else some x
theorem wX {α:Type} {b:Int} {x y:α} (h:nzO b x=some y):b≠0∧y=x:=by
 unfold nzO at h
 split at h
 ·cases h
 ·rename_i hb;cases h;exact ⟨hb,rfl⟩
def runesF (s:Str):Nat→Nat→List Int
 | 0,_=>[]
 | n+1,i=>if i<s.size then (Int.ofNat (Utf8.decode s i).1) :: runesF s n (i+(Utf8.decode s i).2) else []
def runes (s:Str):List Int:=runesF s s.size 0
def ofRunes (l:List Int):Str:=l.foldl (fun s n=>s++Utf8.encode n) ByteArray.empty
def utf8First:List Int:=[240,240,240,240,240,240,240,240,240,240,240,240,240,240,240,240,240,240,240,240,240,240,240,240,240,240,240,240,240,240,240,240,240,240,240,240,240,240,240,240,240,240,240,240,240,240,240,240,240,240,240,240,240,240,240,240,240,240,240,240,240,240,240,240,240,240,240,240,240,240,240,240,240,240,240,240,240,240,240,240,240,240,240,240,240,240,240,240,240,240,240,240,240,240,240,240,240,240,240,240,240,240,240,240,240,240,240,240,240,240,240,240,240,240,240,240,240,240,240,240,240,240,240,240,240,240,240,240,241,241,241,241,241,241,241,241,241,241,241,241,241,241,241,241,241,241,241,241,241,241,241,241,241,241,241,241,241,241,241,241,241,241,241,241,241,241,241,241,241,241,241,241,241,241,241,241,241,241,241,241,241,241,241,241,241,241,241,241,241,241,241,241,241,241,2,2,2,2,2,2,2,2,2,2,2,2,2,2,2,2,2,2,2,2,2,2,2,2,2,2,2,2,2,2,19,3,3,3,3,3,3,3,3,3,3,3,3,35,3,3,52,4,4,4,68,241,241,241,241,241,241,241,241,241,241,241]
def utf8Accept:List (Int×Int):=[(128,191),(160,191),(128,159),(144,191),(128,143),(0,0),(0,0),(0,0),(0,0),(0,0),(0,0),(0,0),(0,0),(0,0),(0,0),(0,0)]
def styProps:List (Bool×Int×Int×Int):=[(true,0,16777215,0),(false,-1,16777215,-1),(true,1,1000,16),(true,0,7,0),(true,0,1,0),(false,0,4,1),(false,0,4,3),(false,0,3,0),(true,0,2,0),(false,0,1048576,0),(false,0,1000,0),(false,0,1000,1),(false,-1,1048576,-1),(false,0,1048576,0),(false,0,1048576,1048576),(false,0,1048576,0),(false,0,1048576,1048576),(false,0,1048576,0),(false,0,1048576,0),(false,0,1048576,0),(false,0,1048576,0),(true,0,1,0)]
end Go.E2
end
section
namespace Go.E2
structure Mem where
 cell:Nat→Nat→Option Value
 obj:Nat→Option Obj
 /-- blocks of a known size whose contents nobody reads -/
 junk:Nat→Option Nat:=fun _=>none
structure Mem.le (M M':Mem):Prop where
 cell:∀ b o v,M.cell b o=some v→M'.cell b o=some v
 obj:∀ b o,M.obj b=some o→M'.obj b=some o
 junk:∀ b s,M.junk b=some s→M'.junk b=some s:=by exact fun _ _ h=>h
theorem Mem.le_refl (M:Mem):M.le M:=⟨fun _ _ _ h=>h,fun _ _ h=>h,fun _ _ h=>h⟩
theorem Mem.le.trans {a b c:Mem} (h:a.le b) (h':b.le c):a.le c:=⟨fun x o v hx=>h'.cell x o v (h.cell x o v hx),fun x o hx=>h'.obj x o (h.obj x o hx),fun x o hx=>h'.junk x o (h.junk x o hx)⟩
structure Mem.sim (M M':Mem):Prop where
 cell:∀ b o v,M.cell b o=some v→M'.cell b o=some v
 obj:∀ b es c,M.obj b=some (.map es c)→M'.obj b=some (.map es c)
 junk:∀ b s,M.junk b=some s→M'.junk b=some s:=by exact fun _ _ h=>h
theorem Mem.le.sim {M M':Mem} (h:M.le M'):M.sim M':=⟨h.cell,fun b _es _c=>h.obj b _,h.junk⟩
def Tab (P : Program) (M : Mem) : Prop :=
 (∀ g : Nat, P.globalNamed "unicode/utf8.first" = some g → ∀ (k : Nat) x, utf8First[k]? = some x → M.cell g k = some (.int .u8 x)) ∧
 (∀ g : Nat, P.globalNamed "unicode/utf8.acceptRanges" = some g → ∀ (k : Nat) x, utf8Accept[k]? = some x → M.cell g (k * 2) = some (.int .u8 x.1) ∧ M.cell g (k * 2 + 1) = some (.int .u8 x.2)) ∧
 (∀ g : Nat, P.globalNamed "widgetry/style.properties" = some g → ∀ (k : Nat) x, styProps[k]? = some x → M.cell g (k * 4) = some (.bool x.1) ∧ M.cell g (k * 4 + 1) = some (.int .i64 x.2.1) ∧ M.cell g (k * 4 + 2) = some (.int .i64 x.2.2.1) ∧ M.cell g (k * 4 + 3) = some (.int .i64 x.2.2.2))
theorem Tab.mono {P:Program} {M M':Mem} (h:Tab P M) (hle:M.le M'):Tab P M' :=
 ⟨fun g hg k x hx=>hle.cell _ _ _ (h.1 g hg k x hx),fun g hg k x hx=>⟨hle.cell _ _ _ (h.2.1 g hg k x hx).1,hle.cell _ _ _ (h.2.1 g hg k x hx).2⟩,fun g hg k x hx=>⟨hle.cell _ _ _ (h.2.2 g hg k x hx).1,hle.cell _ _ _ (h.2.2 g hg k x hx).2.1,hle.cell _ _ _ (h.2.2 g hg k x hx).2.2.1,hle.cell _ _ _ (h.2.2 g hg k x hx).2.2.2⟩⟩
inductive D where
 | v (x:Value)
 | sl (l:List (List D))
 | mp (agg:Bool) (l:List (Value×List D))
 /-- a slice of what nobody reads: the size of its rows,its length -/
 | js (sz n:Nat)
def mkVal (agg:Bool) (n:Nat) (g:Nat→Value):Value:=match agg with
 | true=>.agg ((List.range n).map g).toArray
 | false=>g 0
inductive Rep (M : Mem) : D → Value → Prop
  | v (x : Value) : Rep M (.v x) x
  | nil {a : Option Addr} {cap : Nat} : Rep M (.sl []) (.slice a 0 cap)
  | sl {l : List (List D)} {b off cap sz : Nat} {f : Nat → Nat → Value} (hc : l.length ≤ cap) (hl : ∀ (i : Nat) row, l[i]? = some row → row.length = sz)
      (hm : ∀ (i : Nat) row (j : Nat) d, l[i]? = some row → row[j]? = some d → M.cell b (off + i * sz + j) = some (f i j))
      (he : ∀ (i : Nat) row (j : Nat) d, l[i]? = some row → row[j]? = some d → Rep M d (f i j)) : Rep M (.sl l) (.slice (some ⟨b, off, none⟩) l.length cap)
  | mp0 {agg : Bool} : Rep M (.mp agg []) (.map none)
  | mp {agg : Bool} {l : List (Value × List D)} {r clock : Nat} {es : Array MapEntry} {f : Nat → Nat → Value} (ho : M.obj r = some (.map es clock)) (hs : es.size = l.length)
      (hk : ∀ (i : Nat) k row, l[i]? = some (k, row) → ∃ born, es[i]? = some ⟨k, mkVal agg row.length (f i), born⟩)
      (he : ∀ (i : Nat) k row (j : Nat) d, l[i]? = some (k, row) → row[j]? = some d → Rep M d (f i j)) : Rep M (.mp agg l) (.map (some r))
  | js0 {sz : Nat} : Rep M (.js sz 0) (.slice none 0 0)
  | js {sz b off len cap s : Nat} (hj : M.junk b = some s) (hl : len ≤ cap) (hs : off + cap * sz ≤ s) : Rep M (.js sz len) (.slice (some ⟨b, off, none⟩) len cap)
theorem Rep.monoS {M M':Mem} (h:M.sim M') {d:D} {v:Value} (hr:Rep M d v):Rep M' d v:=by
 induction hr with
 | v x=>exact .v x
 | nil=>exact .nil
 | sl hc hl hm _ ih=>exact .sl hc hl (fun i row j d h1 h2=>h.cell _ _ _ (hm i row j d h1 h2)) ih
 | mp0=>exact .mp0
 | mp ho hs hk _ ih=>exact .mp (h.obj _ _ _ ho) hs hk ih
 | js0=>exact .js0
 | js hj hl hs=>exact .js (h.junk _ _ hj) hl hs
theorem Rep.mono {M M':Mem} (h:M.le M') {d:D} {v:Value} (hr:Rep M d v):Rep M' d v:=hr.monoS h.sim
inductive Cell where
 /-- a datum -/
 | d (x:D)
 /-- a pointer into an owned object -/
 | loc (j off:Nat)
 /-- a pointer to data that stay -/
 | pt (row:List D)
 /-- a slice of data that stay,whose room behind it is the object j -/
 | tl (j:Nat) (l:List (List D))
 /-- the slice or map that is the object j -/
 | own (j:Nat)
 /-- a pointer into the slice that is the object j -/
 | vl (j off:Nat)
 /-- a function with captured pointers into owned objects -/
 | fn (f:FuncId) (caps:List (Nat×Nat))
inductive A1 where
 | c (x:Cell)
 | agg (cs:List Cell)
inductive AV where
 | s (x:A1)
 | gd (g:Bool) (x:A1)
 | tup (xs:List A1)
inductive Ob where
 | dead
 | blk (cs:List Cell) (ty:TypeId)
 | tail (sz:Nat)
 | vec (sz:Nat) (l:List (List D))
 | mp (agg:Bool) (l:List (Value×List D))
 | obj (o:Obj)
abbrev Env:=Nat→Value
def blockOf:Value→Nat
 | .pointer (some a)=>a.block
 | _=>0
def ptr (ρ:Env) (j off:Nat):Value:=.pointer (some ⟨blockOf (ρ j),off,none⟩)
def vptr (ρ:Env) (j off:Nat):Value:=match ρ j with
 | .slice (some a) _ _=>.pointer (some ⟨a.block,a.off+off,none⟩)
 | _=>.pointer none
def PtRep (M:Mem) (row:List D) (v:Value):Prop:=∃ b off,v=.pointer (some ⟨b,off,none⟩)∧∀ (j:Nat) d,row[j]? = some d→∃ u,M.cell b (off+j)=some u∧Rep M d u
def Cell.rep (ρ:Env) (M:Mem):Cell→Value→Prop
 | .d x,v=>Rep M x v
 | .loc j off,v=>v=ptr ρ j off
 | .pt row,v=>PtRep M row v
 | .tl j l,v=>v=ρ j∧Rep M (.sl l) v
 | .own j,v=>v=ρ j
 | .vl j off,v=>v=vptr ρ j off
 | .fn f caps,v=>v=.func (.func f) #[] (caps.map fun p=>ptr ρ p.1 p.2).toArray
def Reps (ρ:Env) (M:Mem):List Cell→List Value→Prop
 | [],[]=>True
 | c :: cs,v :: vs=>c.rep ρ M v∧Reps ρ M cs vs
 | _,_=>False
def A1.rep (ρ:Env) (M:Mem):A1→Value→Prop
 | .c x,v=>x.rep ρ M v
 | .agg cs,v=>∃ arr:Array Value,v=.agg arr∧Reps ρ M cs arr.toList
def A1.reps (ρ:Env) (M:Mem):List A1→List Value→Prop
 | [],[]=>True
 | x :: xs,v :: vs=>x.rep ρ M v∧A1.reps ρ M xs vs
 | _,_=>False
def AV.rep (ρ:Env) (M:Mem):AV→Value→Prop
 | .s x,v=>x.rep ρ M v
 | .gd g x,v=>match g with | true=>x.rep ρ M v | false=>v=undef
 | .tup xs,v=>∃ arr:Array Value,v=.tuple arr∧A1.reps ρ M xs arr.toList
theorem PtRep.monoS {M M':Mem} (h:M.sim M') {row:List D} {v:Value} (hr:PtRep M row v):PtRep M' row v:=by
 obtain ⟨b,off,rfl,hd⟩:=hr
 exact ⟨b,off,rfl,fun j d hj=>let ⟨u,h1,h2⟩:=hd j d hj;⟨u,h.cell _ _ _ h1,h2.monoS h⟩⟩
theorem PtRep.mono {M M':Mem} (h:M.le M') {row:List D} {v:Value} (hr:PtRep M row v):PtRep M' row v:=hr.monoS h.sim
theorem Cell.rep.monoS {ρ:Env} {M M':Mem} (h:M.sim M') {c:Cell} {v:Value} (hr:c.rep ρ M v):c.rep ρ M' v:=by
 cases c with
 | d x=>exact Rep.monoS h hr
 | loc j off=>exact hr
 | pt row=>exact PtRep.monoS h hr
 | tl j l=>exact ⟨hr.1,hr.2.monoS h⟩
 | own j=>exact hr
 | vl j off=>exact hr
 | fn f caps=>exact hr
theorem Cell.rep.mono {ρ:Env} {M M':Mem} (h:M.le M') {c:Cell} {v:Value} (hr:c.rep ρ M v):c.rep ρ M' v:=Cell.rep.monoS h.sim hr
theorem Reps.monoS {ρ:Env} {M M':Mem} (h:M.sim M'):∀ {cs:List Cell} {vs:List Value},Reps ρ M cs vs→Reps ρ M' cs vs
 | [],[],_=>trivial
 | _ :: _,_ :: _,hr=>⟨Cell.rep.monoS h hr.1,Reps.monoS h hr.2⟩
 | [],_ :: _,hr=>hr.elim
 | _ :: _,[],hr=>hr.elim
theorem Reps.mono {ρ:Env} {M M':Mem} (h:M.le M') {cs:List Cell} {vs:List Value} (hr:Reps ρ M cs vs):Reps ρ M' cs vs:=Reps.monoS h.sim hr
theorem A1.rep.monoS {ρ:Env} {M M':Mem} (h:M.sim M') {x:A1} {v:Value} (hr:x.rep ρ M v):x.rep ρ M' v:=by
 cases x with
 | c y=>exact Cell.rep.monoS h hr
 | agg cs=>obtain ⟨arr,rfl,h2⟩:=hr;exact ⟨arr,rfl,h2.monoS h⟩
theorem A1.rep.mono {ρ:Env} {M M':Mem} (h:M.le M') {x:A1} {v:Value} (hr:x.rep ρ M v):x.rep ρ M' v:=A1.rep.monoS h.sim hr
theorem A1.reps.monoS {ρ:Env} {M M':Mem} (h:M.sim M'):∀ {cs:List A1} {vs:List Value},A1.reps ρ M cs vs→A1.reps ρ M' cs vs
 | [],[],_=>trivial
 | _ :: _,_ :: _,hr=>⟨A1.rep.monoS h hr.1,A1.reps.monoS h hr.2⟩
 | [],_ :: _,hr=>hr.elim
 | _ :: _,[],hr=>hr.elim
theorem A1.reps.mono {ρ:Env} {M M':Mem} (h:M.le M') {cs:List A1} {vs:List Value} (hr:A1.reps ρ M cs vs):A1.reps ρ M' cs vs:=A1.reps.monoS h.sim hr
theorem AV.rep.monoS {ρ:Env} {M M':Mem} (h:M.sim M') {x:AV} {v:Value} (hr:x.rep ρ M v):x.rep ρ M' v:=by
 cases x with
 | s y=>exact A1.rep.monoS h hr
 | gd g y=>cases g with
  | true=>exact A1.rep.monoS (x:=y) h hr
  | false=>exact hr
 | tup xs=>obtain ⟨arr,rfl,h2⟩:=hr;exact ⟨arr,rfl,h2.monoS h⟩
theorem AV.rep.mono {ρ:Env} {M M':Mem} (h:M.le M') {x:AV} {v:Value} (hr:x.rep ρ M v):x.rep ρ M' v:=AV.rep.monoS h.sim hr
def Ob.blkOf:Ob→Value→Option Nat
 | .blk _ _,v=>some (blockOf v)
 | .tail _,.slice (some a) n c=>if n<c then some a.block else none
 | .vec _ _,.slice (some a) _ c=>if 0<c then some a.block else none
 | .mp _ _,.map (some r)=>some r
 | .obj _,v=>some (blockOf v)
 | _,_=>none
def Born (es:Array MapEntry) (clock:Nat):Prop:=clock=es.size∧∀ (i:Nat) e,es[i]? = some e→e.born=i
def Inv1 (ρ : Env) (M : Mem) (w : World) (ob : Ob) (v : Value) : Prop := match ob with
  | .dead => True
  | .blk cs ty => (∃ arr, w.heap[blockOf v]? = some (.cells arr ty (0, 0)) ∧ Reps ρ M cs arr.toList) ∧ ∀ o, M.cell (blockOf v) o = none
  | .tail sz => ∃ a len cap, v = .slice a len cap ∧ len ≤ cap ∧ (len < cap → ∃ b off arr ty, a = some ⟨b, off, none⟩ ∧ w.heap[b]? = some (.cells arr ty (0, 0)) ∧ off + cap * sz ≤ arr.size ∧ ∀ o, off + len * sz ≤ o → M.cell b o = none)
  | .vec sz l => ∃ a cap, v = .slice a l.length cap ∧ l.length ≤ cap ∧ (∀ (i : Nat) row, l[i]? = some row → row.length = sz) ∧ (0 < cap → ∃ (b off : Nat) (arr : Array Value) (ty : TypeId) (f : Nat → Nat → Value), a = some ⟨b, off, none⟩ ∧ w.heap[b]? = some (.cells arr ty (0, 0)) ∧ off + cap * sz ≤ arr.size ∧
      (∀ o, M.cell b o = none) ∧ (∀ (i : Nat) row (j : Nat) d, l[i]? = some row → row[j]? = some d → arr[off + i * sz + j]? = some (f i j) ∧ Rep M d (f i j)))
  | .mp agg l => ∃ (r : Nat) (es : Array MapEntry) (clock : Nat) (f : Nat → Nat → Value), v = .map (some r) ∧ w.heap[r]? = some (.map es clock) ∧ M.obj r = none ∧ es.size = l.length ∧ (∀ (i : Nat) k row, l[i]? = some (k, row) → ∃ born, es[i]? = some ⟨k, mkVal agg row.length (f i), born⟩) ∧
      (∀ (i : Nat) k row (j : Nat) d, l[i]? = some (k, row) → row[j]? = some d → Rep M d (f i j)) ∧ Born es clock
  | .obj o => w.heap[blockOf v]? = some o ∧ M.obj (blockOf v) = none ∧ ∀ c t f, o ≠ .cells c t f
theorem Inv1.keepS {ρ:Env} {M M':Mem} {w w':World} {ob:Ob} {v:Value} (h:Inv1 ρ M w ob v) (hle:M.sim M')
  (hb:∀ b,ob.blkOf v=some b→w'.heap[b]? = w.heap[b]? ∧ (∀ o,M'.cell b o=M.cell b o)∧M'.obj b=M.obj b):Inv1 ρ M' w' ob v:=by
 cases ob with
 | dead=>trivial
 | blk cs ty =>
  obtain ⟨h1,h2,_⟩:=hb _ rfl
  obtain ⟨⟨arr,ha,hr⟩,hn⟩:=h
  exact ⟨⟨arr,h1.trans ha,hr.monoS hle⟩,fun o=>(h2 o).trans (hn o)⟩
 | tail sz =>
  obtain ⟨a,len,cap,rfl,hl,hx⟩:=h
  refine ⟨a,len,cap,rfl,hl,fun hlt=>?_⟩
  obtain ⟨b,off,arr,ty,rfl,h1,h2,h3⟩:=hx hlt
  obtain ⟨g1,g2,_⟩:=hb b (by simp [Ob.blkOf,hlt])
  exact ⟨b,off,arr,ty,rfl,g1.trans h1,h2,fun o ho=>(g2 o).trans (h3 o ho)⟩
 | vec sz l =>
  obtain ⟨a,cap,rfl,hl,hrow,hx⟩:=h
  refine ⟨a,cap,rfl,hl,hrow,fun hlt=>?_⟩
  obtain ⟨b,off,arr,ty,f,rfl,h1,h2,h3,h4⟩:=hx hlt
  obtain ⟨g1,g2,_⟩:=hb b (by simp [Ob.blkOf,hlt])
  exact ⟨b,off,arr,ty,f,rfl,g1.trans h1,h2,fun o=>(g2 o).trans (h3 o),fun i row j d hi hj=>⟨(h4 i row j d hi hj).1,(h4 i row j d hi hj).2.monoS hle⟩⟩
 | mp agg l =>
  obtain ⟨r,es,clock,f,rfl,h1,h2,h3,h4,h5,h6⟩:=h
  obtain ⟨g1,_,g3⟩:=hb r rfl
  exact ⟨r,es,clock,f,rfl,g1.trans h1,g3.trans h2,h3,h4,fun i k row j d hi hj=>(h5 i k row j d hi hj).monoS hle,h6⟩
 | obj o =>
  obtain ⟨g1,_,g3⟩:=hb _ rfl
  exact ⟨g1.trans h.1,g3.trans h.2.1,h.2.2⟩
theorem Inv1.keep {ρ:Env} {M M':Mem} {w w':World} {ob:Ob} {v:Value} (h:Inv1 ρ M w ob v) (hle:M.le M')
  (hb:∀ b,ob.blkOf v=some b→w'.heap[b]? = w.heap[b]? ∧ (∀ o,M'.cell b o=M.cell b o)∧M'.obj b=M.obj b):Inv1 ρ M' w' ob v:=h.keepS hle.sim hb
def look {α:Type}:List (Nat×α)→Nat→Option α
 | [],_=>none
 | (k,v) :: r,n=>match Nat.beq k n with
  | true=>some v
  | false=>look r n
theorem nq {a b:Nat} (h:a≠b):Nat.beq a b=false:=by
 cases hb:Nat.beq a b with
 | false=>rfl
 | true=>exact absurd (Nat.eq_of_beq_eq_true hb) h
theorem au {α:Type} (k:Nat) (v:α) (r:List (Nat×α)) (n:Nat):look ((k,v) :: r) n=if k=n then some v else look r n:=by
 simp only [look]
 by_cases h:k=n
 ·subst h;simp
 ·simp [nq h,h]
structure FS where
 sl:Nat→Option AV
 bl:Nat→Option Ob
structure AState where
 sl:List (Nat×AV)
 bl:List (Nat×Ob)
 nx:Nat
def AState.F (st:AState):FS:=⟨look st.sl,look st.bl⟩
def over {α:Type} (l:List (Nat×α)) (f:Nat→Option α):Nat→Option α:=fun n=>match look l n with | some v=>some v | none=>f n
def FS.upd (F:FS) (Ws:List (Nat×AV)) (Wb:List (Nat×Ob)):FS:=⟨over Ws F.sl,over Wb F.bl⟩
theorem bF {α:Type} (f:Nat→Option α):over [] f=f:=by funext n;rfl
theorem bP {α:Type} (k:Nat) (v:α) (f:Nat→Option α) (n:Nat):over [(k,v)] f n=if k=n then some v else f n:=by
 unfold over;rw [au];by_cases h:k=n <;> simp [h,look]
theorem jv {α:Type} (a b:List (Nat×α)):over a (look b)=look (a++b):=by
 funext n
 induction a with
 | nil=>rfl
 | cons p r ih =>
  obtain ⟨k,v⟩:=p
  unfold over at ih ⊢
  rw [List.cons_append,au,au]
  by_cases h:k=n <;> simp [h,← ih]
structure Ctx where
 w0:World
 n:Nat
 g:Nat→Prop
 M0:Mem
 K:Nat→Prop
 ρ0:Env
 ro:Option Nat:=none
def FR (ro:Option Nat):Fence:={ Fence.wide with round:=ro }
theorem FR.calls {ro:Option Nat} {n:Nat} {P:Program} {f:FuncId} {args:Array Value} {w:World} {R:Ending→World→Prop}:CallsIn (FR ro) n P f args w R↔Calls P f args w R :=
 ⟨fun h=>(callsIn_wide (n:=n)).1 h,fun h=>(callsIn_wide (n:=n)).2 h⟩
theorem ms {P:Program} {ro:Option Nat} {ρ:Operand→Value} {o:Oper} {w w':World} {x:Next} (h:(execOp ρ o).run P w=.ok x w') (hx:∀ d,x≠.defer d):(o.semAt ro ρ).run P w=.ok x w':=by
 by_cases hd:∃ c,o.op=.defer c
 ·obtain ⟨c,hc⟩:=hd
  exfalso
  unfold execOp at h
  rw [hc] at h
  simp only [Sem.run_bind] at h
  cases hr:(resolve ρ c o.type).run P w with
  | ok d w1=>rw [hr] at h;cases h;exact hx _ rfl
  | halt s w1=>rw [hr] at h;cases h
 ·rw [Oper.semAt_eq ro ρ o (fun c hc=>hd ⟨c,hc⟩)];exact h
theorem gl {P:Program} {ro:Option Nat} {o:Oper} {a:Act} {w w':World} {u:Value} {K:Act→World→Prop} {Q:Exit→Act→World→Prop} (h:(execOp a.eval o).run P w=.ok (.value u) w') (hk:K (a.put o.dst u) w'):o.wpIn (FR ro) 0 P a w K Q:=by
 refine ⟨fun _ _=>trivial,?_⟩
 rw [show (FR ro).round=ro from rfl,ms h (fun d e=>by cases e)]
 exact hk
theorem vj {P:Program} {ro:Option Nat} {o:Oper} {a:Act} {w w':World} {K:Act→World→Prop} {Q:Exit→Act→World→Prop} (h:(execOp a.eval o).run P w=.ok .skip w') (hk:K (a.put o.dst undef) w'):o.wpIn (FR ro) 0 P a w K Q:=by
 refine ⟨fun _ _=>trivial,?_⟩
 rw [show (FR ro).round=ro from rfl,ms h (fun d e=>by cases e)]
 exact hk
theorem lD {P:Program} {ro:Option Nat} {o:Oper} {a:Act} {w w':World} {f:FuncId} {args:Array Value} {K:Act→World→Prop} {Q:Exit→Act→World→Prop} (h:(execOp a.eval o).run P w=.ok (.enter f args) w')
  (hk:Calls P f args w' fun | .returned v,w''=>K (a.put o.dst v) w'' | .panicked chain,w''=>Q (.panic chain) a w'' | .outgrown,_=>LetsOut Q):o.wpIn (FR ro) 0 P a w K Q:=by
 refine ⟨fun _ _=>trivial,?_⟩
 rw [show (FR ro).round=ro from rfl,ms h (fun d e=>by cases e)]
 exact ⟨fun h=>Bool.noConfusion h,FR.calls.2 hk⟩
structure Kept (g:Nat→Prop) (w w':World):Prop where
 os:w'.os=w.os
 tape:w'.tape=w.tape
 output:w'.output=w.output
 size:w.heap.size≤w'.heap.size
 block:∀ k,k<w.heap.size→¬ g k→w'.heap[k]? = w.heap[k]?
theorem Kept.trans {g:Nat→Prop} {a b c:World} (h:Kept g a b) (k:Kept g b c):Kept g a c :=
 ⟨k.os.trans h.os,k.tape.trans h.tape,k.output.trans h.output,Nat.le_trans h.size k.size,fun i hi hg=>(k.block i (Nat.lt_of_lt_of_le hi h.size) hg).trans (h.block i hi hg)⟩
theorem Kept.refl (g:Nat→Prop) (a:World):Kept g a a:=⟨rfl,rfl,rfl,Nat.le_refl _,fun _ _ _=>rfl⟩
theorem Kept.below {w w':World} (h:Kept (fun _=>False) w w'):RowKit.Below w.heap.size w w':=⟨h.os,h.tape,h.output,h.size,fun k hk=>h.block k hk (fun h=>h)⟩
def notCells:Obj→Bool
 | .cells _ _ _=>false
 | _=>true
structure InW (M:Mem) (w:World):Prop where
 cell:∀ b o v,M.cell b o=some v→w.cell? ⟨b,o,none⟩=some v
 obj:∀ b o,M.obj b=some o→w.heap[b]? = some o∧notCells o=true
 junk:∀ b s,M.junk b=some s→(∃ arr ty,w.heap[b]? = some (.cells arr ty (0,0))∧arr.size=s)∧∀ o,M.cell b o=none
structure RelW (C:Ctx) (bl:Nat→Option Ob) (ρ:Env) (M:Mem) (w:World):Prop where
 inv:∀ (j:Nat) ob,bl j=some ob→Inv1 ρ M w ob (ρ j)
 dist:∀ (i j:Nat) x y b,bl i=some x→bl j=some y→x.blkOf (ρ i)=some b→y.blkOf (ρ j)=some b→i=j
 priv:∀ (j:Nat) ob b,bl j=some ob→ob.blkOf (ρ j)=some b→C.w0.heap.size≤b∨C.g b
 mem:InW M w
 base:C.M0.le M
 fresh:∀ b,b<C.w0.heap.size→¬ C.g b→(∀ o,M.cell b o=C.M0.cell b o)∧M.obj b=C.M0.obj b
 kept:Kept C.g C.w0 w
 names:∀ j,C.K j→ρ j=C.ρ0 j
 junkP:∀ b s,M.junk b=some s→(C.w0.heap.size≤b∨C.g b)∧∀ (j:Nat) ob,bl j=some ob→ob.blkOf (ρ j)≠some b
theorem RelW.noJunk {C:Ctx} {bl:Nat→Option Ob} {ρ:Env} {M:Mem} {w:World} (h:RelW C bl ρ M w) {j b:Nat} {ob:Ob} (hj:bl j=some ob) (hb:ob.blkOf (ρ j)=some b):M.junk b=none:=by
 cases e:M.junk b with
 | none=>rfl
 | some s=>exact absurd hb ((h.junkP b s e).2 j ob hj)
theorem InW.ltJ {M:Mem} {w:World} (h:InW M w) {b s:Nat} (hc:M.junk b=some s):b<w.heap.size:=by
 obtain ⟨⟨arr,ty,h1,_⟩,_⟩:=h.junk b s hc
 exact (Array.getElem?_eq_some_iff.1 h1).1
theorem InW.noneJ {M:Mem} {w:World} (h:InW M w) {b:Nat} (hb:w.heap.size≤b):M.junk b=none:=by
 cases e:M.junk b with
 | none=>rfl
 | some s=>exact absurd (h.ltJ e) (by omega)
theorem InW.lt {M:Mem} {w:World} (h:InW M w) {b o:Nat} {v:Value} (hc:M.cell b o=some v):b<w.heap.size:=by
 have:=h.cell b o v hc
 unfold World.cell? at this
 simp only at this
 rcases Nat.lt_or_ge b w.heap.size with hl | hl
 ·exact hl
 ·rw [Array.getElem?_eq_none (by simpa using hl)] at this;cases this
theorem InW.ltO {M:Mem} {w:World} (h:InW M w) {b:Nat} {v:Obj} (hc:M.obj b=some v):b<w.heap.size:=(Array.getElem?_eq_some_iff.1 (h.obj b v hc).1).1
theorem InW.noObj {M:Mem} {w:World} (h:InW M w) {b:Nat} {arr:Array Value} {ty:TypeId} {fr:Nat×Nat} (hb:w.heap[b]? = some (.cells arr ty fr)):M.obj b=none:=by
 cases hm:M.obj b with
 | none=>rfl
 | some o =>
  obtain ⟨h1,h2⟩:=h.obj b o hm
  rw [hb] at h1;cases h1;cases h2
structure Marks (C:Ctx) (M:Mem) (ds:List Deferred):Prop where
 nd:ds.Nodup
 all:∀ d∈ds,∃ D,d={ target:=.collected D,args:=#[] }∧M.obj D=some (.deferred (some []))∧C.w0.heap.size≤D∧C.M0.obj D=none
theorem Marks.nil {C:Ctx} {M:Mem}:Marks C M []:=⟨List.nodup_nil,fun _ h=>by cases h⟩
theorem Marks.mono {C:Ctx} {M M':Mem} {ds:List Deferred} (h:Marks C M ds) (hM:M.le M'):Marks C M' ds :=
 ⟨h.nd,fun d hd=>let ⟨D,h1,h2,h3,h4⟩:=h.all d hd;⟨D,h1,hM.obj _ _ h2,h3,h4⟩⟩
structure Rel0 (C:Ctx) (F:FS) (ρ:Env) (M:Mem) (a:Act) (w:World):Prop where
 defers:Marks C M a.defers
 size:a.tmps.size=C.n
 slots:∀ s v,F.sl s=some v→v.rep ρ M (a.tmps.getD s undef)
 heap:RelW C F.bl ρ M w
def Agree (bl:Nat→Option Ob) (ρ ρ':Env):Prop:=∀ j,bl j≠none→ρ' j=ρ j
theorem Agree.refl (bl:Nat→Option Ob) (ρ:Env):Agree bl ρ ρ:=fun _ _=>rfl
def Rel (C:Ctx) (F:FS) (ρ:Env) (M:Mem) (a:Act) (w:World):Prop:=∀ ρ',Agree F.bl ρ ρ'→Rel0 C F ρ' M a w
theorem Rel.at {C:Ctx} {F:FS} {ρ:Env} {M:Mem} {a:Act} {w:World} (h:Rel C F ρ M a w):Rel0 C F ρ M a w:=h _ (Agree.refl _ _)
theorem RelW.lt {C:Ctx} {bl:Nat→Option Ob} {ρ:Env} {M:Mem} {w:World} (h:RelW C bl ρ M w):∀ k ob b,bl k=some ob→ob.blkOf (ρ k)=some b→b<w.heap.size:=by
 intro k ob b hb ho
 have hi:=h.inv k ob hb
 cases ob with
 | dead=>cases ho
 | blk cs ty=>cases ho;obtain ⟨⟨arr,ha,_⟩,_⟩:=hi;exact (Array.getElem?_eq_some_iff.1 ha).1
 | tail sz =>
  obtain ⟨a,len,cap,hv,_,hx⟩:=hi
  rw [hv] at ho
  cases a with
  | none=>cases ho
  | some a =>
   simp only [Ob.blkOf] at ho
   split at ho
   ·rename_i hl;cases ho;obtain ⟨b',off,arr,ty,e,h1,_⟩:=hx hl;cases e;exact (Array.getElem?_eq_some_iff.1 h1).1
   ·cases ho
 | vec sz l =>
  obtain ⟨a,cap,hv,_,_,hx⟩:=hi
  rw [hv] at ho
  cases a with
  | none=>cases ho
  | some a =>
   simp only [Ob.blkOf] at ho
   split at ho
   ·rename_i hl;cases ho;obtain ⟨b',off,arr,ty,f,e,h1,_⟩:=hx hl;cases e;exact (Array.getElem?_eq_some_iff.1 h1).1
   ·cases ho
 | mp agg l=>obtain ⟨r,es,clock,f,hv,h1,_⟩:=hi;rw [hv] at ho;cases ho;exact (Array.getElem?_eq_some_iff.1 h1).1
 | obj o=>cases ho;exact (Array.getElem?_eq_some_iff.1 hi.1).1
def Mem.setO (M:Mem) (l:Nat) (o:Obj):Mem:=⟨M.cell,fun b=>if b=l then some o else M.obj b,M.junk⟩
def noMap:Obj→Prop
 | .map _ _=>False
 | _=>True
theorem jb (M:Mem) (l:Nat) (o:Obj):(M.setO l o).obj l=some o:=if_pos rfl
theorem cb {M:Mem} {l b:Nat} {o:Obj} (h:b≠l):(M.setO l o).obj b=M.obj b:=if_neg h
theorem me {M:Mem} {l:Nat} {o1 o:Obj} (h:M.obj l=some o1) (hm:noMap o1):M.sim (M.setO l o) :=
 ⟨fun _ _ _ h=>h,fun b es c hb=>by
  by_cases e:b=l
  ·subst e;rw [h] at hb;cases hb;exact hm.elim
  ·rw [cb e];exact hb,fun _ _ h=>h⟩
theorem kF {A M:Mem} {l:Nat} {o:Obj} (h:A.le M) (hA:A.obj l=none):A.le (M.setO l o) :=
 ⟨h.cell,fun b o' hb=>by
  by_cases e:b=l
  ·subst e;rw [hA] at hb;cases hb
  ·rw [cb e];exact h.obj b o' hb,h.junk⟩
theorem Inv1.noObj {ρ:Env} {M:Mem} {w:World} {ob:Ob} {v:Value} {b:Nat} (h:Inv1 ρ M w ob v) (hi:InW M w) (hb:ob.blkOf v=some b):M.obj b=none:=by
 cases ob with
 | dead=>cases hb
 | blk cs ty=>obtain ⟨⟨arr,ha,_⟩,_⟩:=h;cases hb;exact hi.noObj ha
 | tail sz =>
  obtain ⟨a,len,cap,rfl,hl,hx⟩:=h
  cases a with
  | none=>cases hb
  | some a =>
   simp only [Ob.blkOf] at hb
   split at hb
   ·rename_i hlt
    obtain ⟨b',off,arr,ty,e,h1,_⟩:=hx hlt
    cases hb;cases e;exact hi.noObj h1
   ·cases hb
 | vec sz l =>
  obtain ⟨a,cap,rfl,hl,hrow,hx⟩:=h
  cases a with
  | none=>cases hb
  | some a =>
   simp only [Ob.blkOf] at hb
   split at hb
   ·rename_i hlt
    obtain ⟨b',off,arr,ty,f,e,h1,_⟩:=hx hlt
    cases hb;cases e;exact hi.noObj h1
   ·cases hb
 | mp agg l=>obtain ⟨r,es,clock,f,rfl,h1,h2,_⟩:=h;cases hb;exact h2
 | obj o=>cases hb;exact h.2.1
theorem RelW.setO {C:Ctx} {bl:Nat→Option Ob} {ρ:Env} {M:Mem} {w:World} {l:Nat} {o1 o2:Obj} (h:RelW C bl ρ M w) (h1:M.obj l=some o1) (hm:noMap o1) (h2:notCells o2=true) (hl:C.w0.heap.size≤l) (h0:C.M0.obj l=none) :
  RelW C bl ρ (M.setO l o2) (w.putObj l o2):=by
 have hlt:=h.mem.ltO h1
 have hne:∀ b,M.obj b=none→b≠l:=fun b hb e=>by subst e;rw [h1] at hb;cases hb
 have hcl:∀ o v,M.cell l o≠some v:=fun o v hv=>by
  have hc:=h.mem.cell l o v hv
  obtain ⟨g1,g2⟩:=h.mem.obj l o1 h1
  unfold World.cell? at hc
  simp only [g1] at hc
  cases o1 <;> first | (cases g2;done) | (cases hc;done)
 have hjl:∀ b s,M.junk b=some s→b≠l:=fun b s hb e=>by
  subst e
  obtain ⟨⟨arr,ty,g1,_⟩,_⟩:=h.mem.junk _ _ hb
  obtain ⟨g3,g4⟩:=h.mem.obj _ _ h1
  rw [g1] at g3;cases g3;cases g4
 refine ⟨fun j ob hj=>?_,h.dist,h.priv,⟨fun b o v hv=>?_,fun b o hb=>?_,fun b s hb=>?_⟩,kF h.base h0,fun b hb hg=>?_,⟨h.kept.os,h.kept.tape,h.kept.output,by rw [World.putObj_size];exact h.kept.size,fun k hk hg=>?_⟩,h.names,h.junkP⟩
 ·refine (h.inv j ob hj).keepS (me h1 hm) (fun b hb=>?_)
  have e:=hne b ((h.inv j ob hj).noObj h.mem hb)
  exact ⟨World.putObj_heap_other e,fun _=>rfl,cb e⟩
 ·have e:b≠l:=fun e=>hcl o v (e ▸ hv)
  have:=h.mem.cell b o v hv
  unfold World.cell? at this ⊢
  simp only [World.putObj_heap_other e] at this ⊢
  exact this
 ·by_cases e:b=l
  ·subst e;rw [jb] at hb;cases hb;exact ⟨World.putObj_heap_same hlt,h2⟩
  ·rw [cb e] at hb;rw [World.putObj_heap_other e];exact h.mem.obj b o hb
 ·rw [World.putObj_heap_other (hjl b s hb)];exact h.mem.junk b s hb
 ·obtain ⟨g1,g2⟩:=h.fresh b hb hg
  exact ⟨g1,(cb (by omega)).trans g2⟩
 ·rw [World.putObj_heap_other (by omega)];exact h.kept.block k hk hg
theorem RelW.change {C:Ctx} {bl bl':Nat→Option Ob} {ρ:Env} {M M':Mem} {w w':World} (h:RelW C bl ρ M w) (k0:Nat) (S:Nat→Prop)
  (hS:∀ b,S b→b<w.heap.size→C.w0.heap.size≤b∨C.g b) (hk:w'.os=w.os∧w'.tape=w.tape∧w'.output=w.output∧w.heap.size≤w'.heap.size)
  (hw:∀ b,b<w.heap.size→¬ S b→w'.heap[b]? = w.heap[b]?) (hM:M.le M') (hM':∀ b,b<w.heap.size→¬ S b→(∀ o,M'.cell b o=M.cell b o)∧M'.obj b=M.obj b)
  (hin:∀ b,(S b∨w.heap.size≤b)→(∀ o v,M'.cell b o=some v→w'.cell? ⟨b,o,none⟩=some v)∧(∀ o,M'.obj b=some o→w'.heap[b]? = some o∧notCells o=true))
  (hbl:∀ k ob,bl' k=some ob→ob=.dead∨(bl k=some ob∧∀ b,ob.blkOf (ρ k)=some b→¬ S b)∨(k=k0∧Inv1 ρ M' w' ob (ρ k)∧∀ b,ob.blkOf (ρ k)=some b→(S b∨w.heap.size≤b)))
  (hSJ:∀ b,S b→M.junk b=none:=by exact fun _ h=>h.elim) (hJ:M'.junk=M.junk:=by rfl):RelW C bl' ρ M' w':=by
 have hlt:=h.lt
 have hdead:∀ v b,Ob.blkOf .dead v=some b→False:=fun v b hb=>by cases hb
 have hjS:∀ b s,M'.junk b=some s→M.junk b=some s∧b<w.heap.size∧¬ S b:=fun b s hb=>by
  rw [hJ] at hb
  exact ⟨hb,h.mem.ltJ hb,fun e=>by rw [hSJ b e] at hb;cases hb⟩
 refine ⟨?_,?_,?_,?_,?_,?_,?_,h.names,?_⟩
 ·intro j ob hj
  rcases hbl j ob hj with rfl | ⟨hb,hn⟩ | ⟨_,hi,_⟩
  ·trivial
  ·refine (h.inv j ob hb).keep hM (fun b ho=>?_)
   have hl:=hlt j ob b hb ho
   exact ⟨hw b hl (hn b ho),hM' b hl (hn b ho)⟩
  ·exact hi
 ·intro i j x y b hi hj hx hy
  rcases hbl i x hi with rfl | ⟨hb,hn⟩ | ⟨e1,_,hn⟩
  ·exact (hdead _ _ hx).elim
  ·rcases hbl j y hj with rfl | ⟨hb',hn'⟩ | ⟨e2,_,hn'⟩
   ·exact (hdead _ _ hy).elim
   ·exact h.dist i j x y b hb hb' hx hy
   ·have hl:=hlt i x b hb hx
    rcases hn' b hy with hs | hs
    ·exact absurd hs (hn b hx)
    ·omega
  ·rcases hbl j y hj with rfl | ⟨hb',hn'⟩ | ⟨e2,_,hn'⟩
   ·exact (hdead _ _ hy).elim
   ·have hl:=hlt j y b hb' hy
    rcases hn b hx with hs | hs
    ·exact absurd hs (hn' b hy)
    ·omega
   ·omega
 ·intro j ob b hj ho
  rcases hbl j ob hj with rfl | ⟨hb,hn⟩ | ⟨_,_,hn⟩
  ·exact (hdead _ _ ho).elim
  ·exact h.priv j ob b hb ho
  ·rcases hn b ho with hs | hs
   ·rcases Nat.lt_or_ge b w.heap.size with hl | hl
    ·exact hS b hs hl
    ·exact .inl (Nat.le_trans h.kept.size hl)
   ·exact .inl (Nat.le_trans h.kept.size hs)
 ·constructor
  ·intro b o v hv
   by_cases hs:S b∨w.heap.size≤b
   ·exact (hin b hs).1 o v hv
   ·have hl:b<w.heap.size:=by omega
    have hn:¬ S b:=fun e=>hs (.inl e)
    have:=h.mem.cell b o v (by rw [← (hM' b hl hn).1 o];exact hv)
    unfold World.cell? at this ⊢
    simp only at this ⊢
    rw [hw b hl hn];exact this
  ·intro b o ho
   by_cases hs:S b∨w.heap.size≤b
   ·exact (hin b hs).2 o ho
   ·have hl:b<w.heap.size:=by omega
    have hn:¬ S b:=fun e=>hs (.inl e)
    rw [hw b hl hn]
    exact h.mem.obj b o (by rw [← (hM' b hl hn).2];exact ho)
  ·intro b s hb
   obtain ⟨g1,g2,g3⟩:=hjS b s hb
   rw [hw b g2 g3]
   exact ⟨(h.mem.junk b s g1).1,fun o=>((hM' b g2 g3).1 o).trans ((h.mem.junk b s g1).2 o)⟩
 ·exact h.base.trans hM
 ·intro b hb hg
  have hl:b<w.heap.size:=Nat.lt_of_lt_of_le hb h.kept.size
  have hn:¬ S b:=fun e=>by
   rcases hS b e hl with h1 | h1
   ·omega
   ·exact hg h1
  obtain ⟨g1,g2⟩:=hM' b hl hn
  obtain ⟨f1,f2⟩:=h.fresh b hb hg
  exact ⟨fun o=>(g1 o).trans (f1 o),g2.trans f2⟩
 ·refine ⟨hk.1.trans h.kept.os,hk.2.1.trans h.kept.tape,hk.2.2.1.trans h.kept.output,Nat.le_trans h.kept.size hk.2.2.2,fun k hk' hg=>?_⟩
  have hl:k<w.heap.size:=Nat.lt_of_lt_of_le hk' h.kept.size
  rw [hw k hl (fun e=>by
   rcases hS k e hl with h1 | h1
   ·omega
   ·exact hg h1)]
  exact h.kept.block k hk' hg
 ·intro b s hb
  obtain ⟨g1,g2,g3⟩:=hjS b s hb
  refine ⟨(h.junkP b s g1).1,fun j ob hj ho=>?_⟩
  rcases hbl j ob hj with rfl | ⟨hb',hn⟩ | ⟨_,_,hn⟩
  ·exact hdead _ _ ho
  ·exact (h.junkP b s g1).2 j ob hb' ho
  ·rcases hn b ho with hs | hs
   ·exact g3 hs
   ·omega
def sem (C:Ctx) (Q:Exit→AState→Prop):Exit→Act→World→Prop:=fun e a w=>∃ st ρ M,Rel C st.F ρ M a w∧Q e st
def Ok (P:Program) (C:Ctx) (c:Code) (Q:Exit→AState→Prop) (st:AState):Prop :=
 ∀ ρ M a w,Rel C st.F ρ M a w→c.wpIn (FR C.ro) 0 P (sem C Q) a w
def OkOps (P:Program) (C:Ctx) (ops:Array Oper) (l:List Oper) (Q:AState→Prop) (st:AState):Prop :=
 ∀ (Q':Exit→Act→World→Prop),(∀ ρ M a w st',Rel C (AState.F st') ρ M a w→Q st'→Q' .normal a w)→∀ ρ M a w,Rel C st.F ρ M a w→wpListIn (FR C.ro) 0 P ops Q' l a w
section rules
variable {P:Program} {C:Ctx} {Q:Exit→AState→Prop} {st:AState}
def thenQ (next:AState→Prop) (Q:Exit→AState→Prop):Exit→AState→Prop
 | .normal,st=>next st
 | e,st=>Q e st
def blockQ (id:Nat) (Q:Exit→AState→Prop):Exit→AState→Prop
 | .exit id',st=>match Nat.beq id' id with | true=>Q .normal st | false=>Q (.exit id') st
 | e,st=>Q e st
theorem af {x y:Code} (h:Ok P C x (thenQ (fun st=>Ok P C y Q st) Q) st):Ok P C (.seq x y) Q st:=by
 intro ρ M a w hr
 refine wpIn_seq (wpIn_mono (h ρ M a w hr) ?_)
 rintro e a' w' ⟨st',ρ',M',hr',hq⟩
 cases e <;> first | exact hq ρ' M' a' w' hr' | exact ⟨st',ρ',M',hr',hq⟩
theorem am {id:Nat} {c:Code} (h:Ok P C c (blockQ id Q) st):Ok P C (.block id c) Q st:=by
 intro ρ M a w hr
 refine wpIn_block (wpIn_mono (h ρ M a w hr) ?_)
 rintro e a' w' ⟨st',ρ',M',hr',hq⟩
 cases e with
 | exit id' =>
  simp only [Exit.inBlock]
  by_cases hid:id'=id
  ·rw [if_pos hid];subst hid;exact ⟨st',ρ',M',hr',by simpa [blockQ] using hq⟩
  ·rw [if_neg hid]
   refine ⟨st',ρ',M',hr',?_⟩
   simp only [blockQ,nq hid] at hq
   exact hq
 | _=>exact ⟨st',ρ',M',hr',hq⟩
theorem aj (h:Q .normal st):Ok P C .skip Q st:=fun ρ M _ _ hr=>wpIn_skip ⟨st,ρ,M,hr,h⟩
theorem aE {id:Nat} (h:Q (.exit id) st):Ok P C (.exit id) Q st:=fun ρ M _ _ hr=>wpIn_exit ⟨st,ρ,M,hr,h⟩
theorem ao (h:Q .ret st):Ok P C .ret Q st:=fun ρ M _ _ hr=>wpIn_ret ⟨st,ρ,M,hr,h⟩
theorem ac {id:Nat} {l:List Oper} (h:OkOps P C l.toArray l (Q .normal) st):Ok P C (.region id l.toArray false) Q st :=
 fun ρ M a w hr=>wpIn_region_lit (h _ (fun ρ' M' _ _ st' hr' hq=>⟨st',ρ',M',hr',hq⟩) ρ M a w hr)
theorem Ok.mono {c:Code} {Q':Exit→AState→Prop} (h:Ok P C c Q' st) (hq:∀ e st,Q' e st→Q e st):Ok P C c Q st :=
 fun ρ M a w hr=>wpIn_mono (h ρ M a w hr) fun _ _ _ ⟨st',ρ',M',hr',h'⟩=>⟨st',ρ',M',hr',hq _ _ h'⟩
def opnd (F:FS):Operand→Option AV
 | .tmp t=>F.sl t
 | .const v=>some (.s (.c (.d (.v v))))
 | .global _=>none
 | .func f=>some (.s (.c (.fn f [])))
theorem aU {F:FS} {ρ:Env} {M:Mem} {a:Act} {w:World} (hr:Rel0 C F ρ M a w) {x:Operand} {v:AV} (h:opnd F x=some v):v.rep ρ M (a.eval x):=by
 cases x with
 | tmp t=>exact hr.slots _ _ h
 | const u =>
  simp only [opnd,Option.some.injEq] at h
  subst h;exact Rep.v _
 | global g=>cases h
 | func f=>simp only [opnd,Option.some.injEq] at h;subst h;rfl
def getB (F:FS) (x:Operand):Option Bool :=
 match opnd F x with
 | some (.s (.c (.d (.v (.bool b)))))=>some b
 | _=>none
theorem bz {M:Mem} {x v:Value} (h:Rep M (.v x) v):v=x:=by cases h;rfl
theorem w4 {F:FS} {ρ:Env} {M:Mem} {a:Act} {w:World} (hr:Rel0 C F ρ M a w) {x:Operand} {b:Bool} (h:getB F x=some b):a.eval x=.bool b:=by
 unfold getB at h
 split at h
 ·rename_i b' h';simp only [Option.some.injEq] at h;subst h;exact bz (aU hr h')
 ·cases h
theorem ah {c:Operand} {x y:Code} {b:Bool} (hc:getB st.F c=some b) (ht:b=true→Ok P C x Q st) (hf:b=false→Ok P C y Q st):Ok P C (.cond c x y) Q st:=by
 intro ρ M a w hr
 exact wpIn_cond_split (w4 hr.at hc) (fun h=>ht h ρ M a w hr) (fun h=>hf h ρ M a w hr)
structure Sub (F' F:FS):Prop where
 sl:∀ s v,F'.sl s=some v→F.sl s=some v
 bl:∀ s v,F'.bl s=some v→v=.dead∨F.bl s=some v
 dom:∀ s,F.bl s≠none→F'.bl s≠none
theorem RelW.less {bl bl':Nat→Option Ob} {ρ:Env} {M:Mem} {w:World} (h:RelW C bl ρ M w) (hb:∀ s v,bl' s=some v→v=.dead∨bl s=some v):RelW C bl' ρ M w:=by
 refine ⟨fun j ob hj=>?_,fun i j x y b hi hj hx hy=>?_,fun j ob b hj ho=>?_,h.mem,h.base,h.fresh,h.kept,h.names,fun b s hj=>⟨(h.junkP b s hj).1,fun j ob hk ho=>?_⟩⟩
 ·rcases hb j ob hj with rfl | hj
  ·trivial
  ·exact h.inv j ob hj
 ·rcases hb i x hi with rfl | hi
  ·cases hx
  ·rcases hb j y hj with rfl | hj
   ·cases hy
   ·exact h.dist i j x y b hi hj hx hy
 ·rcases hb j ob hj with rfl | hj
  ·cases ho
  ·exact h.priv j ob b hj ho
 ·rcases hb j ob hk with rfl | hk
  ·cases ho
  ·exact (h.junkP b s hj).2 j ob hk ho
theorem nl {a:Act} {d s:Nat} {u:Value} (h:d≠s):(a.put (some d) u).tmps.getD s undef=a.tmps.getD s undef:=by
 simp only [Act.put,Array.getD_eq_getD_getElem?,Array.getElem?_setIfInBounds_ne h]
theorem nn {a:Act} {d:Nat} {u:Value} (h:d<a.tmps.size):(a.put (some d) u).tmps.getD d undef=u:=by
 simp [Act.put,h]
theorem Rel0.put {F:FS} {ρ:Env} {M M':Mem} {a:Act} {w w':World} {d:Nat} {v:AV} {u:Value} {bl':Nat→Option Ob} (hr:Rel0 C F ρ M a w) (hd:d<C.n) (hu:v.rep ρ M' u) (hM:M.le M')
  (hw:RelW C bl' ρ M' w'):Rel0 C ⟨over [(d,v)] F.sl,bl'⟩ ρ M' (a.put (some d) u) w':=by
 refine ⟨hr.defers.mono hM,by simpa [Act.put] using hr.size,fun s v' hv=>?_,hw⟩
 simp only [bP] at hv
 by_cases hds:d=s
 ·subst hds
  rw [if_pos rfl] at hv
  cases hv
  rw [nn (by rw [hr.size];exact hd)];exact hu
 ·rw [if_neg hds] at hv
  rw [nl hds]
  exact (hr.slots s v' hv).mono hM
def Tri (P:Program) (C:Ctx) (ops:Array Oper) (o:Oper) (F F':FS):Prop :=
 ∀ (Q':Exit→Act→World→Prop) (K':Act→World→Prop),(∀ ρ M a w,Rel C F' ρ M a w→K' a w)→∀ ρ M a w,Rel C F ρ M a w →
  if Region.wanted o (yielded ops a.tmps) then o.wpIn (FR C.ro) 0 P a w K' Q' else K' (a.put o.dst undef) w
theorem cK {o:Oper} {y:Nat→Option Bool} (h:o.guard=none):Region.wanted o y=true:=by simp [Region.wanted,h]
theorem OkOps.step {ops:Array Oper} {o:Oper} {rest:List Oper} {Q:AState→Prop} {Ws:List (Nat×AV)} {Wb:List (Nat×Ob)} {nx':Nat} (ht:Tri P C ops o st.F (st.F.upd Ws Wb))
  (h:OkOps P C ops rest Q ⟨Ws++st.sl,Wb++st.bl,nx'⟩):OkOps P C ops (o :: rest) Q st:=by
 intro Q' hQ ρ M a w hr
 unfold wpListIn
 have key:=ht Q' (wpListIn (FR C.ro) 0 P ops Q' rest) (fun ρ' M' a' w' hr'=>h Q' hQ ρ' M' a' w' ?_) ρ M a w hr
 ·split
  ·rename_i hw;rw [if_pos hw] at key;exact key
  ·rename_i hw;rw [if_neg hw] at key;exact ⟨fun _ _=>trivial,key⟩
 have:AState.F ⟨Ws++st.sl,Wb++st.bl,nx'⟩=st.F.upd Ws Wb:=by
  simp only [AState.F,FS.upd,jv]
 rw [this];exact hr'
theorem ab {ops:Array Oper} {Q:AState→Prop} (h:Q st):OkOps P C ops [] Q st:=fun _ hQ ρ M a w hr=>hQ ρ M a w st hr h
theorem Tri.val {ops:Array Oper} {F:FS} {o:Oper} {d:Nat} {x:AV} {Wb:List (Nat×Ob)} (js:List Nat) (hg:o.guard=none) (hd:o.dst=some d) (hn:Nat.blt d C.n=true) (hj:∀ j∈js,F.bl j=none) (hdom:∀ k,F.bl k≠none→over Wb F.bl k≠none) (hjs:∀ j∈js,over Wb F.bl j≠none)
  (hq:∀ ρ M a w,Rel0 C F ρ M a w→∃ (u:Value) (w':World) (M':Mem) (nv:Nat→Value),(execOp a.eval o).run P w=.ok (.value u) w'∧M.le M'∧∀ ρ',Rel0 C F ρ' M a w→(∀ j∈js,ρ' j=nv j)→x.rep ρ' M' u∧RelW C (over Wb F.bl) ρ' M' w'):Tri P C ops o F (F.upd [(d,x)] Wb):=by
 intro Q' K' hK ρ M a w hr
 rw [if_pos (cK hg)]
 obtain ⟨u,w',M',nv,hrun,hle,hfin⟩:=hq ρ M a w hr.at
 refine gl hrun ?_
 rw [hd]
 refine hK (fun i=>if i∈js then nv i else ρ i) M' _ _ fun ρ' ha=>?_
 have hag:Agree F.bl ρ ρ':=fun i hi=>by
  have hne:i∉js:=fun e=>hi (hj i e)
  rw [ha i (hdom i hi)];exact if_neg hne
 have h0:=hr ρ' hag
 obtain ⟨h1,h2⟩:=hfin ρ' h0 (fun j hj'=>by rw [ha j (hjs j hj')];exact if_pos hj')
 exact h0.put (Nat.blt_eq.mp hn) h1 hle h2
def guardB (F:FS) (ops:Array Oper) (k:Nat) (want:Bool):Option Bool :=
 match (ops[k]?).bind (·.dst) with
 | some t=>match F.sl t with
  | some (.s (.c (.d (.v (.bool b)))))=>match want with | true=>some b | false=>some (!b)
  | some (.gd g (.c (.d (.v (.bool b)))))=>match want with | true=>some (g&&b) | false=>some (g&&!b)
  | _=>none
 | none=>none
theorem getD_some {l:Array Value} {t:Nat} {v:Value} (h:l.getD t undef=v) (hv:v≠undef):l[t]? = some v:=by
 rw [Array.getD_eq_getD_getElem?] at h
 cases hl:l[t]? with
 | none=>rw [hl] at h;exact absurd h.symm hv
 | some u=>rw [hl] at h;simp at h;rw [h]
theorem da {F:FS} {ρ:Env} {M:Mem} {a:Act} {w:World} (hr:Rel0 C F ρ M a w) {ops:Array Oper} {o:Oper} {k:Nat} {want g:Bool} (hg:o.guard=some (k,want)) (h:guardB F ops k want=some g) :
  Region.wanted o (yielded ops a.tmps)=g:=by
 unfold guardB at h
 simp only [Region.wanted,hg,yielded]
 cases ht:(ops[k]?).bind (·.dst) with
 | none=>rw [ht] at h;cases h
 | some t =>
  rw [ht] at h
  simp only at h
  split at h
  ·rename_i b hb
   have h1:=bz (hr.slots _ _ hb)
   have h2:=getD_some h1 (by simp [undef])
   simp only [Option.bind_some,h2]
   cases want <;> simp only [Option.some.injEq] at h <;> subst h <;> cases b <;> rfl
  ·rename_i g' b hb
   have h1:=hr.slots _ _ hb
   cases g'
   ·have hg0:g=false:=by cases want <;> simp at h <;> exact h
    subst hg0
    have h1:a.tmps.getD t undef=undef:=h1
    rw [Array.getD_eq_getD_getElem?] at h1
    simp only [Option.bind_some]
    cases hl:a.tmps[t]? with
    | none=>cases want <;> rfl
    | some u =>
     rw [hl] at h1
     simp at h1
     subst h1
     cases want <;> rfl
   ·have h2:=getD_some (bz h1) (by simp [undef])
    simp only [Option.bind_some,h2]
    cases want <;> simp only [Bool.true_and,Option.some.injEq] at h <;> subst h <;> cases b <;> rfl
  ·cases h
theorem xW {ops:Array Oper} {F:FS} {o:Oper} {d k:Nat} {want g:Bool} {x:A1} (hg:o.guard=some (k,want)) (hb:guardB F ops k want=some g) (hd:o.dst=some d) (hn:Nat.blt d C.n=true)
  (hq:g=true→∀ ρ M a w,Rel0 C F ρ M a w→∃ u w' M',(execOp a.eval o).run P w=.ok (.value u) w'∧M.le M'∧∀ ρ',Rel0 C F ρ' M a w→x.rep ρ' M' u∧RelW C F.bl ρ' M' w'):Tri P C ops o F (F.upd [(d,.gd g x)] []):=by
 intro Q' K' hK ρ M a w hr
 rw [da hr.at hg hb]
 cases g with
 | false =>
  rw [if_neg (by simp),hd]
  refine hK ρ M _ _ fun ρ' ha=>?_
  have h0:=hr ρ' (fun j hj=>ha j (by rw [FS.upd,bF];exact hj))
  exact h0.put (Nat.blt_eq.mp hn) rfl (Mem.le_refl _) (by rw [bF];exact h0.heap)
 | true =>
  rw [if_pos rfl]
  obtain ⟨u,w',M',hrun,hle,hfin⟩:=hq rfl ρ M a w hr.at
  refine gl hrun ?_
  rw [hd]
  refine hK ρ M' _ _ fun ρ' ha=>?_
  have h0:=hr ρ' (fun j hj=>ha j (by rw [FS.upd,bF];exact hj))
  obtain ⟨h1,h2⟩:=hfin ρ' h0
  exact h0.put (v:=.gd true x) (Nat.blt_eq.mp hn) h1 hle (by rw [bF];exact h2)
theorem kE {ops:Array Oper} {F:FS} {o:Oper} {Wb:List (Nat×Ob)} (hg:o.guard=none) (hd:o.dst=none) (hdom:∀ j,F.bl j≠none→over Wb F.bl j≠none)
  (hq:∀ ρ M a w,Rel0 C F ρ M a w→∃ w' M',(execOp a.eval o).run P w=.ok .skip w'∧M.le M'∧∀ ρ',Rel0 C F ρ' M a w→RelW C (over Wb F.bl) ρ' M' w'):Tri P C ops o F (F.upd [] Wb):=by
 intro Q' K' hK ρ M a w hr
 rw [if_pos (cK hg)]
 obtain ⟨w',M',hrun,hle,hfin⟩:=hq ρ M a w hr.at
 refine vj hrun ?_
 rw [hd]
 refine hK ρ M' _ _ fun ρ' ha=>?_
 have h0:=hr ρ' (fun j hj=>ha j (hdom j hj))
 refine ⟨h0.defers.mono hle,h0.size,?_,hfin ρ' h0⟩
 rw [FS.upd,bF]
 exact fun s v hv=>(h0.slots s v hv).mono hle
theorem zu {c:Code} {Q:Exit→AState→Prop} (X:Type) (I:X→AState) (Inv:X→Prop) (μ:X→Nat) (x0:X) (hi:Inv x0) (h0:∀ ρ M a w,Rel C st.F ρ M a w→∃ ρ' M',Rel C (I x0).F ρ' M' a w)
  (round:∀ x,Inv x→Ok P C c (thenQ (fun s=>∃ x',Inv x'∧μ x'<μ x∧∀ ρ M a w,Rel C s.F ρ M a w→∃ ρ' M',Rel C (I x').F ρ' M' a w) Q) (I x)):Ok P C (.loop c) Q st:=by
 intro ρ M a w hr
 have key:∀ n x,Inv x→μ x<n→∀ ρ M a w,Rel C (I x).F ρ M a w→Code.roundsIn (FR C.ro) 0 P c (sem C Q) n a w:=by
  intro n
  induction n with
  | zero=>intro x _ h;exact absurd h (Nat.not_lt_zero _)
  | succ n ih =>
   intro x hx hn ρ M a w hr
   rw [roundsIn_succ]
   refine wpIn_mono (round x hx ρ M a w hr) ?_
   rintro e a₁ w₁ ⟨st',ρ',M',hr',hq⟩
   cases e with
   | normal =>
    obtain ⟨x',hx',hlt,hsub⟩:=hq
    obtain ⟨ρ2,M2,hr2⟩:=hsub ρ' M' a₁ w₁ hr'
    exact ih x' hx' (by omega) ρ2 M2 a₁ w₁ hr2
   | _=>exact ⟨st',ρ',M',hr',hq⟩
 obtain ⟨ρ2,M2,hr2⟩:=h0 ρ M a w hr
 exact wpIn_loop_rounds (μ x0+1) (key _ x0 hi (Nat.lt_succ_self _) ρ2 M2 a w hr2)
end rules
end Go.E2
end
section
namespace Go.E2
variable {P:Program} {C:Ctx} {F:FS}
def runPure (P:Program) {α:Type}:Sem α→Option α
 | .pure a=>some a
 | .program k=>runPure P (k P)
 | .mark _ k=>runPure P k
 | _=>none
theorem mO {α:Type} {s:Sem α} {a:α} (h:runPure P s=some a) (w:World):s.run P w=.ok a w:=by
 induction s with
 | pure x=>simp only [runPure,Option.some.injEq] at h;subst h;rfl
 | program k ih=>simp only [runPure] at h;exact ih P h
 | mark m k ih=>simp only [runPure] at h;exact ih h
 | _=>simp [runPure] at h
def cellVals:List Cell→Option (List Value)
 | []=>some []
 | x :: r=>match x with
  | .d (.v y)=>match cellVals r with
   | some l=>some (y :: l)
   | none=>none
  | _=>none
def A1.val:A1→Option Value
 | .c (.d (.v x))=>some x
 | .agg cs=>match cellVals cs with
  | some l=>some (.agg l.toArray)
  | none=>none
 | _=>none
def vcell (v:Value):Cell:=.d (.v v)
def ofV:Value→A1
 | .agg cs=>.agg (cs.toList.map vcell)
 | v=>.c (.d (.v v))
theorem md {cs:List Cell} {l:List Value} (h:cellVals cs=some l) {ρ:Env} {M:Mem} {vs:List Value} (hr:Reps ρ M cs vs):vs=l:=by
 induction cs generalizing l vs with
 | nil=>cases vs with
  | nil=>simp [cellVals] at h;exact h.symm
  | cons _ _=>exact hr.elim
 | cons x r ih =>
  cases vs with
  | nil=>exact hr.elim
  | cons u us =>
   unfold cellVals at h
   split at h
   ·split at h
    ·rename_i l' hl'
     cases h
     rw [ih hl' hr.2,bz hr.1]
    ·cases h
   ·cases h
theorem A1.val_rep {x:A1} {v:Value} (h:x.val=some v) {ρ:Env} {M:Mem} {u:Value} (hr:x.rep ρ M u):u=v:=by
 unfold A1.val at h
 split at h
 ·cases h;exact bz hr
 ·rename_i cs
  split at h
  ·rename_i l hl
   cases h
   obtain ⟨arr,rfl,h2⟩:=hr
   rw [← md hl h2]
  ·cases h
 ·cases h
theorem Reps.vals {ρ:Env} {M:Mem}:∀ l:List Value,Reps ρ M (l.map vcell) l
 | []=>trivial
 | x :: r=>⟨Rep.v x,Reps.vals r⟩
theorem vk (v:Value) (ρ:Env) (M:Mem):(ofV v).rep ρ M v:=by
 cases v <;> first | exact Rep.v _ | exact ⟨_,rfl,Reps.vals _⟩
def rd (F:FS) (x:Operand):Option A1 :=
 match opnd F x with
 | some (.s x)=>some x
 | some (.gd _ x)=>some x
 | _=>none
def rdV (F:FS) (x:Operand):Option Value :=
 match rd F x with
 | some y=>y.val
 | none=>none
def rdVs (F:FS):List Operand→Option (List Value)
 | []=>some []
 | x :: r=>match rdV F x with
  | some v=>match rdVs F r with
   | some l=>some (v :: l)
   | none=>none
  | none=>none
def rds (F:FS):List Operand→Option (List A1)
 | []=>some []
 | x :: r=>match rd F x with
  | some v=>match rds F r with
   | some l=>some (v :: l)
   | none=>none
  | none=>none
def sideOk (F:FS) (g:Bool):List Operand→Prop
 | []=>True
 | x :: r=>match opnd F x with
  | some (.gd g' _)=>(g=true→g'=true)∧sideOk F g r
  | _=>sideOk F g r
def Reads (F:FS) (a:Act) (ρ:Env) (M:Mem) (xs:List Operand):Prop:=∀ x,x∈xs→∀ y,rd F x=some y→y.rep ρ M (a.eval x)
theorem aR {ρ:Env} {M:Mem} {a:Act} {w:World} (hr:Rel0 C F ρ M a w) {g:Bool} (hg:g=true) {xs:List Operand} (hs:sideOk F g xs):Reads F a ρ M xs:=by
 induction xs with
 | nil=>intro x hx;cases hx
 | cons x r ih =>
  intro z hz y hy
  unfold sideOk at hs
  unfold rd at hy
  cases hz with
  | head =>
   split at hy
   ·rename_i y' h';cases hy;exact aU hr h'
   ·rename_i g' y' h'
    cases hy
    rw [h'] at hs
    have:=aU hr h'
    rw [hs.1 hg] at this
    exact this
   ·cases hy
  | tail _ hm =>
   refine ih ?_ z hm y hy
   split at hs
   ·exact hs.2
   ·exact hs
theorem a7 {ρ:Env} {M:Mem} {a:Act} {xs:List Operand} (h:Reads F a ρ M xs) {x:Operand} (hx:x∈xs) {v:Value} (hv:rdV F x=some v):a.eval x=v:=by
 unfold rdV at hv
 split at hv
 ·rename_i y hy;exact A1.val_rep hv (h x hx y hy)
 ·cases hv
theorem uT {ρ:Env} {M:Mem} {a:Act} {xs:List Operand} (h:Reads F a ρ M xs) {vs:List Value} (hv:rdVs F xs=some vs):xs.map a.eval=vs:=by
 induction xs generalizing vs with
 | nil=>simp [rdVs] at hv;simp [hv]
 | cons x r ih =>
  simp only [rdVs] at hv
  split at hv
  ·rename_i v hv1
   split at hv
   ·rename_i l hl
    cases hv
    simp only [List.map_cons]
    rw [a7 h (List.mem_cons_self ..) hv1,ih (fun z hz=>h z (List.mem_cons_of_mem _ hz)) hl]
   ·cases hv
  ·cases hv
theorem iw {ρ:Env} {M:Mem} {a:Act} {xs:List Operand} (h:Reads F a ρ M xs) {vs:List A1} (hv:rds F xs=some vs):A1.reps ρ M vs (xs.map a.eval):=by
 induction xs generalizing vs with
 | nil=>simp [rds] at hv;subst hv;trivial
 | cons x r ih =>
  simp only [rds] at hv
  split at hv
  ·rename_i v hv1
   split at hv
   ·rename_i l hl
    cases hv
    exact ⟨h x (List.mem_cons_self ..) v hv1,ih (fun z hz=>h z (List.mem_cons_of_mem _ hz)) hl⟩
   ·cases hv
  ·cases hv
def tinfo (P:Program) (t:TypeId):Option (Nat×Bool) :=
 match P.info? t,P.underlying t with
 | some i,some d=>some (i.size,match d with | .struct _=>true | .array _ _=>true | _=>false)
 | _,_=>none
theorem fh {t n:Nat} {b:Bool} (h:tinfo P t=some (n,b)) (w:World):(sizeOf t).run P w=.ok n w:=by
 unfold tinfo at h
 split at h
 ·rename_i i d hi hd
  simp only [Option.some.injEq,Prod.mk.injEq] at h
  obtain ⟨rfl,_⟩:=h
  show (Sem.bind (Sem.program Sem.pure) _).run P w=_
  simp [Sem.bind,Sem.run,hi,pure]
 ·cases h
theorem kP {t n:Nat} {b:Bool} (h:tinfo P t=some (n,b)) (w:World):(isAgg t).run P w=.ok b w:=by
 unfold tinfo at h
 split at h
 ·rename_i i d hi hd
  simp only [Option.some.injEq,Prod.mk.injEq] at h
  obtain ⟨_,rfl⟩:=h
  simp only [isAgg,underlying,program,Sem.bind,bind,pure,Sem.run,hd]
  cases d <;> rfl
 ·cases h
theorem ag {α β:Type} {x:Sem α} {f:α→Sem β} {w w':World} {a:α} (h:x.run P w=.ok a w'):(x >>= f).run P w=(f a).run P w':=by
 rw [Sem.run_bind,h];rfl
theorem aA {x:Sem Value} {v:Value} {w w':World} (h:x.run P w=.ok v w'):(do let y ← x;pure (Next.value y):Sem Next).run P w=.ok (.value v) w':=by
 rw [ag h];rfl
theorem sI {w:World} {b off:Nat} {v:Value} (h:w.cell? ⟨b,off,none⟩=some v):(load ⟨b,off,none⟩).run P w=.ok v w:=by
 simp [load,Sem.run,h]
theorem d9 (b off i:Nat):(Addr.mk b off none).add i=⟨b,off+i,none⟩:=by
 unfold Addr.add;split
 ·rename_i h;subst h;rfl
 ·rfl
theorem iJ {w:World} {b off:Nat}:∀ (vs:List Value) (i:Nat) (acc:Array Value),(∀ (j:Nat) v,vs[j]? = some v→w.cell? ⟨b,off+i+j,none⟩=some v)→(loadCellsFrom ⟨b,off,none⟩ i vs.length acc).run P w=.ok (acc++vs.toArray) w
 | [],i,acc,_=>by simp [loadCellsFrom]
 | v :: r,i,acc,h=>by
  have hl:(load ((Addr.mk b off none).add i)).run P w=.ok v w:=by
   rw [d9];exact sI (h 0 v rfl)
  show (loadCellsFrom ⟨b,off,none⟩ i (r.length+1) acc).run P w=_
  unfold loadCellsFrom
  rw [ag hl,iJ r (i+1) _ (fun j u hj=>by
   have:=h (j+1) u (by simpa using hj)
   rw [show off+(i+1)+j=off+i+(j+1) by omega];exact this)]
  congr 1
  apply Array.ext'
  simp
theorem dK {w:World} {b off:Nat} (vs:List Value) (h:∀ (j:Nat) v,vs[j]? = some v→w.cell? ⟨b,off+j,none⟩=some v):(loadCells ⟨b,off,none⟩ vs.length).run P w=.ok vs.toArray w:=by
 unfold loadCells
 rw [iJ vs 0 #[] (fun j v hj=>by simpa using h j v hj)]
 simp
def takeA (P:Program) (t:TypeId) (cs:List Cell) (off:Nat):Option A1 :=
 match tinfo P t with
 | some (n,true)=>match Nat.ble (off+n) cs.length with
  | true=>some (.agg ((cs.drop off).take n))
  | false=>none
 | some (_,false)=>match cs[off]? with
  | some c=>some (.c c)
  | none=>none
 | none=>none
theorem Reps.get {ρ:Env} {M:Mem}:∀ {cs:List Cell} {vs:List Value},Reps ρ M cs vs→∀ (i:Nat) c,cs[i]? = some c→∃ v,vs[i]? = some v∧c.rep ρ M v
 | [],[],_,i,c,h=>by simp at h
 | x :: xs,v :: vs,hr,i,c,h=>by
  cases i with
  | zero=>simp at h;subst h;exact ⟨v,rfl,hr.1⟩
  | succ i=>obtain ⟨u,h1,h2⟩:=Reps.get hr.2 i c (by simpa using h);exact ⟨u,by simpa using h1,h2⟩
 | [],_ :: _,hr,_,_,_=>hr.elim
 | _ :: _,[],hr,_,_,_=>hr.elim
theorem Reps.len {ρ:Env} {M:Mem}:∀ {cs:List Cell} {vs:List Value},Reps ρ M cs vs→vs.length=cs.length
 | [],[],_=>rfl
 | _ :: xs,_ :: vs,hr=>by simp [Reps.len hr.2]
 | [],_ :: _,hr=>hr.elim
 | _ :: _,[],hr=>hr.elim
theorem Reps.drop {ρ:Env} {M:Mem}:∀ {cs:List Cell} {vs:List Value} (n:Nat),Reps ρ M cs vs→Reps ρ M (cs.drop n) (vs.drop n)
 | _,_,0,h=>h
 | [],[],_+1,_=>trivial
 | _ :: _xs,_ :: _vs,n+1,hr=>Reps.drop n hr.2
 | [],_ :: _,_+1,hr=>hr.elim
 | _ :: _,[],_+1,hr=>hr.elim
theorem Reps.take {ρ:Env} {M:Mem}:∀ {cs:List Cell} {vs:List Value} (n:Nat),Reps ρ M cs vs→Reps ρ M (cs.take n) (vs.take n)
 | _,_,0,_=>trivial
 | [],[],_+1,_=>trivial
 | _ :: _xs,_ :: _vs,n+1,hr=>⟨hr.1,Reps.take n hr.2⟩
 | [],_ :: _,_+1,hr=>hr.elim
 | _ :: _,[],_+1,hr=>hr.elim
theorem Reps.set {ρ:Env} {M:Mem} {c:Cell} {v:Value} (hc:c.rep ρ M v):∀ {cs:List Cell} {vs:List Value} (n:Nat),Reps ρ M cs vs→Reps ρ M (cs.set n c) (vs.set n v)
 | [],[],_,_=>trivial
 | _ :: _xs,_ :: _vs,0,hr=>⟨hc,hr.2⟩
 | _ :: _xs,_ :: _vs,n+1,hr=>⟨hr.1,Reps.set hc n hr.2⟩
 | [],_ :: _,_,hr=>hr.elim
 | _ :: _,[],_,hr=>hr.elim
theorem kQ {w:World} {ρ:Env} {M:Mem} {b o0 off:Nat} {cs:List Cell} {vs:List Value} {t:TypeId} {x:A1} (hv:∀ (i:Nat) v,vs[i]? = some v→w.cell? ⟨b,o0+i,none⟩=some v) (hr:Reps ρ M cs vs) (hl:takeA P t cs off=some x) :
  ∃ u,(loadVar t ⟨b,o0+off,none⟩).run P w=.ok u w∧x.rep ρ M u:=by
 unfold takeA at hl
 split at hl
 ·rename_i n hti
  split at hl
  ·rename_i hle
   cases hl
   have hle':off+n≤cs.length:=Nat.le_of_ble_eq_true hle
   have hlen:((vs.drop off).take n).length=n:=by simp [hr.len];omega
   refine ⟨.agg ((vs.drop off).take n).toArray,?_,_,rfl,by simpa using (hr.drop off).take n⟩
   unfold loadVar
   rw [ag (kP hti w),if_pos rfl,ag (fh hti w)]
   have hlc:=dK (P:=P) (w:=w) (b:=b) (off:=o0+off) ((vs.drop off).take n) (fun j v hj=>by
    rw [List.getElem?_take] at hj
    split at hj
    ·rw [List.getElem?_drop] at hj
     rw [Nat.add_assoc];exact hv _ _ hj
    ·cases hj)
   rw [hlen] at hlc
   rw [ag hlc]
   rfl
  ·cases hl
 ·rename_i n hti
  split at hl
  ·rename_i c hc
   cases hl
   obtain ⟨u,h1,h2⟩:=hr.get off c hc
   refine ⟨u,?_,h2⟩
   unfold loadVar
   rw [ag (kP hti w),if_neg (by simp)]
   exact sI (hv _ _ h1)
  ·cases hl
 ·cases hl
theorem sC {ρ:Env} {M:Mem} {cs:List Cell} {arr:Array Value} {t:TypeId} {off:Nat} {x:A1} (hr:Reps ρ M cs arr.toList) (hl:takeA P t cs off=some x) (w:World):∃ u,(part t arr off).run P w=.ok u w∧x.rep ρ M u:=by
 unfold takeA at hl
 split at hl
 ·rename_i n hti
  split at hl
  ·rename_i hle
   cases hl
   refine ⟨.agg (arr.extract off (off+n)),?_,_,rfl,?_⟩
   ·unfold part
    rw [ag (kP hti w),if_pos rfl,ag (fh hti w)]
    rfl
   ·have:=(hr.drop off).take n
    have e:(arr.extract off (off+n)).toList=(arr.toList.drop off).take n:=by simp [List.extract_eq_take_drop]
    rw [e];exact this
  ·cases hl
 ·rename_i n hti
  split at hl
  ·rename_i c hc
   cases hl
   obtain ⟨u,h1,h2⟩:=hr.get off c hc
   refine ⟨u,?_,h2⟩
   unfold part
   rw [ag (kP hti w),if_neg (by simp)]
   have:arr[off]? = some u:=by simpa using h1
   simp only [this]
   rfl
  ·cases hl
 ·cases hl
def fieldOff (P:Program) (t f:Nat):Option (Nat×TypeId) :=
 match P.underlying t with
 | some (.struct fs)=>match fs[f]? with
  | some fd=>match P.info? fd.type with
   | some i=>match i.size with
    | 0=>none
    | _+1=>some (fd.offset,fd.type)
   | none=>none
  | none=>none
 | _=>none
theorem jD {t f o ft:Nat} (h:fieldOff P t f=some (o,ft)) (b off:Nat) (w:World):(Instr.fieldAt t (.pointer (some ⟨b,off,none⟩)) f).run P w=.ok (.pointer (some ⟨b,off+o,none⟩)) w:=by
 unfold fieldOff at h
 split at h
 ·rename_i fs hu
  split at h
  ·rename_i fd hfd
   split at h
   ·rename_i i hi
    split at h
    ·cases h
    ·rename_i n hn
     cases h
     simp only [Instr.fieldAt,underlying,program,Sem.bind,bind,pure,Sem.run,hu,hfd,Instr.sureAddr,fieldPlace,sizeOf,typeInfo,hi,hn]
     simp [d9,Sem.bind]
   ·cases h
  ·cases h
 ·cases h
theorem vJ {ρ:Env} {M:Mem} {t f o ft:Nat} (h:fieldOff P t f=some (o,ft)) {cs:List Cell} {arr:Array Value} {x:A1} (hr:Reps ρ M cs arr.toList) (hl:takeA P ft cs o=some x) (w:World):∃ u,(Instr.field t (.agg arr) f).run P w=.ok u w∧x.rep ρ M u:=by
 unfold fieldOff at h
 split at h
 ·rename_i fs hu
  split at h
  ·rename_i fd hfd
   split at h
   ·rename_i i hi
    split at h
    ·cases h
    ·rename_i n hn
     cases h
     obtain ⟨u,h1,h2⟩:=sC (P:=P) hr hl w
     refine ⟨u,?_,h2⟩
     simp only [Instr.field,underlying,program,Sem.bind,bind,pure,Sem.run,hu,hfd,asAgg]
     exact h1
   ·cases h
  ·cases h
 ·cases h
def arrInfo (P:Program) (t:TypeId):Option (Nat×Nat) :=
 match P.underlying t with
 | some (.array n e)=>match P.info? e with
  | some i=>some (n,i.size)
  | none=>none
 | _=>none
theorem kD {t n sz b off:Nat} {i:Int} {k:IntKind} (h:arrInfo P t=some (n,sz)) (h0:0≤i) (hi:i<n) (w:World) :
  (Instr.indexAt t (.pointer (some ⟨b,off,none⟩)) (.int k i)).run P w=.ok (.pointer (some ⟨b,off+i.toNat*sz,none⟩)) w:=by
 unfold arrInfo at h
 split at h
 ·rename_i n' e hu
  split at h
  ·rename_i inf hinf
   simp only [Option.some.injEq,Prod.mk.injEq] at h
   obtain ⟨rfl,rfl⟩:=h
   simp only [Instr.indexAt,asIntOf,underlying,program,Sem.bind,bind,pure,Sem.run,hu,Instr.sureAddr,sizeOf,typeInfo,hinf,h0,hi,and_self,if_true]
   simp [d9]
  ·cases h
 ·cases h
def slInfo (P:Program) (t:TypeId):Option (TypeId×Nat) :=
 match P.underlying t with
 | some (.slice e)=>match P.info? e with
  | some i=>some (e,i.size)
  | none=>none
 | _=>none
theorem gC {t e sz:Nat} (h:slInfo P t=some (e,sz)):P.underlying t=some (.slice e)∧∃ i,P.info? e=some i∧i.size=sz:=by
 unfold slInfo at h
 split at h
 ·rename_i e' hu
  split at h
  ·rename_i i hi
   simp only [Option.some.injEq,Prod.mk.injEq] at h
   obtain ⟨rfl,rfl⟩:=h
   exact ⟨hu,i,hi,rfl⟩
  ·cases h
 ·cases h
theorem bt {t e sz:Nat} (h:slInfo P t=some (e,sz)) (w:World):(underlying t).run P w=.ok (.slice e) w:=by
 simp [underlying,program,Sem.run,(gC h).1]
theorem bM {t e sz:Nat} (h:slInfo P t=some (e,sz)) (w:World):(sizeOf e).run P w=.ok sz w:=by
 obtain ⟨_,i,hi,rfl⟩:=gC h
 simp [sizeOf,typeInfo,program,Sem.run,hi]
def A1.cells:A1→List Cell
 | .c x=>[x]
 | .agg cs=>cs
def notMany:Value→Bool
 | .agg _=>false
 | .tuple _=>false
 | _=>true
def Cell.single:Cell→Bool
 | .d (.v x)=>notMany x
 | .own _=>false
 | _=>true
def allSingle:List Cell→Bool
 | []=>true
 | x :: r=>match x.single with
  | true=>allSingle r
  | false=>false
def lZ:A1→Bool
 | .c x=>x.single
 | .agg _=>true
theorem lA {c:Cell} (h:c.single=true) {ρ:Env} {M:Mem} {v:Value} (hr:c.rep ρ M v):notMany v=true:=by
 cases c with
 | d x =>
  cases x with
  | v y=>rw [bz hr];exact h
  | sl l=>cases hr <;> rfl
  | mp agg l=>cases hr <;> rfl
  | js sz n=>cases hr <;> rfl
 | loc j off=>have:v=_:=hr;rw [this];rfl
 | pt row=>obtain ⟨b,off,rfl,_⟩:=hr;rfl
 | tl j l=>obtain ⟨_,h2⟩:=hr;cases h2 <;> rfl
 | own j=>cases h
 | vl j off =>
  have e:v=vptr ρ j off:=hr
  rw [e];unfold vptr;split <;> rfl
 | fn f caps=>have:v=_:=hr;rw [this];rfl
theorem ld {v:Value} (h:notMany v=true):v.cells = #[v]:=by cases v <;> first | rfl | cases h
theorem A1.cells_rep {x:A1} (h:lZ x=true) {ρ:Env} {M:Mem} {v:Value} (hr:x.rep ρ M v):Reps ρ M x.cells v.cells.toList:=by
 cases x with
 | c y=>rw [ld (lA h hr)];exact ⟨hr,trivial⟩
 | agg cs=>obtain ⟨arr,rfl,h2⟩:=hr;exact h2
def setCells:List Cell→Nat→List Cell→List Cell
 | cs,_,[]=>cs
 | cs,off,x :: r=>setCells (cs.set off x) (off+1) r
def setV:List Value→Nat→List Value→List Value
 | cs,_,[]=>cs
 | cs,off,x :: r=>setV (cs.set off x) (off+1) r
theorem Reps.setMany {ρ:Env} {M:Mem}:∀ {xs:List Cell} {us:List Value} {cs:List Cell} {vs:List Value} (off:Nat),Reps ρ M xs us→Reps ρ M cs vs→Reps ρ M (setCells cs off xs) (setV vs off us)
 | [],[],_,_,_,_,h=>h
 | _ :: _xs,_ :: _us,_,_,off,hx,h=>Reps.setMany (off+1) hx.2 (Reps.set hx.1 off h)
 | [],_ :: _,_,_,_,hx,_=>hx.elim
 | _ :: _,[],_,_,_,hx,_=>hx.elim
theorem rY:∀ (xs:List Value) (k off:Nat) (cs:Array Value),((xs.zipIdx k).foldl (fun cs (p:Value×Nat)=>cs.setIfInBounds (off+p.2) p.1) cs).toList=setV cs.toList (off+k) xs
 | [],_,_,_=>rfl
 | x :: r,k,off,cs=>by
  simp only [List.zipIdx_cons,List.foldl_cons,setV]
  rw [rY r (k+1) off]
  simp [Nat.add_assoc]
theorem sU (v:Value) (off:Nat) (cs:Array Value):(v.cells.zipIdx.foldl (fun cs (c,j)=>cs.setIfInBounds (off+j) c) cs)=(setV cs.toList off v.cells.toList).toArray:=by
 apply Array.ext'
 have h:=rY v.cells.toList 0 off cs
 rw [Nat.add_zero] at h
 rw [← Array.foldl_toList,Array.toList_zipIdx]
 exact h
def zcell (v:Value):Cell:=.d (.v v)
theorem pF (ρ:Env) (M:Mem) (v:Value):(zcell v).rep ρ M v:=Rep.v _
theorem Reps.zero {ρ:Env} {M:Mem}:∀ l:List Value,Reps ρ M (l.map zcell) l
 | []=>trivial
 | x :: r=>⟨pF ρ M x,Reps.zero r⟩
def zeroCells (P:Program) (t:TypeId):Option (List Value) :=
 match P.info? t with
 | some i=>match i.zero with
  | some (.agg cs)=>some cs.toList
  | some v=>some [v]
  | none=>none
 | none=>none
theorem eH {t:TypeId} {l:List Value} (h:zeroCells P t=some l) (w:World):∃ v,(zeroValue t).run P w=.ok v w∧v.cells=l.toArray:=by
 unfold zeroCells at h
 split at h
 ·rename_i i hi
  split at h
  ·rename_i cs hz
   cases h
   exact ⟨.agg cs,by simp [zeroValue,typeInfo,program,Sem.bind,Sem.run,hi,hz,bind,pure],by simp [Value.cells]⟩
  ·rename_i v hne hz
   cases h
   refine ⟨v,by simp [zeroValue,typeInfo,program,Sem.bind,Sem.run,hi,hz,bind,pure],?_⟩
   cases v <;> first | rfl | exact absurd rfl (hne _)
  ·cases h
 ·cases h
def placesOf (P:Program):List Field→Option (List (Nat×Nat))
 | []=>some []
 | f :: r=>match P.info? f.type with
  | some i=>match placesOf P r with
   | some l=>some ((f.offset,i.size) :: l)
   | none=>none
  | none=>none
theorem ju:∀ (fs:List Field) (l:List (Nat×Nat)),placesOf P fs=some l→∀ w,(List.mapM (fun f=>(do pure (f.offset,← sizeOf f.type):Sem (Nat×Nat))) fs).run P w=.ok l w
 | [],l,h,w=>by simp [placesOf] at h;subst h;rfl
 | f :: r,l,h,w=>by
  simp only [placesOf] at h
  split at h
  ·rename_i i hi
   split at h
   ·rename_i l' hl'
    cases h
    rw [List.mapM_cons]
    have h1:(do pure (f.offset,← sizeOf f.type):Sem (Nat×Nat)).run P w=.ok (f.offset,i.size) w:=by
     simp [sizeOf,typeInfo,program,Sem.run,hi,bind,Sem.bind,pure]
    rw [ag h1,ag (ju r l' hl' w)]
    rfl
   ·cases h
  ·cases h
def place (P:Program) (t:TypeId):Option (Nat→Option (Nat×Nat)) :=
 match P.underlying t with
 | some (.struct fs)=>match placesOf P fs.toList with
  | some l=>some fun i=>l[i]?
  | none=>none
 | some (.array _ e)=>match P.info? e with
  | some i=>some fun k=>some (k*i.size,i.size)
  | none=>none
 | _=>none
def fillA (pl:Nat→Option (Nat×Nat)):List Cell→List Nat→List A1→Option (List Cell)
 | cs,[],[]=>some cs
 | cs,i :: is,x :: r=>match pl i with
  | some (off,size)=>match lZ x with
   | true=>match Nat.beq x.cells.length size with
    | true=>match Nat.ble (off+size) cs.length with
     | true=>fillA pl (setCells cs off x.cells) is r
     | false=>none
    | false=>none
   | false=>none
  | none=>none
 | _,_,_=>none
def buildA (P:Program) (t:TypeId) (is:List Nat) (ps:List A1):Option A1 :=
 match zeroCells P t with
 | some z=>match place P t with
  | some pl=>match fillA pl (z.map zcell) is ps with
   | some cs=>some (.agg cs)
   | none=>none
  | none=>none
 | none=>none
theorem ne {ρ:Env} {M:Mem} {pl:Nat→Option (Nat×Nat)}:∀ (is:List Nat) (ps:List A1) (us:List Value) (cs cs':List Cell) (vs:List Value),fillA pl cs is ps=some cs'→A1.reps ρ M ps us→Reps ρ M cs vs →
  ∃ vs',Instr.fill pl vs.toArray (is.zip us)=some vs'.toArray∧Reps ρ M cs' vs'
 | [],[],[],cs,cs',vs,h,_,hr=>by simp [fillA] at h;subst h;exact ⟨vs,rfl,hr⟩
 | [],[],_ :: _,_,_,_,_,hp,_=>hp.elim
 | i :: is,x :: r,[],_,_,_,_,hp,_=>hp.elim
 | i :: is,x :: r,u :: us,cs,cs',vs,h,hp,hr=>by
  simp only [fillA] at h
  split at h
  ·rename_i off size hpl
   split at h
   ·rename_i hpn
    split at h
    ·rename_i hl
     split at h
     ·rename_i hle
      have hl':x.cells.length=size:=Nat.eq_of_beq_eq_true hl
      have hle':=Nat.le_of_ble_eq_true hle
      have hc:=A1.cells_rep hpn hp.1
      have hcl:=hc.len
      have hvl:=hr.len
      simp only [List.zip_cons_cons,Instr.fill,hpl]
      rw [if_neg (by
       have:u.cells.size=size:=by simpa [hl'] using hcl
       simp [this,hvl];omega),sU]
      exact ne is r us (setCells cs off x.cells) cs' _ h hp.2 (by simpa using Reps.setMany off hc hr)
     ·cases h
    ·cases h
   ·cases h
  ·cases h
 | [],_ :: _,_,_,_,_,h,_,_=>by simp [fillA] at h
 | _ :: _,[],_,_,_,_,h,_,_=>by simp [fillA] at h
theorem un {ρ:Env} {M:Mem} {t:TypeId} {is:List Nat} {ps:List A1} {us:List Value} {x:A1} (h:buildA P t is ps=some x) (hp:A1.reps ρ M ps us) (w:World) :
  ∃ u,(Instr.build t (is.zip us).toArray).run P w=.ok u w∧x.rep ρ M u:=by
 unfold buildA at h
 split at h
 ·rename_i z hz
  split at h
  ·rename_i pl hpl
   split at h
   ·rename_i cs hcs
    cases h
    obtain ⟨zv,hzv,hzc⟩:=eH hz w
    obtain ⟨vs',hf,hr'⟩:=ne (ρ:=ρ) (M:=M) is ps us _ _ z hcs hp (Reps.zero z)
    refine ⟨.agg vs'.toArray,?_,_,rfl,hr'⟩
    unfold Instr.build
    rw [ag hzv]
    unfold place at hpl
    split at hpl
    ·rename_i fs hu
     split at hpl
     ·rename_i l hl
      cases hpl
      have hun:(underlying t).run P w=.ok (.struct fs) w:=by simp [underlying,program,Sem.run,hu]
      rw [ag hun]
      simp only
      have hm:(fs.mapM fun f=>(do pure (f.offset,← sizeOf f.type):Sem (Nat×Nat))).run P w=.ok l.toArray w:=by
       rw [← Array.toArray_toList (xs:=fs),List.mapM_toArray,Sem.run_map]
       have:=ju fs.toList l hl w
       rw [this];rfl
      rw [ag hm]
      have e1:(fun i:Nat=>l.toArray[i]?)=(fun i:Nat=>l[i]?):=by funext i;simp
      simp only [e1,hzc,hf]
      rfl
     ·cases hpl
    ·rename_i n e hu
     split at hpl
     ·rename_i i hi
      cases hpl
      have hun:(underlying t).run P w=.ok (.array n e) w:=by simp [underlying,program,Sem.run,hu]
      have hsz:(sizeOf e).run P w=.ok i.size w:=by simp [sizeOf,typeInfo,program,Sem.run,hi]
      rw [ag hun]
      simp only
      rw [ag hsz]
      simp only [hzc,hf]
      rfl
     ·cases hpl
    ·cases hpl
   ·cases h
  ·cases h
 ·cases h
def slOf:A1→Option (List (List D))
 | .c (.d (.sl l))=>some l
 | .c (.tl _ l)=>some l
 | .c (.d (.v (.slice none 0 0)))=>some []
 | _=>none
theorem sh {x:A1} {l:List (List D)} (h:slOf x=some l) {ρ:Env} {M:Mem} {v:Value} (hr:x.rep ρ M v):Rep M (.sl l) v:=by
 unfold slOf at h
 split at h
 ·cases h;exact hr
 ·cases h;exact hr.2
 ·cases h;rw [bz hr];exact Rep.nil
 ·cases h
def isSl (P:Program) (t:TypeId):Bool:=match P.underlying t with
 | some (.slice _)=>true
 | _=>false
def dcells (row:List D):List Cell:=row.map .d
def evQ (P:Program) (F:FS) (ty:TypeId):Op→Option A1
 | .move x=>rd F x
 | .assign x=>rd F x
 | .binOp op t x y _=>match rdV F x with
  | some vx=>match rdV F y with
   | some vy=>match runPure P (eqGuard op t x y vx vy >>= fun _=>binOp op t vx vy) with
    | some v=>some (ofV v)
    | none=>none
   | none=>none
  | none=>none
 | .unOp op _ x=>match rdV F x with
  | some vx=>match runPure P (Op.unary op vx) with
   | some v=>some (ofV v)
   | none=>none
  | none=>none
 | .convert s d x=>match rdV F x with
  | some vx=>match runPure P (convert s d vx) with
   | some v=>some (ofV v)
   | none=>none
  | none=>none
 | .field t x f=>match rd F x with
  | some (.agg cs)=>match fieldOff P t f with
   | some (o,ft)=>takeA P ft cs o
   | none=>none
  | _=>none
 | .index t x i=>match rdV F x with
  | some vx=>match rdV F i with
   | some vi=>match runPure P (Instr.index t vx vi) with
    | some v=>some (ofV v)
    | none=>none
   | none=>none
  | none=>none
 | .build t parts=>match rds F (parts.toList.map (·.2)) with
  | some ps=>buildA P t (parts.toList.map (·.1)) ps
  | none=>none
 | .extract t i=>match opnd F t with
  | some (.tup xs)=>xs[i]?
  | _=>none
 | .fieldAddr t x f=>match rd F x with
  | some (.c (.loc j off))=>match fieldOff P t f with
   | some (o,_)=>some (.c (.loc j (off+o)))
   | none=>none
  | some (.c (.pt row))=>match fieldOff P t f with
   | some (o,_)=>some (.c (.pt (row.drop o)))
   | none=>none
  | _=>none
 | .load t x=>match rd F x with
  | some (.c (.loc j off))=>match F.bl j with
   | some (.blk cs _)=>takeA P t cs off
   | _=>none
  | some (.c (.pt row))=>takeA P t (dcells row) 0
  | _=>none
 | .nilCheck x=>match rd F x with
  | some (.c (.loc j off))=>some (.c (.loc j off))
  | some (.c (.pt row))=>some (.c (.pt row))
  | _=>none
 | .indexAddr t x i=>match rd F x with
  | some (.c (.loc j off))=>match rdV F i with
   | some (.int _ (.ofNat k))=>match arrInfo P t with
    | some (n,sz)=>match Nat.blt k n with
     | true=>some (.c (.loc j (off+k*sz)))
     | false=>none
    | none=>none
   | _=>none
  | _=>none
 | .call { callee:=.builtin b,args,argTypes }=>match rdVs F args.toList with
  | some vs=>match runPure P (builtin b argTypes ty (args.map fun | .const _=>true | _=>false) vs.toArray) with
   | some (.value v)=>some (ofV v)
   | _=>none
  | none=>match b,args.toList,argTypes.toList with
   | .len,[x],[t]=>match rd F x with
    | some y=>match slOf y with
     | some l=>match isSl P t with
      | true=>some (.c (.d (.v (.int .i64 l.length))))
      | false=>none
     | none=>none
    | none=>none
   | _,_,_=>none
 | _=>none
theorem kG (parts:Array (Nat×Operand)) (f:Operand→Value):parts.map (fun x=>(x.fst,f x.snd))=((parts.toList.map (·.1)).zip ((parts.toList.map (·.2)).map f)).toArray:=by
 apply Array.ext'
 simp only [Array.toList_map,List.map_map]
 induction parts.toList with
 | nil=>rfl
 | cons p r ih=>simp [ih]
theorem rv {M:Mem} {l:List (List D)} {v:Value} (h:Rep M (.sl l) v) {t:TypeId} (ht:isSl P t=true) (w:World):(Builtin.len_ #[t] 0 #[v]).run P w=.ok (.int .i64 l.length) w:=by
 unfold isSl at ht
 split at ht
 ·rename_i e hu
  have hun:(underlying t).run P w=.ok (.slice e) w:=by simp [underlying,program,Sem.run,hu]
  obtain ⟨a,n,c,rfl,hn⟩:∃ a n c,v=.slice a n c∧n=l.length:=by
   cases h with
   | nil=>exact ⟨_,_,_,rfl,rfl⟩
   | sl=>exact ⟨_,_,_,rfl,rfl⟩
  subst hn
  unfold Builtin.len_
  simp only [List.getElem?_toArray,List.getElem?_cons_zero]
  rw [ag hun]
  rfl
 ·cases ht
theorem vL {ρ:Env} {M:Mem} {a:Act} {w:World} {o:Oper} {x:A1} (hr:Rel0 C F ρ M a w) (hR:Reads F a ρ M o.op.operands.toList) (h:evQ P F o.type o.op=some x) :
  ∃ u,(execOp a.eval o).run P w=.ok (.value u) w∧x.rep ρ M u:=by
 have fin:∀ {s:Sem Value} {v:Value},runPure P s=some v→x=ofV v→∃ u,(do let y ← s;pure (Next.value y):Sem Next).run P w=.ok (.value u) w∧x.rep ρ M u:=by
  intro s v h1 h2
  exact ⟨v,aA (mO h1 w),by rw [h2];exact vk v ρ M⟩
 unfold evQ at h
 split at h
 ·rename_i x' ho
  unfold execOp;simp only [ho]
  exact ⟨_,rfl,hR x' (by simp [ho,Op.operands]) _ h⟩
 ·rename_i x' ho
  unfold execOp;simp only [ho]
  exact ⟨_,rfl,hR x' (by simp [ho,Op.operands]) _ h⟩
 ·rename_i op t x1 y1 yt ho
  split at h
  ·rename_i vx hvx
   split at h
   ·rename_i vy hvy
    split at h
    ·rename_i v hv
     cases h
     unfold execOp;simp only [ho]
     rw [a7 hR (by simp [ho,Op.operands]) hvx,a7 hR (by simp [ho,Op.operands]) hvy]
     exact fin hv rfl
    ·cases h
   ·cases h
  ·cases h
 ·rename_i op t x1 ho
  split at h
  ·rename_i vx hvx
   split at h
   ·rename_i v hv
    cases h
    unfold execOp;simp only [ho]
    rw [a7 hR (by simp [ho,Op.operands]) hvx]
    exact fin hv rfl
   ·cases h
  ·cases h
 ·rename_i s d x1 ho
  split at h
  ·rename_i vx hvx
   split at h
   ·rename_i v hv
    cases h
    unfold execOp;simp only [ho]
    rw [a7 hR (by simp [ho,Op.operands]) hvx]
    exact fin hv rfl
   ·cases h
  ·cases h
 ·rename_i t x1 f ho
  split at h
  ·rename_i cs hcs
   split at h
   ·rename_i o' ft hf
    unfold execOp;simp only [ho]
    obtain ⟨arr,e1,h2⟩:=hR x1 (by simp [ho,Op.operands]) _ hcs
    rw [e1]
    obtain ⟨u,g1,g2⟩:=vJ (P:=P) hf h2 h w
    exact ⟨u,aA g1,g2⟩
   ·cases h
  ·cases h
 ·rename_i t x1 i1 ho
  split at h
  ·rename_i vx hvx
   split at h
   ·rename_i vi hvi
    split at h
    ·rename_i v hv
     cases h
     unfold execOp;simp only [ho]
     rw [a7 hR (by simp [ho,Op.operands]) hvx,a7 hR (by simp [ho,Op.operands]) hvi]
     exact fin hv rfl
    ·cases h
   ·cases h
  ·cases h
 ·rename_i t parts ho
  split at h
  ·rename_i ps hps
   unfold execOp;simp only [ho]
   obtain ⟨u,g1,g2⟩:=un (P:=P) h (iw (fun z hz=>hR z (by simpa [ho,Op.operands] using hz)) hps) w
   refine ⟨u,?_,g2⟩
   show (do let y ← Instr.build t (parts.map fun (x:Nat×Operand)=>(x.fst,a.eval x.snd));pure (Next.value y):Sem Next).run P w=_
   rw [kG]
   exact aA g1
  ·cases h
 ·rename_i t i ho
  split at h
  ·rename_i xs hxs
   unfold execOp;simp only [ho]
   obtain ⟨arr,e1,h2⟩:=aU hr hxs
   rw [e1]
   have key:∀ (xs:List A1) (vs:List Value) (i:Nat),A1.reps ρ M xs vs→xs[i]? = some x→∃ u,vs[i]? = some u∧x.rep ρ M u:=by
    intro xs
    induction xs with
    | nil=>intro vs i _ hx;simp at hx
    | cons y ys ih =>
     intro vs i hrs hx
     cases vs with
     | nil=>exact hrs.elim
     | cons u us =>
      cases i with
      | zero=>simp at hx;subst hx;exact ⟨u,rfl,hrs.1⟩
      | succ i=>obtain ⟨u',q1,q2⟩:=ih us i hrs.2 (by simpa using hx);exact ⟨u',by simpa using q1,q2⟩
   obtain ⟨u,q1,q2⟩:=key xs arr.toList i h2 h
   refine ⟨u,?_,q2⟩
   have e2:arr[i]? = some u:=by simpa using q1
   simp only [Instr.extract,e2]
   rfl
  ·cases h
 ·rename_i t x1 f ho
  split at h
  ·rename_i j off hx
   split at h
   ·rename_i o' ft ho'
    cases h
    unfold execOp;simp only [ho]
    have e:a.eval x1=ptr ρ j off:=hR x1 (by simp [ho,Op.operands]) _ hx
    rw [e]
    exact ⟨_,aA (jD ho' _ _ w),rfl⟩
   ·cases h
  ·rename_i row hx
   split at h
   ·rename_i o' ft ho'
    cases h
    unfold execOp;simp only [ho]
    obtain ⟨b,off,e,hd⟩:=hR x1 (by simp [ho,Op.operands]) _ hx
    rw [e]
    refine ⟨_,aA (jD ho' _ _ w),b,off+o',rfl,fun j d hj=>?_⟩
    rw [List.getElem?_drop] at hj
    rw [Nat.add_assoc];exact hd _ _ hj
   ·cases h
  ·cases h
 ·rename_i t x1 ho
  split at h
  ·rename_i j off hx
   split at h
   ·rename_i cs ty' hb
    unfold execOp;simp only [ho]
    have e:a.eval x1=ptr ρ j off:=hR x1 (by simp [ho,Op.operands]) _ hx
    rw [e]
    obtain ⟨⟨arr,g1,g2⟩,_⟩:=hr.heap.inv _ _ hb
    obtain ⟨u,q1,q2⟩:=kQ (P:=P) (w:=w) (b:=blockOf (ρ j)) (o0:=0) (fun i v hv=>by
     rw [Nat.zero_add]
     have hv':arr[i]? = some v:=by simpa using hv
     simp only [World.cell?,g1];simpa using hv') g2 h
    rw [Nat.zero_add] at q1
    exact ⟨u,aA q1,q2⟩
   ·cases h
  ·rename_i row hx
   unfold execOp;simp only [ho]
   obtain ⟨b,off,e,hd⟩:=hR x1 (by simp [ho,Op.operands]) _ hx
   rw [e]
   have key:∀ (row:List D) (k:Nat),(∀ (j:Nat) d,row[j]? = some d→∃ u,M.cell b (off+k+j)=some u∧Rep M d u)→∃ vs,Reps ρ M (dcells row) vs∧∀ (i:Nat) v,vs[i]? = some v→w.cell? ⟨b,off+k+i,none⟩=some v:=by
    intro row
    induction row with
    | nil=>intro k _;exact ⟨[],trivial,fun i v hv=>by simp at hv⟩
    | cons d r ih =>
     intro k hk
     obtain ⟨u,m1,m2⟩:=hk 0 d rfl
     obtain ⟨vs,r1,r2⟩:=ih (k+1) (fun j d' hj=>by
      have:=hk (j+1) d' (by simpa using hj)
      rw [show off+(k+1)+j=off+k+(j+1) by omega];exact this)
     refine ⟨u :: vs,⟨m2,r1⟩,fun i v hv=>?_⟩
     cases i with
     | zero=>simp at hv;subst hv;exact hr.heap.mem.cell _ _ _ (by simpa using m1)
     | succ i =>
      have:=r2 i v (by simpa using hv)
      rw [show off+k+(i+1)=off+(k+1)+i by omega];exact this
   obtain ⟨vs,r1,r2⟩:=key row 0 (fun j d hj=>by simpa using hd j d hj)
   obtain ⟨u,q1,q2⟩:=kQ (P:=P) (w:=w) (b:=b) (o0:=off) (off:=0) (fun i v hv=>by have:=r2 i v hv;simpa using this) r1 h
   exact ⟨u,aA q1,q2⟩
  ·cases h
 ·rename_i x1 ho
  split at h
  ·rename_i j off hx
   cases h
   unfold execOp;simp only [ho]
   have e:a.eval x1=ptr ρ j off:=hR x1 (by simp [ho,Op.operands]) _ hx
   rw [e]
   exact ⟨_,rfl,rfl⟩
  ·rename_i row hx
   cases h
   unfold execOp;simp only [ho]
   have hp:=hR x1 (by simp [ho,Op.operands]) _ hx
   obtain ⟨b,off,e,hd⟩:=hp
   rw [e]
   exact ⟨_,rfl,b,off,rfl,hd⟩
  ·cases h
 ·rename_i t x1 i1 ho
  split at h
  ·rename_i j off hx
   split at h
   ·rename_i ik k hi
    split at h
    ·rename_i n sz hti
     split at h
     ·rename_i hlt
      cases h
      unfold execOp;simp only [ho]
      have e:a.eval x1=ptr ρ j off:=hR x1 (by simp [ho,Op.operands]) _ hx
      rw [e,a7 hR (by simp [ho,Op.operands]) hi]
      refine ⟨_,aA (kD hti (Int.natCast_nonneg k) (by have:=Nat.blt_eq.mp hlt;exact Int.ofNat_lt.mpr this) w),rfl⟩
     ·cases h
    ·cases h
   ·cases h
  ·cases h
 ·rename_i b args argTypes ho
  split at h
  ·rename_i vs hvs
   split at h
   ·rename_i v hv
    cases h
    unfold execOp;simp only [ho]
    have e1:args.map a.eval=vs.toArray:=by
     rw [← uT (fun z hz=>hR z (by simpa [ho,Op.operands,Call.operands] using hz)) hvs];apply Array.ext';simp
    simp only [resolve,e1,pure_bind,invoke]
    exact ⟨v,mO hv w,vk v ρ M⟩
   ·cases h
  ·split at h
   ·rename_i x1 t ha ht
    split at h
    ·rename_i y hy
     split at h
     ·rename_i l hl
      split at h
      ·rename_i his
       cases h
       unfold execOp;simp only [ho]
       have ha':args = #[x1]:=by apply Array.ext';simpa using ha
       have ht':argTypes = #[t]:=by apply Array.ext';simpa using ht
       subst ha' ht'
       refine ⟨_,?_,Rep.v _⟩
       have hrep:=sh hl (hR x1 (by simp [ho,Op.operands,Call.operands]) y hy)
       have:=rv (P:=P) hrep his w
       simp only [resolve,List.map_toArray,List.map_cons,List.map_nil,pure_bind,invoke]
       show (do let y ← Builtin.len_ #[t] o.type #[a.eval x1];pure (Next.value y):Sem Next).run P w=_
       exact aA this
      ·cases h
     ·cases h
    ·cases h
   ·cases h
 ·cases h
def slotsOf:List Operand→List Nat
 | []=>[]
 | .tmp t :: r=>t :: slotsOf r
 | _ :: r=>slotsOf r
def ldBlk (F:FS):Op→List Nat
 | .load _ x=>match rd F x with
  | some (.c (.loc j _))=>[j]
  | _=>[]
 | _=>[]
def Same (F' F:FS) (rs rb:List Nat):Prop:=(∀ t∈rs,F'.sl t=F.sl t)∧(∀ j∈rb,F'.bl j=F.bl j)
theorem aG {F':FS}:∀ {xs:List Operand},(∀ t∈slotsOf xs,F'.sl t=F.sl t)→∀ x∈xs,opnd F' x=opnd F x
 | [],_,x,hx=>by cases hx
 | y :: r,h,x,hx=>by
  cases hx with
  | head=>cases y with
   | tmp t=>exact h t (by simp [slotsOf])
   | _=>rfl
  | tail _ hm=>exact aG (fun t ht=>h t (by cases y <;> simp [slotsOf,ht])) x hm
theorem dm {F':FS} {x:Operand} (h:opnd F' x=opnd F x):rd F' x=rd F x:=by unfold rd;rw [h]
theorem ba {F':FS} {x:Operand} (h:opnd F' x=opnd F x):rdV F' x=rdV F x:=by unfold rdV;rw [dm h]
theorem uS {F':FS} {xs:List Operand} (h:∀ x∈xs,opnd F' x=opnd F x):rdVs F' xs=rdVs F xs:=by
 induction xs with
 | nil=>rfl
 | cons x r ih=>simp only [rdVs,ba (h x (by simp)),ih (fun z hz=>h z (by simp [hz]))]
theorem fy {F':FS} {xs:List Operand} (h:∀ x∈xs,opnd F' x=opnd F x):rds F' xs=rds F xs:=by
 induction xs with
 | nil=>rfl
 | cons x r ih=>simp only [rds,dm (h x (by simp)),ih (fun z hz=>h z (by simp [hz]))]
theorem aC {F':FS} {g:Bool} {xs:List Operand} (h:∀ x∈xs,opnd F' x=opnd F x) (hs:sideOk F g xs):sideOk F' g xs:=by
 induction xs with
 | nil=>trivial
 | cons x r ih =>
  unfold sideOk at hs ⊢
  rw [h x (by simp)]
  split at hs
  ·exact ⟨hs.1,ih (fun z hz=>h z (by simp [hz])) hs.2⟩
  ·exact ih (fun z hz=>h z (by simp [hz])) hs
theorem sV {F':FS} {ty:TypeId} {op:Op} (h:∀ x∈op.operands.toList,opnd F' x=opnd F x) (hb:∀ j∈ldBlk F op,F'.bl j=F.bl j):evQ P F' ty op=evQ P F ty op:=by
 unfold evQ
 split
 ·rename_i x;exact dm (h x (by simp [Op.operands]))
 ·rename_i x;exact dm (h x (by simp [Op.operands]))
 ·rename_i op t x y yt
  rw [ba (h x (by simp [Op.operands])),ba (h y (by simp [Op.operands]))]
 ·rename_i op t x
  rw [ba (h x (by simp [Op.operands]))]
 ·rename_i s d x
  rw [ba (h x (by simp [Op.operands]))]
 ·rename_i t x f
  rw [dm (h x (by simp [Op.operands]))]
 ·rename_i t x i
  rw [ba (h x (by simp [Op.operands])),ba (h i (by simp [Op.operands]))]
 ·rename_i t parts
  rw [fy (fun z hz=>h z (by simpa [Op.operands] using hz))]
 ·rename_i t i
  rw [h t (by simp [Op.operands])]
 ·rename_i t x f
  rw [dm (h x (by simp [Op.operands]))]
 ·rename_i t x
  rw [dm (h x (by simp [Op.operands]))]
  split
  ·rename_i j off hj
   rw [hb j (by simp [ldBlk,hj])]
  ·rfl
  ·rfl
 ·rename_i x
  rw [dm (h x (by simp [Op.operands]))]
 ·rename_i t x i
  rw [dm (h x (by simp [Op.operands])),ba (h i (by simp [Op.operands]))]
 ·rename_i b args argTypes
  have hs:∀ x∈args.toList,opnd F' x=opnd F x:=fun z hz=>h z (by simpa [Op.operands,Call.operands] using hz)
  rw [uS hs]
  split
  ·rfl
  ·split
   ·rename_i x t ha ht
    rw [dm (hs x (by rw [ha];simp))]
   ·rfl
 ·rfl
end Go.E2
end
section
namespace Go.E2
variable {P:Program} {C:Ctx}
def RepsD (M:Mem):List D→List Value→Prop
 | [],[]=>True
 | d :: ds,v :: vs=>Rep M d v∧RepsD M ds vs
 | _,_=>False
theorem RepsD.len {M:Mem}:∀ {ds:List D} {vs:List Value},RepsD M ds vs→vs.length=ds.length
 | [],[],_=>rfl
 | _ :: _,_ :: _,h=>by simp [RepsD.len h.2]
 | [],_ :: _,h=>h.elim
 | _ :: _,[],h=>h.elim
theorem RepsD.mono {M M':Mem} (hm:M.le M'):∀ {ds:List D} {vs:List Value},RepsD M ds vs→RepsD M' ds vs
 | [],[],_=>trivial
 | _ :: _,_ :: _,h=>⟨h.1.mono hm,h.2.mono hm⟩
 | [],_ :: _,h=>h.elim
 | _ :: _,[],h=>h.elim
theorem RepsD.append {M:Mem}:∀ {ds:List D} {vs:List Value} {es:List D} {us:List Value},RepsD M ds vs→RepsD M es us→RepsD M (ds++es) (vs++us)
 | [],[],_,_,_,h=>h
 | _ :: _,_ :: _,_,_,h,h'=>⟨h.1,RepsD.append h.2 h'⟩
 | [],_ :: _,_,_,h,_=>h.elim
 | _ :: _,[],_,_,h,_=>h.elim
theorem RepsD.get {M:Mem}:∀ {ds:List D} {vs:List Value},RepsD M ds vs→∀ (i:Nat) d,ds[i]? = some d→∃ v,vs[i]? = some v∧Rep M d v
 | [],[],_,i,d,h=>by simp at h
 | x :: xs,v :: vs,hr,i,d,h=>by
  cases i with
  | zero=>simp at h;subst h;exact ⟨v,rfl,hr.1⟩
  | succ i=>obtain ⟨u,h1,h2⟩:=RepsD.get hr.2 i d (by simpa using h);exact ⟨u,by simpa using h1,h2⟩
 | [],_ :: _,hr,_,_,_=>hr.elim
 | _ :: _,[],hr,_,_,_=>hr.elim
theorem RepsD.drop {M:Mem}:∀ {ds:List D} {vs:List Value} (n:Nat),RepsD M ds vs→RepsD M (ds.drop n) (vs.drop n)
 | _,_,0,h=>h
 | [],[],_+1,_=>trivial
 | _ :: _,_ :: _,n+1,hr=>RepsD.drop n hr.2
 | [],_ :: _,_+1,hr=>hr.elim
 | _ :: _,[],_+1,hr=>hr.elim
theorem RepsD.take {M:Mem}:∀ {ds:List D} {vs:List Value} (n:Nat),RepsD M ds vs→RepsD M (ds.take n) (vs.take n)
 | _,_,0,_=>trivial
 | [],[],_+1,_=>trivial
 | _ :: _,_ :: _,n+1,hr=>⟨hr.1,RepsD.take n hr.2⟩
 | [],_ :: _,_+1,hr=>hr.elim
 | _ :: _,[],_+1,hr=>hr.elim
def Rows (sz:Nat) (l:List (List D)):Prop:=∀ row∈l,row.length=sz
theorem a6 {sz:Nat}:∀ {l:List (List D)},Rows sz l→l.flatten.length=l.length*sz
 | [],_=>by simp
 | x :: r,h=>by
  have:=a6 (l:=r) (fun y hy=>h y (by simp [hy]))
  simp [this,h x (by simp),Nat.succ_mul,Nat.add_comm]
theorem fq {sz:Nat}:∀ {l:List (List D)},Rows sz l→∀ (i j:Nat) row,l[i]? = some row→j<sz→l.flatten[i*sz+j]? = row[j]?
 | [],_,i,j,row,h,_=>by simp at h
 | x :: r,hr,i,j,row,h,hj=>by
  have hx:=hr x (by simp)
  cases i with
  | zero=>simp at h;subst h;simp only [List.flatten_cons,Nat.zero_mul,Nat.zero_add];rw [List.getElem?_append_left (by omega)]
  | succ i =>
   have:=fq (l:=r) (fun y hy=>hr y (by simp [hy])) i j row (by simpa using h) hj
   rw [List.flatten_cons,List.getElem?_append_right (by rw [hx,Nat.succ_mul];omega),← this]
   congr 1
   rw [hx,Nat.succ_mul];omega
theorem l9 {sz:Nat}:∀ {l:List (List D)} (n:Nat),Rows sz l→(l.drop n).flatten=l.flatten.drop (n*sz)
 | _,0,_=>by simp
 | [],_+1,_=>by simp
 | x :: r,n+1,h=>by
  have hx:=h x (by simp)
  rw [List.drop_succ_cons,l9 n (fun y hy=>h y (by simp [hy])),List.flatten_cons,Nat.succ_mul,List.drop_append,List.drop_eq_nil_of_le (as:=x) (by omega),List.nil_append]
  congr 1
  omega
theorem fO {sz:Nat}:∀ {l:List (List D)} (n:Nat),Rows sz l→(l.take n).flatten=l.flatten.take (n*sz)
 | _,0,_=>by simp
 | [],_+1,_=>by simp
 | x :: r,n+1,h=>by
  have hx:=h x (by simp)
  rw [List.take_succ_cons,List.flatten_cons,fO n (fun y hy=>h y (by simp [hy])),List.flatten_cons,Nat.succ_mul,List.take_append,List.take_of_length_le (l:=x) (by omega)]
  congr 2
  omega
theorem Rep.flat {M:Mem} {l:List (List D)} {v:Value} (h:Rep M (.sl l) v) (hne:l≠[]):∃ b off cap sz vs,v=.slice (some ⟨b,off,none⟩) l.length cap∧l.length≤cap∧Rows sz l∧RepsD M l.flatten vs∧∀ (k:Nat) u,vs[k]? = some u→M.cell b (off+k)=some u:=by
 cases h with
 | nil=>exact absurd rfl hne
 | @sl _ b off cap sz f hc hl hm he =>
  have hrows:Rows sz l:=fun row hrow=>by
   obtain ⟨i,hi,e⟩:=List.getElem_of_mem hrow
   exact hl i row (by rw [List.getElem?_eq_getElem hi,e])
  have key:∀ (k:Nat) (l':List (List D)),(∀ (i:Nat) row,l'[i]? = some row→l[k+i]? = some row)→∃ vs,RepsD M l'.flatten vs∧∀ (q:Nat) u,vs[q]? = some u→M.cell b (off+k*sz+q)=some u:=by
   intro k l'
   induction l' generalizing k with
   | nil=>intro _;exact ⟨[],trivial,fun q u hq=>by simp at hq⟩
   | cons x r ih =>
    intro hl'
    have hx:l[k]? = some x:=by simpa using hl' 0 x rfl
    obtain ⟨us,u1,u2⟩:=ih (k+1) (fun i row hi=>by
     have:=hl' (i+1) row (by simpa using hi)
     rw [show k+1+i=k+(i+1) by omega];exact this)
    have row:∀ (m:Nat) (y:List D),(∀ (j:Nat) d,y[j]? = some d→x[m+j]? = some d)→∃ vs,RepsD M y vs∧∀ (q:Nat) u,vs[q]? = some u→M.cell b (off+k*sz+(m+q))=some u:=by
     intro m y
     induction y generalizing m with
     | nil=>intro _;exact ⟨[],trivial,fun q u hq=>by simp at hq⟩
     | cons d ds ihy =>
      intro hy
      have hd:x[m]? = some d:=by simpa using hy 0 d rfl
      obtain ⟨vs,v1,v2⟩:=ihy (m+1) (fun j d' hj=>by
       have:=hy (j+1) d' (by simpa using hj)
       rw [show m+1+j=m+(j+1) by omega];exact this)
      refine ⟨f k m :: vs,⟨he k x m d hx hd,v1⟩,fun q u hq=>?_⟩
      cases q with
      | zero=>simp at hq;subst hq;have:=hm k x m d hx hd;rw [Nat.add_zero];exact this
      | succ q =>
       have:=v2 q u (by simpa using hq)
       rw [show m+(q+1)=m+1+q by omega];exact this
    obtain ⟨vs,v1,v2⟩:=row 0 x (fun j d hj=>by simpa using hj)
    refine ⟨vs++us,by rw [List.flatten_cons];exact v1.append u1,fun q u hq=>?_⟩
    have hvl:vs.length=sz:=by rw [v1.len];exact hl k x hx
    rcases Nat.lt_or_ge q vs.length with hlt | hge
    ·rw [List.getElem?_append_left hlt] at hq
     have:=v2 q u hq
     simpa using this
    ·rw [List.getElem?_append_right hge] at hq
     have:=u2 _ u hq
     rw [hvl] at this hge
     rw [Nat.succ_mul] at this
     rw [show off+k*sz+q=off+(k*sz+sz)+(q - sz) by omega];exact this
  obtain ⟨vs,h1,h2⟩:=key 0 l (fun i row hi=>by simpa using hi)
  exact ⟨b,off,cap,sz,vs,rfl,hc,hrows,h1,fun k u hk=>by simpa using h2 k u hk⟩
theorem dO {M:Mem} {l:List (List D)} {b off cap sz:Nat} {vs:List Value} (hc:l.length≤cap) (hr:Rows sz l) (hv:RepsD M l.flatten vs) (hm:∀ (k:Nat) u,vs[k]? = some u→M.cell b (off+k)=some u) :
  Rep M (.sl l) (.slice (some ⟨b,off,none⟩) l.length cap):=by
 have key:∀ (i:Nat) row (j:Nat) d,l[i]? = some row→row[j]? = some d→∃ u,vs[i*sz+j]? = some u∧Rep M d u:=by
  intro i row j d hi hj
  have hrow:row.length=sz:=hr row (List.mem_of_getElem? hi)
  have hjl:j<row.length:=(List.getElem?_eq_some_iff.1 hj).1
  have:=fq hr i j row hi (by omega)
  exact hv.get _ d (by rw [this];exact hj)
 refine .sl (sz:=sz) (f:=fun i j=>(vs[i*sz+j]?).getD undef) hc (fun i row hi=>hr row (List.mem_of_getElem? hi)) (fun i row j d hi hj=>?_) (fun i row j d hi hj=>?_)
 ·obtain ⟨u,h1,h2⟩:=key i row j d hi hj
  rw [h1]
  rw [Nat.add_assoc];exact hm _ _ h1
 ·obtain ⟨u,h1,h2⟩:=key i row j d hi hj
  simp only [h1]
  exact h2
theorem Rep.sl_cases {M:Mem} {l:List (List D)} {v:Value} (h:Rep M (.sl l) v):∃ a cap,v=.slice a l.length cap:=by
 cases h with
 | nil=>exact ⟨_,_,rfl⟩
 | sl=>exact ⟨_,_,rfl⟩
def Mem.put (M:Mem) (b off:Nat) (vs:List Value):Mem:=⟨fun b' o=>if b'=b∧off≤o∧o<off+vs.length then vs[o - off]? else M.cell b' o,M.obj,M.junk⟩
theorem dP {M:Mem} {b off:Nat} {vs:List Value} (h:∀ o,off≤o→M.cell b o=none):M.le (M.put b off vs):=by
 refine ⟨fun b' o v hv=>?_,fun _ _ h=>h,fun _ _ h=>h⟩
 simp only [Mem.put]
 rw [if_neg]
 ·exact hv
 ·rintro ⟨rfl,h1,_⟩
  rw [h o h1] at hv;cases hv
theorem fv {M:Mem} {b off k:Nat} {vs:List Value} {u:Value} (h:vs[k]? = some u):(M.put b off vs).cell b (off+k)=some u:=by
 have hk:k<vs.length:=(List.getElem?_eq_some_iff.1 h).1
 simp only [Mem.put]
 rw [if_pos (by simp;omega),show off+k - off=k by omega];exact h
theorem cP {M:Mem} {b off b' o:Nat} {vs:List Value} (h:b'≠b):(M.put b off vs).cell b' o=M.cell b' o:=by
 simp only [Mem.put];rw [if_neg (fun e=>h e.1)]
theorem gT {M:Mem} {b off o:Nat} {vs:List Value} {v:Value} (h:(M.put b off vs).cell b o=some v):(off≤o∧vs[o - off]? = some v)∨M.cell b o=some v:=by
 simp only [Mem.put] at h
 split at h
 ·rename_i hc;exact .inl ⟨hc.2.1,h⟩
 ·exact .inr h
structure Sum where
 rs:List Nat
 rb:List Nat
 ws:List Nat
 wb:List Nat
def TriL (P:Program) (C:Ctx) (ops:Array Oper) (o:Oper) (s:Sum) (Ws:List (Nat×AV)) (Wb:List (Nat×Ob)) (F:FS):Prop :=
 (s.ws=Ws.map (·.1)∧s.wb=Wb.map (·.1))∧∀ F',Same F' F s.rs s.rb→Tri P C ops o F' (F'.upd Ws Wb)
theorem TriL.tri {ops:Array Oper} {o:Oper} {s:Sum} {Ws:List (Nat×AV)} {Wb:List (Nat×Ob)} {F:FS} (h:TriL P C ops o s Ws Wb F):Tri P C ops o F (F.upd Ws Wb) :=
 h.2 F ⟨fun _ _=>rfl,fun _ _=>rfl⟩
section ops
variable {F:FS} {ops:Array Oper} {dst:Nat} {op:Op} {ty:TypeId} {pos:String} {after:Array Edge}
theorem bC {o:Oper} {d:Nat} {x:A1} (hg:o.guard=none) (hd:o.dst=some d) (hn:Nat.blt d C.n=true) (hq:∀ ρ M a w,Rel0 C F ρ M a w→∃ u,(execOp a.eval o).run P w=.ok (.value u) w∧x.rep ρ M u):Tri P C ops o F (F.upd [(d,.s x)] []):=by
 refine Tri.val [] hg hd hn (fun _ h=>by cases h) (fun k hk=>by rw [bF];exact hk) (fun _ h=>by cases h) (fun ρ M a w hr=>?_)
 obtain ⟨u,h1,_⟩:=hq ρ M a w hr
 refine ⟨u,w,M,fun _=>undef,h1,Mem.le_refl _,fun ρ' h0 _=>?_⟩
 obtain ⟨u',h1',h2'⟩:=hq ρ' M a w h0
 have e:u=u':=by have:=h1.symm.trans h1';simpa using this
 subst e
 exact ⟨h2',by rw [bF];exact h0.heap⟩
theorem cX {o:Oper} {d k:Nat} {want g:Bool} {x:A1} (hg:o.guard=some (k,want)) (hb:guardB F ops k want=some g) (hd:o.dst=some d) (hn:Nat.blt d C.n=true) (hq:g=true→∀ ρ M a w,Rel0 C F ρ M a w→∃ u,(execOp a.eval o).run P w=.ok (.value u) w∧x.rep ρ M u):Tri P C ops o F (F.upd [(d,.gd g x)] []):=by
 refine xW hg hb hd hn (fun hgt ρ M a w hr=>?_)
 obtain ⟨u,h1,_⟩:=hq hgt ρ M a w hr
 refine ⟨u,w,M,h1,Mem.le_refl _,fun ρ' h0=>?_⟩
 obtain ⟨u',h1',h2'⟩:=hq hgt ρ' M a w h0
 have e:u=u':=by have:=h1.symm.trans h1';simpa using this
 subst e
 exact ⟨h2',h0.heap⟩
theorem r8 {x:A1} (he:evQ P F ty op=some x) (hs:sideOk F true op.operands.toList) (hn:Nat.blt dst C.n=true) :
  TriL P C ops ⟨some dst,op,ty,pos,after,none⟩ ⟨slotsOf op.operands.toList,ldBlk F op,[dst],[]⟩ [(dst,.s x)] [] F:=by
 refine ⟨⟨rfl,rfl⟩,fun F' hS=>?_⟩
 have h1:=aG hS.1
 refine bC rfl rfl hn (fun ρ M a w hr=>vL hr (aR hr rfl (aC h1 hs)) ?_)
 exact (sV h1 hS.2).trans he
def gSlot (ops:Array Oper) (k:Nat):List Nat :=
 match (ops[k]?).bind (·.dst) with
 | some t=>[t]
 | none=>[]
theorem bS {F':FS} {k:Nat} {want:Bool} (h:∀ t∈gSlot ops k,F'.sl t=F.sl t):guardB F' ops k want=guardB F ops k want:=by
 unfold guardB
 unfold gSlot at h
 cases hk:(ops[k]?).bind (·.dst) with
 | none=>rfl
 | some t =>
  rw [hk] at h
  simp only
  rw [h t (by simp)]
theorem ai {x:A1} {k:Nat} {want g:Bool} (hb:guardB F ops k want=some g) (he:evQ P F ty op=some x) (hs:sideOk F g op.operands.toList) (hn:Nat.blt dst C.n=true) :
  TriL P C ops ⟨some dst,op,ty,pos,after,some (k,want)⟩ ⟨gSlot ops k++slotsOf op.operands.toList,ldBlk F op,[dst],[]⟩ [(dst,.gd g x)] [] F:=by
 refine ⟨⟨rfl,rfl⟩,fun F' hS=>?_⟩
 have h1:=aG (F:=F) (F':=F') (xs:=op.operands.toList) (fun t ht=>hS.1 t (by simp [ht]))
 refine cX rfl ((bS (fun t ht=>hS.1 t (by simp [ht]))).trans hb) rfl hn (fun hg ρ M a w hr=>vL hr (aR hr hg (aC h1 hs)) ?_)
 exact (sV h1 hS.2).trans he
theorem dk {x:Operand} {v:AV} (hx:opnd F x=some v) (hn:Nat.blt dst C.n=true) :
  TriL P C ops ⟨some dst,.move x,ty,pos,after,none⟩ ⟨slotsOf [x],[],[dst],[]⟩ [(dst,v)] [] F:=by
 refine ⟨⟨rfl,rfl⟩,fun F' hS=>?_⟩
 have h1:=aG hS.1
 refine Tri.val [] rfl rfl hn (fun _ h=>by cases h) (fun k hk=>by rw [bF];exact hk) (fun _ h=>by cases h) (fun ρ M a w hr=>?_)
 exact ⟨a.eval x,w,M,fun _=>undef,rfl,Mem.le_refl _,fun ρ' h0 _=>⟨aU h0 ((h1 x (by simp)).trans hx),by rw [bF];exact h0.heap⟩⟩
def gval (F:FS) (x:Operand):Option (Bool×Bool) :=
 match opnd F x with
 | some (.s (.c (.d (.v (.bool b)))))=>some (true,b)
 | some (.gd g (.c (.d (.v (.bool b)))))=>some (g,b)
 | _=>none
theorem fN {F':FS} {x:Operand} (h:opnd F' x=opnd F x):gval F' x=gval F x:=by unfold gval;rw [h]
theorem na {ρ:Env} {M:Mem} {a:Act} {w:World} (hr:Rel0 C F ρ M a w) {x:Operand} {g b:Bool} (h:gval F x=some (g,b)) (hg:g=true):a.eval x=.bool b:=by
 unfold gval at h
 split at h
 ·rename_i b' h'
  simp only [Option.some.injEq,Prod.mk.injEq] at h
  obtain ⟨_,rfl⟩:=h
  exact bz (aU hr h')
 ·rename_i g' b' h'
  simp only [Option.some.injEq,Prod.mk.injEq] at h
  obtain ⟨rfl,rfl⟩:=h
  have:=aU hr h'
  rw [hg] at this
  exact bz this
 ·cases h
theorem mu {ρ:Env} {M:Mem} {a:Act} {w:World} {o:Oper} {c x y:Operand} {gc bc gx bx gy by' r:Bool} (hr:Rel0 C F ρ M a w) (ho:o.op=.pick c x y) (hc:gval F c=some (gc,bc)) (hx:gval F x=some (gx,bx)) (hy:gval F y=some (gy,by'))
  (hgc:gc=true) (h1:bc=true→gx=true∧r=bx) (h2:bc=false→gy=true∧r=by'):∃ u,(execOp a.eval o).run P w=.ok (.value u) w∧(A1.c (.d (.v (.bool r)))).rep ρ M u:=by
 refine ⟨.bool r,?_,Rep.v _⟩
 unfold execOp;simp only [ho]
 rw [na hr hc hgc]
 cases bc with
 | true =>
  obtain ⟨h3,rfl⟩:=h1 rfl
  rw [na hr hx h3];rfl
 | false =>
  obtain ⟨h3,rfl⟩:=h2 rfl
  rw [na hr hy h3];rfl
theorem bb {c x:Operand} {bc gx bx:Bool} (hc:gval F c=some (true,bc)) (hx:gval F x=some (gx,bx)) (hs:bc=true→gx=true) (hn:Nat.blt dst C.n=true) :
  TriL P C ops ⟨some dst,.pick c x (.const (.bool false)),ty,pos,after,none⟩ ⟨slotsOf [c,x],[],[dst],[]⟩ [(dst,.s (.c (.d (.v (.bool (bc&&bx))))))] [] F:=by
 refine ⟨⟨rfl,rfl⟩,fun F' hS=>?_⟩
 have h1:=aG hS.1
 exact bC (x:=.c (.d (.v (.bool (bc&&bx))))) rfl rfl hn (fun _ _ _ _ hr=>mu hr rfl ((fN (h1 c (by simp))).trans hc) ((fN (h1 x (by simp))).trans hx) (gy:=true) (by':=false) rfl rfl (fun e=>⟨hs e,by simp [e]⟩) (fun e=>⟨rfl,by simp [e]⟩))
theorem bj {c x:Operand} {bc gx bx:Bool} (hc:gval F c=some (true,bc)) (hx:gval F x=some (gx,bx)) (hs:bc=false→gx=true) (hn:Nat.blt dst C.n=true) :
  TriL P C ops ⟨some dst,.pick c (.const (.bool true)) x,ty,pos,after,none⟩ ⟨slotsOf [c,x],[],[dst],[]⟩ [(dst,.s (.c (.d (.v (.bool (bc||bx))))))] [] F:=by
 refine ⟨⟨rfl,rfl⟩,fun F' hS=>?_⟩
 have h1:=aG hS.1
 exact bC (x:=.c (.d (.v (.bool (bc||bx))))) rfl rfl hn (fun _ _ _ _ hr=>mu hr rfl ((fN (h1 c (by simp))).trans hc) (gx:=true) (bx:=true) rfl ((fN (h1 x (by simp))).trans hx) rfl (fun e=>⟨rfl,by simp [e]⟩) (fun e=>⟨hs e,by simp [e]⟩))
theorem iu {c x:Operand} {k:Nat} {want g gc bc gx bx:Bool} (hb:guardB F ops k want=some g) (hc:gval F c=some (gc,bc)) (hx:gval F x=some (gx,bx)) (hgc:g=true→gc=true) (hs:g=true→bc=true→gx=true) (hn:Nat.blt dst C.n=true) :
  TriL P C ops ⟨some dst,.pick c x (.const (.bool false)),ty,pos,after,some (k,want)⟩ ⟨gSlot ops k++slotsOf [c,x],[],[dst],[]⟩ [(dst,.gd g (.c (.d (.v (.bool (bc&&bx))))))] [] F:=by
 refine ⟨⟨rfl,rfl⟩,fun F' hS=>?_⟩
 have h1:=aG (F:=F) (F':=F') (xs:=[c,x]) (fun t ht=>hS.1 t (by simp [ht]))
 exact cX (x:=.c (.d (.v (.bool (bc&&bx))))) rfl ((bS (fun t ht=>hS.1 t (by simp [ht]))).trans hb) rfl hn (fun hg _ _ _ _ hr=>mu hr rfl ((fN (h1 c (by simp))).trans hc) ((fN (h1 x (by simp))).trans hx) (gy:=true) (by':=false) rfl (hgc hg) (fun e=>⟨hs hg e,by simp [e]⟩) (fun e=>⟨rfl,by simp [e]⟩))
theorem lS {c x:Operand} {k:Nat} {want g gc bc gx bx:Bool} (hb:guardB F ops k want=some g) (hc:gval F c=some (gc,bc)) (hx:gval F x=some (gx,bx)) (hgc:g=true→gc=true) (hs:g=true→bc=false→gx=true) (hn:Nat.blt dst C.n=true) :
  TriL P C ops ⟨some dst,.pick c (.const (.bool true)) x,ty,pos,after,some (k,want)⟩ ⟨gSlot ops k++slotsOf [c,x],[],[dst],[]⟩ [(dst,.gd g (.c (.d (.v (.bool (bc||bx))))))] [] F:=by
 refine ⟨⟨rfl,rfl⟩,fun F' hS=>?_⟩
 have h1:=aG (F:=F) (F':=F') (xs:=[c,x]) (fun t ht=>hS.1 t (by simp [ht]))
 exact cX (x:=.c (.d (.v (.bool (bc||bx))))) rfl ((bS (fun t ht=>hS.1 t (by simp [ht]))).trans hb) rfl hn (fun hg _ _ _ _ hr=>mu hr rfl ((fN (h1 c (by simp))).trans hc) (gx:=true) (bx:=true) rfl ((fN (h1 x (by simp))).trans hx) (hgc hg) (fun e=>⟨rfl,by simp [e]⟩) (fun e=>⟨hs hg e,by simp [e]⟩))
theorem dN (w:World) (o:Obj):(w.alloc o).heap=w.heap.push o:=rfl
theorem iO {w:World} {o:Obj} {b:Nat} (h:b<w.heap.size):(w.alloc o).heap[b]? = w.heap[b]?:=by
 rw [dN,Array.getElem?_push,if_neg (by omega)]
theorem fe (w:World) (o:Obj):(w.alloc o).heap[w.heap.size]? = some o:=by rw [dN];simp
theorem InW.none {M:Mem} {w:World} (h:InW M w) {b:Nat} (hb:w.heap.size≤b):(∀ o,M.cell b o=.none)∧M.obj b=.none:=by
 constructor
 ·intro o
  cases hm:M.cell b o with
  | none=>rfl
  | some v=>have:=h.lt hm;omega
 ·cases hm:M.obj b with
  | none=>rfl
  | some v=>have:=h.ltO hm;omega
theorem RelW.alloc {bl:Nat→Option Ob} {ρ:Env} {M:Mem} {w:World} {cs:List Cell} {arr:Array Value} {t:TypeId} {j:Nat} (h:RelW C bl ρ M w) (_hj:bl j=none) (hρ:ρ j=.pointer (some ⟨w.heap.size,0,none⟩)) (hr:Reps ρ M cs arr.toList) :
  RelW C (over [(j,.blk cs t)] bl) ρ M (w.alloc (.cells arr t)):=by
 have hn:=h.mem.none (Nat.le_refl w.heap.size)
 refine h.change j (fun _=>False) (fun _ h=>h.elim) ⟨rfl,rfl,rfl,by rw [dN];simp⟩ (fun b hb _=>iO hb) (Mem.le_refl _) (fun _ _ _=>⟨fun _=>rfl,rfl⟩) (fun b hb=>?_) (fun k ob hk=>?_)
 ·rcases hb with hb | hb
  ·exact hb.elim
  ·have:=h.mem.none hb
   exact ⟨fun o v hv=>(by rw [this.1 o] at hv;cases hv),fun o ho=>(by rw [this.2] at ho;cases ho)⟩
 ·rw [bP] at hk
  split at hk
  ·rename_i e
   subst e
   cases hk
   refine .inr (.inr ⟨rfl,?_,fun b hb=>.inr ?_⟩)
   ·rw [hρ]
    exact ⟨⟨arr,fe _ _,hr⟩,hn.1⟩
   ·rw [hρ] at hb;cases hb;exact Nat.le_refl _
  ·rename_i e
   exact .inr (.inl ⟨hk,fun _ _ h=>h⟩)
theorem cJ {Wb:List (Nat×Ob)} {bl:Nat→Option Ob} {k:Nat} (h:bl k≠none):over Wb bl k≠none:=by
 unfold over;split
 ·simp
 ·exact h
theorem tM {o:Oper} {d j:Nat} {cs:List Cell} {t:TypeId} (hg:o.guard=none) (hd:o.dst=some d) (hn:Nat.blt d C.n=true) (hj:F.bl j=none)
  (hq:∀ ρ M a w,Rel0 C F ρ M a w→∃ arr,(execOp a.eval o).run P w=.ok (.value (.pointer (some ⟨w.heap.size,0,none⟩))) (w.alloc (.cells arr t))∧Reps ρ M cs arr.toList) :
  Tri P C ops o F (F.upd [(d,.s (.c (.loc j 0)))] [(j,.blk cs t)]):=by
 refine Tri.val [j] hg hd hn (fun k hk=>by simp at hk;subst hk;exact hj) (fun k hk=>cJ hk) (fun k hk=>by simp at hk;subst hk;rw [bP,if_pos rfl];simp) (fun ρ M a w hr=>?_)
 obtain ⟨arr,h1,_⟩:=hq ρ M a w hr
 refine ⟨_,_,M,fun _=>.pointer (some ⟨w.heap.size,0,none⟩),h1,Mem.le_refl _,fun ρ' h0 hnv=>?_⟩
 have hnx:=hnv j (by simp)
 obtain ⟨arr',h1',h2'⟩:=hq ρ' M a w h0
 have e:w.alloc (.cells arr t)=w.alloc (.cells arr' t):=by have:=h1.symm.trans h1';simpa using this
 rw [e]
 exact ⟨by show _=ptr ρ' j 0;simp [ptr,hnx,blockOf],h0.heap.alloc hj hnx h2'⟩
theorem aP {t:TypeId} {x:Operand} {y:A1} {j:Nat} {cs:List Cell} (hx:opnd F x=some (.s y)) (hp:lZ y=true) (hcs:y.cells=cs) (hn:Nat.blt dst C.n=true) (hj:F.bl j=none) :
  TriL P C ops ⟨some dst,.box t x,ty,pos,after,none⟩ ⟨slotsOf [x],[j],[dst],[j]⟩ [(dst,.s (.c (.loc j 0)))] [(j,.blk cs t)] F:=by
 subst hcs
 refine ⟨⟨rfl,rfl⟩,fun F' hS=>?_⟩
 have h1:=aG hS.1
 refine tM (cs:=y.cells) (t:=t) rfl rfl hn ((hS.2 j (by simp)).trans hj) (fun ρ M a w hr=>?_)
 have hrep:y.rep ρ M (a.eval x):=aU hr ((h1 x (by simp)).trans hx)
 refine ⟨(a.eval x).cells,?_,A1.cells_rep hp hrep⟩
 unfold execOp
 simp only [Instr.box,newVar,newRow]
 rfl
theorem aw {t:TypeId} {l:List Value} {j:Nat} {cs:List Cell} (hz:zeroCells P t=some l) (hcs:l.map zcell=cs) (hn:Nat.blt dst C.n=true) (hj:F.bl j=none) :
  TriL P C ops ⟨some dst,.alloc t,ty,pos,after,none⟩ ⟨[],[j],[dst],[j]⟩ [(dst,.s (.c (.loc j 0)))] [(j,.blk cs t)] F:=by
 subst hcs
 refine ⟨⟨rfl,rfl⟩,fun F' hS=>?_⟩
 refine tM (cs:=l.map zcell) (t:=t) rfl rfl hn ((hS.2 j (by simp)).trans hj) (fun ρ M a w hr=>?_)
 obtain ⟨v,hv,hc⟩:=eH hz w
 refine ⟨l.toArray,?_,Reps.zero l⟩
 unfold execOp
 simp only [Instr.alloc]
 refine aA ?_
 rw [ag hv]
 simp only [newVar,newRow,hc]
 rfl
theorem nI {x:Cell} {r:List Cell} (h:allSingle (x :: r)=true):x.single=true∧allSingle r=true:=by
 simp only [allSingle] at h
 split at h
 ·rename_i hx;exact ⟨hx,h⟩
 ·cases h
theorem uF {w:World} {b off:Nat} {arr:Array Value} {ty:TypeId} {v u:Value} (h:w.heap[b]? = some (.cells arr ty (0,0))) (hv:arr[off]? = some u) (hs:notMany v=true) :
  (store ⟨b,off,none⟩ v).run P w=.ok () (w.setCell ⟨b,off,none⟩ v):=by
 have hc:w.cell? ⟨b,off,none⟩=some u:=by simp [World.cell?,h,hv]
 have hf:w.frozen? ⟨b,off,none⟩=false:=by simp [World.frozen?,h]
 cases v <;> first | (simp [store,Sem.run,hc,hf];done) | cases hs
theorem pW {w:World} {b off:Nat} {arr:Array Value} {ty:TypeId} {fr:Nat×Nat} {v:Value} (h:w.heap[b]? = some (.cells arr ty fr)):(w.setCell ⟨b,off,none⟩ v).heap[b]? = some (.cells (arr.setIfInBounds off v) ty fr)∧(∀ k,k≠b→(w.setCell ⟨b,off,none⟩ v).heap[k]? = w.heap[k]?)∧(w.setCell ⟨b,off,none⟩ v).heap.size=w.heap.size:=by
 refine ⟨?_,fun k hk=>?_,by simp [World.setCell]⟩
 ·simp only [World.setCell,Array.getElem?_modify,if_pos,h,Option.map_some]
  simp
 ·simp only [World.setCell,Array.getElem?_modify];rw [if_neg (by omega)]
theorem ca {b off:Nat} {ty:TypeId}:∀ (us:List Value) (i:Nat) (w:World) (arr:Array Value),w.heap[b]? = some (.cells arr ty (0,0))→(∀ u∈us,notMany u=true)→off+i+us.length≤arr.size →
  ∃ w',(storeCells ⟨b,off,none⟩ us i).run P w=.ok () w'∧w'.heap[b]? = some (.cells (setV arr.toList (off+i) us).toArray ty (0,0))∧(∀ k,k≠b→w'.heap[k]? = w.heap[k]?)∧w'.heap.size=w.heap.size∧w'.os=w.os∧w'.tape=w.tape∧w'.output=w.output
 | [],i,w,arr,h,_,_=>⟨w,rfl,by simpa [setV] using h,fun _ _=>rfl,rfl,rfl,rfl,rfl⟩
 | u :: r,i,w,arr,h,hs,hl=>by
  simp only [List.length_cons] at hl
  have hlt:off+i<arr.size:=by omega
  have hst:(store ((Addr.mk b off none).add i) u).run P w=.ok () (w.setCell ⟨b,off+i,none⟩ u):=by
   rw [d9]
   exact uF h (u:=arr[off+i]) (by simp [hlt]) (hs u (by simp))
  obtain ⟨g1,g2,g3⟩:=pW (off:=off+i) (v:=u) h
  obtain ⟨w',q1,q2,q3,q4,q5,q6,q7⟩:=ca (off:=off) r (i+1) (w.setCell ⟨b,off+i,none⟩ u) (arr.setIfInBounds (off+i) u) g1 (fun x hx=>hs x (by simp [hx])) (by rw [Array.size_setIfInBounds];omega)
  refine ⟨w',?_,?_,fun k hk=>(q3 k hk).trans (g2 k hk),q4.trans g3,q5,q6,q7⟩
  ·simp only [storeCells]
   rw [ag hst]
   exact q1
  ·rw [q2]
   simp only [setV,Array.toList_setIfInBounds]
   rfl
theorem al {t:TypeId} {x y:Operand} {j off:Nat} {cs cs':List Cell} {u:TypeId} {v:A1} {n:Nat} {b:Bool}
  (hx:opnd F x=some (.s (.c (.loc j off)))) (hj:F.bl j=some (.blk cs u)) (hy:opnd F y=some (.s v)) (hp:lZ v=true) (hs:allSingle v.cells=true) (ht:tinfo P t=some (n,b)) (hl:Nat.beq v.cells.length n=true)
  (hle:Nat.ble (off+n) cs.length=true) (hc:setCells cs off v.cells=cs') :
  TriL P C ops ⟨none,.store t x y,ty,pos,after,none⟩ ⟨slotsOf [x,y],[j],[],[j]⟩ [] [(j,.blk cs' u)] F:=by
 refine ⟨⟨rfl,rfl⟩,fun F' hS=>?_⟩
 have h1:=aG hS.1
 have hj':F'.bl j=some (.blk cs u):=(hS.2 j (by simp)).trans hj
 have hx':=(h1 x (by simp)).trans hx
 have hy':=(h1 y (by simp)).trans hy
 refine kE rfl rfl (fun k hk=>cJ hk) (fun ρ M a w hr=>?_)
 have hl':v.cells.length=n:=Nat.eq_of_beq_eq_true hl
 have ex:a.eval x=ptr ρ j off:=aU hr hx'
 have ey:v.rep ρ M (a.eval y):=aU hr hy'
 obtain ⟨⟨arr,g1,g2⟩,g3⟩:=hr.heap.inv _ _ hj'
 have hcr:=A1.cells_rep hp ey
 have hnm:∀ u∈(a.eval y).cells.toList,notMany u=true:=by
  have:∀ (cs:List Cell) (vs:List Value),allSingle cs=true→Reps ρ M cs vs→∀ u∈vs,notMany u=true:=by
   intro cs
   induction cs with
   | nil=>intro vs _ hr u hu;cases vs with
    | nil=>cases hu
    | cons _ _=>exact hr.elim
   | cons c r ih =>
    intro vs ha hr u hu
    cases vs with
    | nil=>exact hr.elim
    | cons v' vs =>
     obtain ⟨a1,a2⟩:=nI ha
     cases hu with
     | head=>exact lA a1 hr.1
     | tail _ hm=>exact ih vs a2 hr.2 u hm
  exact this _ _ hs hcr
 have hlen:=hcr.len
 have hcl:=g2.len
 have hle':=Nat.le_of_ble_eq_true hle
 obtain ⟨w',q1,q2,q3,q4,q5,q6,q7⟩:=ca (P:=P) (off:=off) (a.eval y).cells.toList 0 w arr g1 hnm (by have e:arr.size=cs.length:=(by simpa using hcl);rw [hlen,hl'];omega)
 refine ⟨w',M,?_,Mem.le_refl _,fun ρ' h0=>?_⟩
 ·unfold execOp
  simp only [ex,ptr]
  have hsv:(storeVar t ⟨blockOf (ρ j),off,none⟩ (a.eval y)).run P w=.ok () w':=by
   unfold storeVar
   rw [ag (fh ht w)]
   rw [if_neg (by simp at hlen;simp [hlen,hl'])]
   exact q1
  show (do storeVar t ⟨blockOf (ρ j),off,none⟩ (a.eval y);pure Next.skip:Sem Next).run P w=_
  rw [ag hsv]
  rfl
 ·have ex':a.eval x=ptr ρ' j off:=aU h0 hx'
  have eb:blockOf (ρ' j)=blockOf (ρ j):=by have:=ex'.symm.trans ex;simpa [ptr] using this
  obtain ⟨⟨arr',g1',g2'⟩,g3'⟩:=h0.heap.inv _ _ hj'
  rw [eb] at g1' g3'
  have ea:arr'=arr:=by have:=g1'.symm.trans g1;simpa using this
  subst ea
  have ey':v.rep ρ' M (a.eval y):=aU h0 hy'
  refine h0.heap.change j (fun b=>b=blockOf (ρ j)) ?_ ⟨q5,q6,q7,Nat.le_of_eq q4.symm⟩ (fun b _ hb=>q3 b hb) (Mem.le_refl _) (fun _ _ _=>⟨fun _=>rfl,rfl⟩) ?_ ?_ (fun b hb=>h0.heap.noJunk hj' (by rw [hb,← eb];rfl))
  ·rintro b rfl _
   rw [← eb]
   exact h0.heap.priv j _ _ hj' rfl
  ·rintro b (rfl | hb)
   ·exact ⟨fun o v' hv'=>(by rw [g3' o] at hv';cases hv'),fun o ho=>(by rw [h0.heap.mem.noObj g1'] at ho;cases ho)⟩
   ·have:=h0.heap.mem.none hb
    exact ⟨fun o v' hv'=>(by rw [this.1 o] at hv';cases hv'),fun o ho=>(by rw [this.2] at ho;cases ho)⟩
  ·intro k ob hk
   rw [bP] at hk
   split at hk
   ·rename_i e
    subst e
    cases hk
    refine .inr (.inr ⟨rfl,⟨⟨_,by rw [eb];exact q2,?_⟩,by rw [eb];exact g3'⟩,fun b hb=>.inl (by cases hb;exact eb)⟩)
    rw [← hc]
    simpa using Reps.setMany off (A1.cells_rep hp ey') g2'
   ·rename_i e
    refine .inr (.inl ⟨hk,fun b hb hbe=>?_⟩)
    subst hbe
    exact e ((h0.heap.dist k j _ _ _ hk hj' hb (by show some _=some _;rw [eb])).symm)
end ops
end Go.E2
end
section
namespace Go.E2
variable {P:Program} {C:Ctx} {F:FS} {ops:Array Oper} {dst:Nat} {op:Op} {ty:TypeId} {pos:String} {after:Array Edge}
def rdS (F:FS) (x:Operand):Option (List (List D)):=match rd F x with
 | some y=>slOf y
 | none=>none
theorem fA {F':FS} {x:Operand} (h:opnd F' x=opnd F x):rdS F' x=rdS F x:=by unfold rdS;rw [dm h]
theorem gF {ρ:Env} {M:Mem} {a:Act} {xs:List Operand} (h:Reads F a ρ M xs) {x:Operand} (hx:x∈xs) {l:List (List D)} (hl:rdS F x=some l):Rep M (.sl l) (a.eval x):=by
 unfold rdS at hl
 split at hl
 ·rename_i y hy;exact sh hl (h x hx y hy)
 ·cases hl
def allR (sz:Nat) {α:Type} (enc:α→List D):Prop:=∀ x,(enc x).length=sz
theorem aO {sz:Nat} {α:Type} {enc:α→List D} (h:allR sz enc) (L:List α):Rows sz (L.map enc):=fun row hr=>by
 obtain ⟨x,_,rfl⟩:=List.mem_map.1 hr;exact h x
theorem Rows.eq {sz sz':Nat} {l:List (List D)} (h:Rows sz l) (h':Rows sz' l) (hne:l≠[]):sz=sz':=by
 cases l with
 | nil=>exact absurd rfl hne
 | cons x r=>rw [← h x (by simp),← h' x (by simp)]
theorem vA {α:Type} {enc:α→List D} {L:List α} {M:Mem} {w:World} {v:Value} (hv:Rep M (.sl (L.map enc)) v) {t e sz:Nat} (ht:slInfo P t=some (e,sz)) (hsz:allR sz enc) {k:IntKind} {i:Int} {x:α} (hi:idxO L i=some x) :
  ∃ u,(Instr.indexAt t v (.int k i)).run P w=.ok u w∧PtRep M (enc x) u:=by
 obtain ⟨h0,h1,h2⟩:=qw hi
 have hne:L.map enc≠[]:=by
  intro e0
  have:L=[]:=by simpa using e0
  subst this
  simp at h2
 obtain ⟨b,off,cap,sz',vs,rfl,hc,hrow,hrep,hm⟩:=hv.flat hne
 have e1:sz'=sz:=hrow.eq (aO hsz L) hne
 subst e1
 refine ⟨.pointer (some ⟨b,off+i.toNat*sz',none⟩),?_,b,off+i.toNat*sz',rfl,fun j d hj=>?_⟩
 ·have hl:(0:Int)≤i∧i<((L.map enc).length:Int):=⟨h0,by simpa using h1⟩
  unfold Instr.indexAt
  have hk:(asIntOf (.int k i)).run P w=.ok (k,i) w:=rfl
  rw [ag hk]
  simp only
  have hu:=bt ht w
  rw [ag hu]
  simp only [pure_bind]
  rw [ag hu]
  simp only [hl,and_self,if_true]
  rw [ag (bM ht w)]
  rw [d9]
  rfl
 ·have hx:(L.map enc)[i.toNat]? = some (enc x):=by simp [h2]
  have hjl:j<sz':=by rw [← hsz x];exact (List.getElem?_eq_some_iff.1 hj).1
  have hfl:=fq hrow i.toNat j (enc x) hx hjl
  obtain ⟨u,g1,g2⟩:=hrep.get _ d (by rw [hfl];exact hj)
  exact ⟨u,by rw [Nat.add_assoc];exact hm _ _ g1,g2⟩
theorem aM {α:Type} {enc:α→List D} {L:List α} {t e sz:Nat} {x i:Operand} {k:IntKind} {n:Int} {y:α} {row:List D} (hi:idxO L n=some y) (hrow:enc y=row) (hx:rdS F x=some (L.map enc)) (hn:rdV F i=some (.int k n)) (ht:slInfo P t=some (e,sz)) (hsz:allR sz enc) (hs:sideOk F true [x,i]) (hd:Nat.blt dst C.n=true) :
  TriL P C ops ⟨some dst,.indexAddr t x i,ty,pos,after,none⟩ ⟨slotsOf [x,i],[],[dst],[]⟩ [(dst,.s (.c (.pt row)))] [] F:=by
 subst hrow
 refine ⟨⟨rfl,rfl⟩,fun F' hS=>?_⟩
 have h1:=aG hS.1
 refine bC (x:=.c (.pt (enc y))) rfl rfl hd (fun ρ M a w hr=>?_)
 have hR:=aR hr rfl (aC h1 hs)
 obtain ⟨u,g1,g2⟩:=vA (P:=P) (w:=w) (gF hR (by simp) ((fA (h1 x (by simp))).trans hx)) ht hsz (k:=k) hi
 refine ⟨u,?_,g2⟩
 unfold execOp
 simp only
 rw [a7 hR (by simp) ((ba (h1 i (by simp))).trans hn)]
 exact aA g1
theorem eR {α:Type} {enc:α→List D} {L:List α} {t e sz:Nat} {x i:Operand} {k:IntKind} {n:Int} {y:α} {row:List D} {gk:Nat} {want g:Bool} (hi:g=true→idxO L n=some y) (hrow:enc y=row) (hb:guardB F ops gk want=some g) (hx:rdS F x=some (L.map enc)) (hn:rdV F i=some (.int k n)) (ht:slInfo P t=some (e,sz)) (hsz:allR sz enc) (hs:sideOk F g [x,i]) (hd:Nat.blt dst C.n=true) :
  TriL P C ops ⟨some dst,.indexAddr t x i,ty,pos,after,some (gk,want)⟩ ⟨gSlot ops gk++slotsOf [x,i],[],[dst],[]⟩ [(dst,.gd g (.c (.pt row)))] [] F:=by
 subst hrow
 refine ⟨⟨rfl,rfl⟩,fun F' hS=>?_⟩
 have h1:=aG (F:=F) (F':=F') (xs:=[x,i]) (fun t ht=>hS.1 t (by simp [ht]))
 refine cX (x:=.c (.pt (enc y))) rfl ((bS (fun t ht=>hS.1 t (by simp [ht]))).trans hb) rfl hd (fun hg ρ M a w hr=>?_)
 have hR:=aR hr hg (aC h1 hs)
 obtain ⟨u,g1,g2⟩:=vA (P:=P) (w:=w) (gF hR (by simp) ((fA (h1 x (by simp))).trans hx)) ht hsz (k:=k) (hi hg)
 refine ⟨u,?_,g2⟩
 unfold execOp
 simp only
 rw [a7 hR (by simp) ((ba (h1 i (by simp))).trans hn)]
 exact aA g1
theorem bJ {k:IntKind} {i:Int} {y:Nat} {code:BoundsCode} (h0:0≤i) (h1:i≤y) (w:World):(Instr.sliceBound (.int k i) y code).run P w=.ok i.toNat w:=by
 unfold Instr.sliceBound
 have hk:(asIntOf (.int k i)).run P w=.ok (k,i) w:=rfl
 rw [ag hk]
 simp only [h0,h1,and_self,if_true]
 rfl
def Bnd (o:Option Value) (dflt n:Int):Prop:=(o=none∧n=dflt)∨∃ k,o=some (.int k n)
theorem uJ {α:Type} {enc:α→List D} {L R:List α} {M:Mem} {w:World} {v:Value} (hv:Rep M (.sl (L.map enc)) v) {t e sz:Nat} (ht:slInfo P t=some (e,sz)) (hsz:allR sz enc) {lo hi:Int} (hs:slcO L lo hi=some R) {ol oh:Option Value} (hl:Bnd ol 0 lo) (hh:Bnd oh L.length hi) :
  ∃ u,(Instr.sliceAt t v ol oh none).run P w=.ok u w∧Rep M (.sl (R.map enc)) u:=by
 obtain ⟨h0,h1,h2,rfl⟩:=pO hs
 obtain ⟨a,cap,rfl⟩:=hv.sl_cases
 have hcap:L.length≤cap:=by
  cases hL:L with
  | nil=>simp
  | cons x r =>
   obtain ⟨_,_,_,_,_,e1,hc,_⟩:=hv.flat (by simp [hL])
   simp only [Value.slice.injEq] at e1
   rw [← hL]
   have:=e1.2.2
   simp at hc;omega
 have hb:(Instr.sliceBounds true (L.map enc).length cap ol oh none).run P w=.ok (lo.toNat,hi.toNat,cap) w:=by
  unfold Instr.sliceBounds
  simp only [pure_bind]
  have hlen:(L.map enc).length=L.length:=List.length_map ..
  rcases hh with ⟨rfl,rfl⟩ | ⟨k,rfl⟩
  ·rcases hl with ⟨rfl,rfl⟩ | ⟨k',rfl⟩
   ·simp only [hlen,Int.toNat_natCast,Int.toNat_zero];rfl
   ·simp only
    rw [ag (bJ h0 (by rw [hlen];omega) w)]
    simp only [hlen,Int.toNat_natCast];rfl
  ·simp only
   rw [ag (bJ (by omega) (by omega) w)]
   rcases hl with ⟨rfl,rfl⟩ | ⟨k',rfl⟩
   ·rfl
   ·simp only
    rw [ag (bJ h0 (by omega) w)]
    rfl
 have hu:=bt ht w
 refine ⟨.slice (if cap=lo.toNat then a else a.map (·.add (lo.toNat*sz))) (hi.toNat - lo.toNat) (cap - lo.toNat),?_,?_⟩
 ·unfold Instr.sliceAt
  rw [ag hu]
  simp only
  unfold Instr.slice
  rw [ag hu]
  simp only
  rw [ag hb]
  simp only
  rw [ag (bM ht w)]
  rfl
 ·have hlen:((L.take hi.toNat).drop lo.toNat).length=hi.toNat - lo.toNat:=by simp;omega
  by_cases hemp:hi.toNat - lo.toNat=0
  ·have:(L.take hi.toNat).drop lo.toNat=[]:=by apply List.eq_nil_of_length_eq_zero;omega
   rw [this,hemp]
   exact Rep.nil
  ·have hne:L.map enc≠[]:=by
    intro e0
    have:L=[]:=by simpa using e0
    subst this
    simp at h2;omega
   obtain ⟨b,off,cap',sz',vs,e1,hc,hrow,hrep,hm⟩:=hv.flat hne
   have e2:sz'=sz:=hrow.eq (aO hsz L) hne
   subst e2
   simp only [Value.slice.injEq] at e1
   obtain ⟨rfl,_,rfl⟩:=e1
   rw [if_neg (by omega)]
   simp only [Option.map_some,d9]
   have e3:hi.toNat - lo.toNat=(((L.take hi.toNat).drop lo.toNat).map enc).length:=by rw [List.length_map,hlen]
   rw [e3]
   refine dO (sz:=sz') (vs:=(vs.take (hi.toNat*sz')).drop (lo.toNat*sz')) (by rw [← e3];omega) (aO hsz _) ?_ (fun k u hk=>?_)
   ·rw [List.map_drop,List.map_take,l9 (sz:=sz') _ (fun row hr=>hrow row (List.mem_of_mem_take hr)),fO (sz:=sz') _ hrow]
    exact (hrep.take _).drop _
   ·rw [List.getElem?_drop,List.getElem?_take] at hk
    split at hk
    ·rw [Nat.add_assoc];exact hm _ _ hk
    ·cases hk
def rdO (F:FS):Option Operand→Option (Option Value)
 | none=>some none
 | some x=>match rdV F x with
  | some v=>some (some v)
  | none=>none
theorem jL {ρ:Env} {M:Mem} {a:Act} {xs:List Operand} (h:Reads F a ρ M xs) {o:Option Operand} (ho:∀ x,o=some x→x∈xs) {v:Option Value} (hv:rdO F o=some v):o.map a.eval=v:=by
 cases o with
 | none=>simp [rdO] at hv;simp [hv]
 | some x =>
  simp only [rdO] at hv
  split at hv
  ·rename_i u hu;cases hv;simp [a7 h (ho x rfl) hu]
  ·cases hv
theorem jK {F':FS} {o:Option Operand} (h:∀ x,o=some x→opnd F' x=opnd F x):rdO F' o=rdO F o:=by
 cases o with
 | none=>rfl
 | some x=>simp only [rdO,ba (h x rfl)]
theorem lR {α:Type} {enc:α→List D} {L R:List α} {t e sz:Nat} {x:Operand} {lo hi:Int} {l h:Option Operand} {vl vh:Option Value} (hr:slcO L lo hi=some R) (hx:rdS F x=some (L.map enc)) (hl:rdO F l=some vl) (hh:rdO F h=some vh) (bl:Bnd vl 0 lo) (bh:Bnd vh L.length hi) (ht:slInfo P t=some (e,sz)) (hsz:allR sz enc)
  (hs:sideOk F true ([x]++l.toList++h.toList)) (hd:Nat.blt dst C.n=true) :
  TriL P C ops ⟨some dst,.slice t x l h none,ty,pos,after,none⟩ ⟨slotsOf ([x]++l.toList++h.toList),[],[dst],[]⟩ [(dst,.s (.c (.d (.sl (R.map enc)))))] [] F:=by
 refine ⟨⟨rfl,rfl⟩,fun F' hS=>?_⟩
 have h1:=aG hS.1
 refine bC (x:=.c (.d (.sl (R.map enc)))) rfl rfl hd (fun ρ M a w hr'=>?_)
 have hR:=aR hr' rfl (aC h1 hs)
 obtain ⟨u,g1,g2⟩:=uJ (P:=P) (w:=w) (gF hR (by simp) ((fA (h1 x (by simp))).trans hx)) ht hsz hr bl bh
 refine ⟨u,?_,g2⟩
 unfold execOp
 simp only
 rw [jL hR (fun y hy=>by simp [hy]) ((jK (fun y hy=>h1 y (by simp [hy]))).trans hl),jL hR (fun y hy=>by simp [hy]) ((jK (fun y hy=>h1 y (by simp [hy]))).trans hh)]
 exact aA g1
def cellD:Cell→Option D
 | .d (.v (.slice none 0 0))=>some (.sl [])
 | .d x=>some x
 | .tl _ l=>some (.sl l)
 | _=>none
def rowD:List Cell→Option (List D)
 | []=>some []
 | x :: r=>match cellD x with
  | some d=>match rowD r with
   | some l=>some (d :: l)
   | none=>none
  | none=>none
theorem ww {c:Cell} {d:D} (h:cellD c=some d) {ρ:Env} {M:Mem} {v:Value} (hr:c.rep ρ M v):Rep M d v:=by
 unfold cellD at h
 split at h
 ·cases h;rw [bz hr];exact Rep.nil
 ·cases h;exact hr
 ·cases h;exact hr.2
 ·cases h
theorem iW {ρ:Env} {M:Mem}:∀ {cs:List Cell} {ds:List D} {vs:List Value},rowD cs=some ds→Reps ρ M cs vs→RepsD M ds vs
 | [],ds,[],h,_=>by simp [rowD] at h;subst h;trivial
 | [],_,_ :: _,_,hr=>hr.elim
 | _ :: _,_,[],_,hr=>hr.elim
 | c :: cs,ds,v :: vs,h,hr=>by
  simp only [rowD] at h
  split at h
  ·rename_i d hd
   split at h
   ·rename_i l hl
    cases h
    exact ⟨ww hd hr.1,iW hl hr.2⟩
   ·cases h
  ·cases h
def zlist (z:List Value) (n:Nat):List Value:=(List.range n).map fun i=>z.toArray[i % z.toArray.size]!
theorem ka {ρ:Env} {M:Mem} {t e sz len:Nat} {is:List Nat} {ps:List A1} {us:List Value} {z:List Value} {cs:List Cell} (ht:slInfo P t=some (e,sz)) (hz:zeroCells P e=some z) (h24:Nat.ble (len*sz) 16777216=true)
  (hf:fillA (fun i=>some (i*sz,sz)) ((zlist z (len*sz)).map zcell) is ps=some cs) (hp:A1.reps ρ M ps us) (w:World) :
  ∃ vs,(Instr.buildSlice t len (is.zip us).toArray).run P w=.ok (.slice (some ⟨w.heap.size,0,none⟩) len len) (w.alloc (.cells vs.toArray e))∧Reps ρ M cs vs:=by
 obtain ⟨vs,hfill,hr⟩:=ne (ρ:=ρ) (M:=M) is ps us _ cs (zlist z (len*sz)) hf hp (Reps.zero _)
 refine ⟨vs,?_,hr⟩
 unfold Instr.buildSlice
 rw [ag (bt ht w)]
 simp only
 rw [ag (bM ht w)]
 have h24':=Nat.le_of_ble_eq_true h24
 rw [if_neg (by simpa using h24')]
 obtain ⟨zv,hzv,hzc⟩:=eH hz w
 simp only [pure_bind]
 by_cases hpos:len*sz=0
 ·rw [if_pos hpos]
  have e0:(Array.range (len*sz)).map (fun x=>(#[]:Array Value)[x % (#[]:Array Value).size]!)=(zlist z (len*sz)).toArray:=by
   rw [hpos];simp [zlist]
  simp only [e0,hfill]
  rfl
 rw [if_neg hpos,ag hzv,hzc]
 have e1:(Array.range (len*sz)).map (fun x=>z.toArray[x % z.toArray.size]!)=(zlist z (len*sz)).toArray:=by
  apply Array.ext'
  simp [zlist,Array.toList_range]
 simp only [e1,hfill]
 rfl
theorem RelW.allocM {bl:Nat→Option Ob} {ρ:Env} {M:Mem} {w:World} {vs:List Value} {t:TypeId} (h:RelW C bl ρ M w) (n:Nat) (_hn:n≤vs.length):RelW C bl ρ (M.put w.heap.size 0 (vs.take n)) (w.alloc (.cells vs.toArray t)):=by
 have hno:=h.mem.none (Nat.le_refl w.heap.size)
 have hle:M.le (M.put w.heap.size 0 (vs.take n)):=dP (fun o _=>hno.1 o)
 refine h.change 0 (fun _=>False) (fun _ h=>h.elim) ⟨rfl,rfl,rfl,by rw [dN];simp⟩ (fun b hb _=>iO hb) hle (fun b hb _=>⟨fun o=>cP (by omega),rfl⟩) (fun b hb=>?_) (fun k ob hk=>?_)
 ·rcases hb with hb | hb
  ·exact hb.elim
  ·have hb':=h.mem.none hb
   refine ⟨fun o v hv=>?_,fun o ho=>(by rw [show (M.put w.heap.size 0 (vs.take n)).obj b=M.obj b from rfl,hb'.2] at ho;cases ho)⟩
   by_cases e:b=w.heap.size
   ·subst e
    rcases gT hv with ⟨_,h2⟩ | h2
    ·rw [Nat.sub_zero,List.getElem?_take] at h2
     split at h2
     ·simp only [World.cell?,fe];simpa using h2
     ·cases h2
    ·rw [hb'.1 o] at h2;cases h2
   ·rw [cP e,hb'.1 o] at hv;cases hv
 ·exact .inr (.inl ⟨hk,fun _ _ h=>h⟩)
theorem ul {j:Nat} {α:Type} {enc:α→List D} {X:List α} {t e sz len:Nat} {parts:Array (Nat×Operand)} {ps:List A1} {z:List Value} {cs:List Cell} (hps:rds F (parts.toList.map (·.2))=some ps) (ht:slInfo P t=some (e,sz)) (hz:zeroCells P e=some z) (h24:Nat.ble (len*sz) 16777216=true)
  (hf:fillA (fun i=>some (i*sz,sz)) ((zlist z (len*sz)).map zcell) (parts.toList.map (·.1)) ps=some cs) {rows:List (List D)} (hrows:X.map enc=rows) (hD:rowD cs=some rows.flatten) (hX:X.length=len) (hsz:allR sz enc) :
  ∀ ρ M a w,Rel0 C F ρ M a w→Reads F a ρ M (parts.toList.map (·.2))→∃ u w' M',(do let y ← Instr.buildSlice t len (parts.map fun (x:Nat×Operand)=>(x.fst,a.eval x.snd));pure (Next.value y):Sem Next).run P w=.ok (.value u) w'∧M.le M'∧Rep M' (.sl (X.map enc)) u∧∀ ρ',RelW C F.bl ρ' M w→RelW C F.bl ρ' M' w'∧(ρ' j=u→RelW C (over [(j,.tail sz)] F.bl) ρ' M' w'):=by
 subst hrows
 intro ρ M a w hr hR
 obtain ⟨vs,h1,h2⟩:=ka (P:=P) ht hz h24 hf (iw hR hps) w
 have hno:=hr.heap.mem.none (Nat.le_refl w.heap.size)
 have hle:M.le (M.put w.heap.size 0 (vs.take vs.length)):=dP (fun o _=>hno.1 o)
 refine ⟨.slice (some ⟨w.heap.size,0,none⟩) len len,w.alloc (.cells vs.toArray e),M.put w.heap.size 0 (vs.take vs.length),?_,hle,?_,fun ρ' hr'=>?_⟩
 ·rw [kG];exact aA h1
 ·have hl:(X.map enc).length=len:=by rw [List.length_map,hX]
  rw [← hl]
  refine dO (sz:=sz) (vs:=vs) (Nat.le_refl _) (aO hsz X) ((iW hD h2).mono hle) (fun k u hk=>?_)
  rw [Nat.zero_add]
  have:=fv (M:=M) (b:=w.heap.size) (off:=0) (k:=k) (vs:=vs.take vs.length) (u:=u) (by rw [List.take_length];exact hk)
  rwa [Nat.zero_add] at this
 ·have hrw:=hr'.allocM (t:=e) vs.length (Nat.le_refl vs.length)
  refine ⟨hrw,fun hρ=>?_⟩
  refine hrw.change j (fun _=>False) (fun _ h=>h.elim) ⟨rfl,rfl,rfl,Nat.le_refl _⟩ (fun _ _ _=>rfl) (Mem.le_refl _) (fun _ _ _=>⟨fun _=>rfl,rfl⟩) (fun b hb=>?_) (fun k ob hk=>?_)
  ·exact ⟨fun o v hv=>hrw.mem.cell b o v hv,fun o ho=>hrw.mem.obj b o ho⟩
  ·rw [bP] at hk
   split at hk
   ·rename_i e1
    subst e1
    cases hk
    refine .inr (.inr ⟨rfl,⟨_,_,_,hρ,Nat.le_refl _,fun h=>absurd h (Nat.lt_irrefl _)⟩,fun b hb=>?_⟩)
    rw [hρ] at hb
    simp [Ob.blkOf] at hb
   ·exact .inr (.inl ⟨hk,fun _ _ h=>h⟩)
theorem cp {α:Type} {enc:α→List D} (X:List α) {j:Nat} {t e sz len:Nat} {parts:Array (Nat×Operand)} {ps:List A1} {z:List Value} {cs:List Cell} (hps:rds F (parts.toList.map (·.2))=some ps) (ht:slInfo P t=some (e,sz)) (hz:zeroCells P e=some z) (h24:Nat.ble (len*sz) 16777216=true)
  (hf:fillA (fun i=>some (i*sz,sz)) ((zlist z (len*sz)).map zcell) (parts.toList.map (·.1)) ps=some cs) {rows:List (List D)} (hrows:X.map enc=rows) (hD:rowD cs=some rows.flatten) (hX:X.length=len) (hsz:allR sz enc) (hs:sideOk F true (parts.toList.map (·.2))) (hd:Nat.blt dst C.n=true) (hj:F.bl j=none) :
  TriL P C ops ⟨some dst,.buildSlice t len parts,ty,pos,after,none⟩ ⟨slotsOf (parts.toList.map (·.2)),[j],[dst],[j]⟩ [(dst,.s (.c (.tl j (X.map enc))))] [(j,.tail sz)] F:=by
 refine ⟨⟨rfl,rfl⟩,fun F' hS=>?_⟩
 have h1:=aG hS.1
 have hps':=(fy h1).trans hps
 have hs':=aC h1 hs
 refine Tri.val [j] rfl rfl hd (fun k hk=>by simp at hk;subst hk;exact (hS.2 k (by simp)).trans hj) (fun k hk=>cJ hk) (fun k hk=>by simp at hk;subst hk;rw [bP,if_pos rfl];simp) (fun ρ M a w hr=>?_)
 obtain ⟨u,w',M',g1,g2,g3,g4⟩:=ul (C:=C) (j:=j) hps' ht hz h24 hf hrows hD hX hsz ρ M a w hr (aR hr rfl hs')
 exact ⟨u,w',M',fun _=>u,g1,g2,fun ρ' h0 hnv=>⟨⟨(hnv j (by simp)).symm,g3⟩,(g4 ρ' h0.heap).2 (hnv j (by simp))⟩⟩
theorem qy (n:Nat):∀ (r c:Nat),c≤n+(n+768) / 4→Builtin.growBy n r c≤n+(n+768) / 4
 | 0,c,h=>h
 | r+1,c,h=>by
  unfold Builtin.growBy
  split
  ·exact h
  ·exact qy n r _ (by omega)
theorem lF {n c:Nat} (h:c<n):Builtin.nextslicecap n c≤2*n+192:=by
 unfold Builtin.nextslicecap
 split
 ·omega
 ·split
  ·omega
  ·have:=qy n 4 c (by omega);omega
theorem cn {M:Mem} {w:World} {l:List (List D)} {v:Value} {sz:Nat} (hv:Rep M (.sl l) v) (hr:Rows sz l) (hm:InW M w):∃ vs,(Builtin.firstCells sz l.length v).run P w=.ok vs.toArray w∧RepsD M l.flatten vs:=by
 by_cases hne:l=[]
 ·subst hne
  obtain ⟨a,cap,rfl⟩:=hv.sl_cases
  refine ⟨[],?_,trivial⟩
  cases a with
  | none=>rfl
  | some a =>
   show (loadCells a (0*sz)).run P w=_
   rw [Nat.zero_mul];rfl
 ·obtain ⟨b,off,cap,sz',vs,rfl,hc,hrow,hrep,hm'⟩:=hv.flat hne
  have e:=hrow.eq hr hne
  subst e
  refine ⟨vs,?_,hrep⟩
  show (loadCells ⟨b,off,none⟩ (l.length*sz')).run P w=_
  have hl:vs.length=l.length*sz':=by rw [hrep.len,a6 hr]
  rw [← hl]
  exact dK vs (fun j v hj=>hm.cell _ _ _ (hm' j v hj))
def bytesOk (P:Program) (e:TypeId):Bool:=match P.info? e with
 | some i=>match i.zero with
  | some v=>match Nat.beq v.cells.size i.size with
   | true=>Nat.ble i.bytes 65536
   | false=>false
  | none=>false
 | none=>false
theorem fx:∀ (us vs:List Value) (off k:Nat),off+us.length≤vs.length→(setV vs off us)[k]? = if off≤k∧k<off+us.length then us[k - off]? else vs[k]?
 | [],vs,off,k,_=>by
  simp only [setV,List.length_nil,Nat.add_zero]
  rw [if_neg (by omega)]
 | u :: r,vs,off,k,h=>by
  simp only [List.length_cons] at h
  simp only [setV]
  rw [fx r (vs.set off u) (off+1) k (by simp;omega)]
  by_cases h1:off+1≤k∧k<off+1+r.length
  ·rw [if_pos h1,if_pos (by simp;omega),show k - off=(k - (off+1))+1 by omega];simp
  ·rw [if_neg h1]
   by_cases h2:off=k
   ·subst h2
    rw [if_pos (by simp),List.getElem?_set_self (by omega)];simp
   ·rw [if_neg (by simp;omega),List.getElem?_set_ne h2]
theorem fX:∀ (us vs:List Value) (off:Nat),(setV vs off us).length=vs.length
 | [],_,_=>rfl
 | u :: r,vs,off=>by simp [setV,fX r]
theorem Rep.notMany {M:Mem} {d:D} {v:Value} (h:Rep M d v) (hd:∀ x,d=.v x→Go.E2.notMany x=true):Go.E2.notMany v=true:=by
 cases h with
 | v x=>exact hd _ rfl
 | _=>rfl
def dOne:D→Bool
 | .v x=>notMany x
 | _=>true
def rowOne:List D→Bool
 | []=>true
 | d :: r=>match dOne d with
  | true=>rowOne r
  | false=>false
theorem ga {M:Mem}:∀ {ds:List D} {vs:List Value},rowOne ds=true→RepsD M ds vs→∀ u∈vs,notMany u=true
 | [],[],_,_,u,hu=>by cases hu
 | d :: ds,v :: vs,h,hr,u,hu=>by
  simp only [rowOne] at h
  split at h
  ·rename_i hd
   cases hu with
   | head=>exact hr.1.notMany (fun x e=>by subst e;exact hd)
   | tail _ hm=>exact ga h hr.2 u hm
  ·cases h
 | [],_ :: _,_,hr,_,_=>hr.elim
 | _ :: _,[],_,hr,_,_=>hr.elim
theorem kU:∀ {a b:List D},rowOne a=true→rowOne b=true→rowOne (a++b)=true
 | [],_,_,h=>h
 | d :: r,b,h,h'=>by
  simp only [rowOne] at h
  simp only [List.cons_append,rowOne]
  split at h
  ·exact kU h h'
  ·cases h
theorem iV {α:Type} {enc:α→List D} (h:∀ x,rowOne (enc x)=true):∀ L:List α,rowOne (L.map enc).flatten=true
 | []=>rfl
 | x :: r=>by simp only [List.map_cons,List.flatten_cons];exact kU (h x) (iV h r)
theorem uo {α:Type} {enc:α→List D} {L X R:List α} {M:Mem} {w:World} {s x:Value} {ts tx e sz:Nat} {ρ:Env} {bl:Nat→Option Ob} {ob:Ob} {j j':Nat} (ht:slInfo P ts=some (e,sz)) (hx':isSl P tx=true) (hby:bytesOk P e=true) (hsz:allR sz enc) (hone:∀ x,rowOne (enc x)=true) (_hpos:sz≠0)
  (happ:appO L X=some R) (hs:Rep M (.sl (L.map enc)) s) (hx:Rep M (.sl (X.map enc)) x) (hrw:RelW C bl ρ M w) (hj:bl j=some ob∨ob=.dead) (hi:Inv1 ρ M w (.tail sz) s) (hown:(Ob.tail sz).blkOf s=none∨(bl j=some ob∧ob=.tail sz∧ρ j=s)) :
  ∃ u w' M',(Builtin.append_ #[ts,tx] ty #[s,x]).run P w=.ok u w'∧M.le M'∧Rep M' (.sl (R.map enc)) u∧∀ ρ' bl',RelW C bl ρ' M w→ρ' j'=u→(∀ k o,bl' k=some o→o=.dead∨(k=j'∧o=.tail sz)∨(bl k=some o∧k≠j))→(bl j=some ob→ρ' j=ρ j)→RelW C bl' ρ' M' w':=by
 obtain ⟨hlen,rfl⟩:=lr happ
 obtain ⟨hu,inf,hinf,hisz⟩:=gC ht
 obtain ⟨sa,sn,scap,rfl,hcap,htail⟩:=hi
 obtain ⟨sa2,scap2,e0⟩:=hs.sl_cases
 simp only [Value.slice.injEq,List.length_map] at e0
 obtain ⟨rfl,rfl,rfl⟩:=e0
 obtain ⟨xa,xcap,rfl⟩:=hx.sl_cases
 simp only [List.length_map]
 simp only [List.length_map] at hs hx
 obtain ⟨news,hn1,hn2⟩:=cn (P:=P) (w:=w) hx (aO hsz X) hrw.mem
 obtain ⟨olds,ho1,ho2⟩:=cn (P:=P) (w:=w) hs (aO hsz L) hrw.mem
 simp only [List.length_map] at hn1 ho1
 have hnl:news.length=X.length*sz:=by rw [hn2.len,a6 (aO hsz X),List.length_map]
 have hol:olds.length=L.length*sz:=by rw [ho2.len,a6 (aO hsz L),List.length_map]
 obtain ⟨e',htt⟩:∃ e',(underlying tx).run P w=.ok (.slice e') w:=by
  unfold isSl at hx'
  split at hx'
  ·rename_i e' hu'
   exact ⟨e',by simp [underlying,program,Sem.run,hu']⟩
  ·cases hx'
 have hLX:((L++X).map enc).length=L.length+X.length:=by simp
 have hflat:((L++X).map enc).flatten=(L.map enc).flatten++(X.map enc).flatten:=by rw [List.map_append,List.flatten_append]
 by_cases hfit:L.length+X.length≤scap
 ·by_cases hX0:X.length=0
  ·-- nothing is added
   have hX:X=[]:=List.eq_nil_of_length_eq_zero hX0
   subst hX
   have hn0:news=[]:=by apply List.eq_nil_of_length_eq_zero;rw [hnl];simp
   subst hn0
   refine ⟨.slice sa L.length scap,w,M,?_,Mem.le_refl _,by simpa using hs,fun ρ' bl' hr' hρ' hbl hρj=>?_⟩
   ·unfold Builtin.append_
    simp only [List.getElem?_toArray,List.getElem?_cons_zero,List.getElem?_cons_succ]
    rw [ag (bt ht w)]
    simp only
    rw [ag (bM ht w)]
    simp only [pure_bind]
    rw [ag htt]
    simp only [Bool.false_eq_true,if_false,Builtin.lenOf,pure_bind,Bool.not_false,if_true]
    rw [if_pos hfit,ag hn1]
    cases sa with
    | none=>rfl
    | some a=>rfl
   ·refine hr'.change j' (fun b=>(Ob.tail sz).blkOf (.slice sa L.length scap)=some b) ?_ ⟨rfl,rfl,rfl,Nat.le_refl _⟩ (fun _ _ _=>rfl) (Mem.le_refl _) (fun _ _ _=>⟨fun _=>rfl,rfl⟩) (fun b _=>⟨fun o v hv=>hr'.mem.cell b o v hv,fun o ho=>hr'.mem.obj b o ho⟩) (fun k o hk=>?_) (fun b hb=>by
     rcases hown with h1 | ⟨h1,rfl,h2⟩
     ·rw [h1] at hb;cases hb
     ·exact hr'.noJunk h1 (by rw [hρj h1,h2];exact hb))
    ·intro b hb _
     rcases hown with h1 | ⟨h1,rfl,h2⟩
     ·rw [h1] at hb;cases hb
     ·exact hr'.priv j _ b h1 (by rw [hρj h1,h2];exact hb)
    ·rcases hbl k o hk with rfl | ⟨rfl,rfl⟩ | ⟨h1,h2⟩
     ·exact .inl rfl
     ·refine .inr (.inr ⟨rfl,?_,fun b hb=>.inl (by rw [hρ'] at hb;exact hb)⟩)
      rw [hρ']
      exact ⟨sa,L.length,scap,rfl,hcap,htail⟩
     ·refine .inr (.inl ⟨h1,fun b hb hS=>?_⟩)
      rcases hown with h3 | ⟨h3,rfl,h4⟩
      ·rw [h3] at hS;cases hS
      ·exact h2 (hr'.dist k j _ _ b h1 h3 hb (by rw [hρj h3,h4];exact hS))
  ·-- in place
   have hlt:L.length<scap:=by omega
   obtain ⟨b,off,arr,ty',rfl,hb,hroom,hnone⟩:=htail hlt
   have hownb:(Ob.tail sz).blkOf (.slice (some ⟨b,off,none⟩) L.length scap)=some b:=by simp [Ob.blkOf,hlt]
   have hbl0:bl j=some ob∧ob=.tail sz∧ρ j=.slice (some ⟨b,off,none⟩) L.length scap:=by
    rcases hown with h1 | h1
    ·rw [hownb] at h1;cases h1
    ·exact h1
   obtain ⟨hj1,rfl,hj2⟩:=hbl0
   have hroom':off+(L.length+X.length)*sz≤arr.size:=Nat.le_trans (Nat.add_le_add_left (Nat.mul_le_mul_right sz hfit) off) hroom
   have hmul:(L.length+X.length)*sz=L.length*sz+X.length*sz:=Nat.add_mul ..
   obtain ⟨w',q1,q2,q3,q4,q5,q6,q7⟩:=ca (P:=P) (b:=b) (off:=off+L.length*sz) (ty:=ty') news 0 w arr hb (ga (iV hone X) hn2) (by omega)
   rw [Nat.add_zero] at q2
   have hle:M.le (M.put b (off+L.length*sz) news):=dP hnone
   refine ⟨.slice (some ⟨b,off,none⟩) (L.length+X.length) scap,w',M.put b (off+L.length*sz) news,?_,hle,?_,fun ρ' bl' hr' hρ' hbl hρj=>?_⟩
   ·unfold Builtin.append_
    simp only [List.getElem?_toArray,List.getElem?_cons_zero,List.getElem?_cons_succ]
    rw [ag (bt ht w)]
    simp only
    rw [ag (bM ht w)]
    simp only [pure_bind]
    rw [ag htt]
    simp only [Bool.false_eq_true,if_false,Builtin.lenOf,pure_bind,Bool.not_false,if_true]
    rw [if_pos hfit,ag hn1]
    simp only [d9]
    rw [ag q1]
    rfl
   ·rw [← hLX]
    refine dO (sz:=sz) (vs:=olds++news) (by rw [hLX];exact hfit) (aO hsz _) (by rw [hflat];exact (ho2.append hn2).mono hle) (fun k u hk=>?_)
    rcases Nat.lt_or_ge k olds.length with h1 | h1
    ·rw [List.getElem?_append_left h1] at hk
     by_cases hL0:L=[]
     ·rw [hol,hL0] at h1;simp at h1
     ·obtain ⟨b2,off2,cap2,sz2,vs2,e2,_,hrow2,hrep2,hm2⟩:=hs.flat (by simpa using hL0)
      simp only [Value.slice.injEq,Option.some.injEq,Addr.mk.injEq] at e2
      obtain ⟨⟨rfl,rfl,_⟩,_,_⟩:=e2
      have hvs:vs2=olds:=by
       have h3:=dK (P:=P) (w:=w) (b:=b) (off:=off) vs2 (fun i v hi=>hrw.mem.cell _ _ _ (hm2 i v hi))
       have h4:(loadCells ⟨b,off,none⟩ (L.length*sz)).run P w=.ok olds.toArray w:=ho1
       have h5:vs2.length=L.length*sz:=by
        rw [hrep2.len,a6 (aO hsz L),List.length_map]
       rw [h5] at h3
       have:=h3.symm.trans h4
       simpa using this
      rw [← hvs] at hk
      exact hle.cell _ _ _ (hm2 k u hk)
    ·rw [List.getElem?_append_right h1] at hk
     have:=fv (M:=M) (b:=b) (off:=off+L.length*sz) hk
     rw [hol] at this h1
     rw [show off+k=off+L.length*sz+(k - L.length*sz) by omega];exact this
   ·have hρj':ρ' j=.slice (some ⟨b,off,none⟩) L.length scap:=(hρj hj1).trans hj2
    refine hr'.change j' (fun x=>x=b) ?_ ⟨q5,q6,q7,Nat.le_of_eq q4.symm⟩ (fun x _ hx=>q3 x hx) hle (fun x _ hx=>⟨fun o=>cP hx,rfl⟩) ?_ (fun k o hk=>?_) (fun x hx=>by rw [hx];exact hr'.noJunk hj1 (by rw [hρj'];exact hownb))
    ·rintro x rfl _
     exact hr'.priv j _ _ hj1 (by rw [hρj'];exact hownb)
    ·rintro x (rfl | hx)
     ·refine ⟨fun o v hv=>?_,fun o ho=>(by rw [show (M.put x (off+L.length*sz) news).obj x=M.obj x from rfl,hr'.mem.noObj hb] at ho;cases ho)⟩
      simp only [World.cell?,q2]
      simp only [Option.isSome_none,Bool.false_eq_true,if_false,List.getElem?_toArray]
      rw [fx _ _ _ _ (by have:arr.toList.length=arr.size:=Array.length_toList;omega)]
      rcases gT hv with ⟨h1,h2⟩ | h2
      ·have h3:=(List.getElem?_eq_some_iff.1 h2).1
       rw [if_pos (by omega)];exact h2
      ·have h3:=hr'.mem.cell _ _ _ h2
       have h4:¬ (off+L.length*sz≤o):=fun h=>by rw [hnone o h] at h2;cases h2
       rw [if_neg (by omega)]
       simp only [World.cell?,hb] at h3
       simpa using h3
     ·have:=hr'.mem.none hx
      have hxb:x≠b:=by
       have:=(Array.getElem?_eq_some_iff.1 hb).1
       omega
      exact ⟨fun o v hv=>(by rw [cP hxb,this.1 o] at hv;cases hv),fun o ho=>(by rw [show (M.put b (off+L.length*sz) news).obj x=M.obj x from rfl,this.2] at ho;cases ho)⟩
    ·rcases hbl k o hk with rfl | ⟨rfl,rfl⟩ | ⟨h1,h2⟩
     ·exact .inl rfl
     ·refine .inr (.inr ⟨rfl,?_,fun x hx=>.inl ?_⟩)
      ·rw [hρ']
       refine ⟨_,_,_,rfl,hfit,fun hlt2=>⟨b,off,_,ty',rfl,q2,?_,fun o ho=>?_⟩⟩
       ·rw [List.size_toArray,fX,Array.length_toList];exact hroom
       ·simp only [Mem.put]
        rw [if_neg (by omega)]
        exact hnone o (by omega)
      ·rw [hρ'] at hx
       simp only [Ob.blkOf] at hx
       split at hx
       ·cases hx;rfl
       ·cases hx
     ·refine .inr (.inl ⟨h1,fun x hx hS=>?_⟩)
      subst hS
      exact h2 (hr'.dist k j _ _ _ h1 hj1 hx (by rw [hρj'];exact hownb))
 ·-- a new row
  have hby':∃ zv,inf.zero=some zv∧zv.cells.size=inf.size∧inf.bytes≤65536:=by
   unfold bytesOk at hby
   rw [hinf] at hby
   simp only at hby
   split at hby
   ·rename_i zv hz
    split at hby
    ·rename_i hq;exact ⟨zv,hz,Nat.eq_of_beq_eq_true hq,Nat.le_of_ble_eq_true hby⟩
    ·cases hby
   ·cases hby
  obtain ⟨zv,hzv,hzsz,hbytes⟩:=hby'
  have hti:∀ w:World,(typeInfo e).run P w=.ok inf w:=fun w=>by simp [typeInfo,program,Sem.run,hinf]
  have hzr:∀ w:World,(zeroValue e).run P w=.ok zv w:=fun w=>by simp [zeroValue,typeInfo,program,Sem.run,hinf,hzv]
  have hnc:=lF (n:=L.length+X.length) (c:=scap) (by omega)
  have hnb:Builtin.nextslicecap (L.length+X.length) scap*inf.bytes≤2 ^ 48:=by
   have h1:Builtin.nextslicecap (L.length+X.length) scap≤2147483840:=by omega
   exact Nat.le_trans (Nat.mul_le_mul h1 hbytes) (by decide)
  obtain ⟨newCap,hnc2,w1,hw1,hch⟩:∃ newCap,L.length+X.length≤newCap∧∃ w1:World,w1={ w with drawn:=w.drawn+1 }∧∀ (K:Nat→Sem Value),(choose (.appendCap (L.length+X.length) scap e) >>= K).run P w=(K newCap).run P w1 :=
   ⟨(Question.appendCap (L.length+X.length) scap e).cut (w.tape w.drawn (.appendCap (L.length+X.length) scap e)),by simp [Question.cut],_,rfl,fun K=>by simp [choose,Sem.run,Question.forced,bind,Sem.bind]⟩
  have hin1:InW M w1:=by subst hw1;exact ⟨hrw.mem.cell,hrw.mem.obj,hrw.mem.junk⟩
  obtain ⟨olds1,ho3,ho4⟩:=cn (P:=P) (w:=w1) hs (aO hsz L) hin1
  obtain ⟨news1,hn3,hn4⟩:=cn (P:=P) (w:=w1) hx (aO hsz X) hin1
  simp only [List.length_map] at ho3 hn3
  have hol1:olds1.length=L.length*sz:=by rw [ho4.len,a6 (aO hsz L),List.length_map]
  have hnl1:news1.length=X.length*sz:=by rw [hn4.len,a6 (aO hsz X),List.length_map]
  have hroomr:∀ n,∀ w:World,(askRoom n).run P w=.ok () w:=fun n w=>by
   unfold askRoom;split <;> rfl
  let rest:=Builtin.zeroCells zv.cells (newCap - (L.length+X.length))
  have hw1h:w1.heap=w.heap:=by rw [hw1]
  have hrw1:∀ ρ' bl0,RelW C bl0 ρ' M w→RelW C bl0 ρ' M w1:=fun ρ' bl0 h=>by
   subst hw1
   exact ⟨fun k o hk=>(h.inv k o hk).keep (Mem.le_refl _) (fun _ _=>⟨rfl,fun _=>rfl,rfl⟩),h.dist,h.priv,⟨h.mem.cell,h.mem.obj,h.mem.junk⟩,h.base,h.fresh,⟨h.kept.os,h.kept.tape,h.kept.output,h.kept.size,h.kept.block⟩,h.names,h.junkP⟩
  have hmul:(L.length+X.length)*sz=L.length*sz+X.length*sz:=Nat.add_mul ..
  refine ⟨.slice (some ⟨w.heap.size,0,none⟩) (L.length+X.length) newCap,w1.alloc (.cells (olds1++news1++rest.toList).toArray e),M.put w1.heap.size 0 ((olds1++news1++rest.toList).take ((L.length+X.length)*sz)),?_,?_,?_,fun ρ' bl' hr' hρ' hbl hρj=>?_⟩
  ·unfold Builtin.append_
   simp only [List.getElem?_toArray,List.getElem?_cons_zero,List.getElem?_cons_succ]
   rw [ag (bt ht w)]
   simp only
   rw [ag (bM ht w)]
   simp only [pure_bind]
   rw [ag htt]
   simp only [Bool.false_eq_true,if_false,Builtin.lenOf,pure_bind,Bool.not_false,if_true]
   rw [if_neg hfit,ag (hti w)]
   rw [if_neg (by
    intro h
    have h1:=h.1
    have h2:IntKind.i64.max=9223372036854775807:=by decide
    rw [h2] at h1
    omega)]
   rw [ag (hti w)]
   rw [if_neg (by omega),hch]
   rw [ag (hti w1),ag (hroomr _ w1),ag ho3,ag hn3,ag (hzr w1)]
   have e1:olds1.toArray++news1.toArray++rest=(olds1++news1++rest.toList).toArray:=by apply Array.ext';simp
   show (do let y ← newRow e (olds1.toArray++news1.toArray++rest);pure (Value.slice (some y) (L.length+X.length) newCap):Sem Value).run P w1=_
   rw [e1,← hw1h]
   rfl
  ·exact dP (fun o _=>(hin1.none (Nat.le_refl _)).1 o)
  ·rw [← hw1h]
   have htk:(olds1++news1++rest.toList).take ((L.length+X.length)*sz)=olds1++news1:=by
    rw [List.take_append_of_le_length (by simp;omega),List.take_of_length_le (by simp;omega)]
   rw [htk,← hLX]
   have hle:M.le (M.put w1.heap.size 0 (olds1++news1)):=dP (fun o _=>(hin1.none (Nat.le_refl _)).1 o)
   refine dO (sz:=sz) (vs:=olds1++news1) (by rw [hLX];exact hnc2) (aO hsz _) (by rw [hflat];exact (ho4.append hn4).mono hle) (fun k u hk=>?_)
   have:=fv (M:=M) (b:=w1.heap.size) (off:=0) hk
   exact this
  ·have h2:=(hrw1 ρ' bl hr').allocM (vs:=olds1++news1++rest.toList) (t:=e) ((L.length+X.length)*sz) (by simp;omega)
   refine h2.change j' (fun b=>b=w1.heap.size) (fun b hb _=>.inl (by rw [hb,hw1h];exact hr'.kept.size)) ⟨rfl,rfl,rfl,Nat.le_refl _⟩ (fun _ _ _=>rfl) (Mem.le_refl _) (fun _ _ _=>⟨fun _=>rfl,rfl⟩) (fun b _=>⟨fun o v hv=>h2.mem.cell b o v hv,fun o ho=>h2.mem.obj b o ho⟩) (fun k o hk=>?_) (fun b hb=>by rw [hb];exact hin1.noneJ (Nat.le_refl _))
   rcases hbl k o hk with rfl | ⟨rfl,rfl⟩ | ⟨h3,h4⟩
   ·exact .inl rfl
   ·refine .inr (.inr ⟨rfl,?_,fun x hx=>.inl ?_⟩)
    ·rw [hρ',← hw1h]
     refine ⟨_,_,_,rfl,hnc2,fun _=>⟨w1.heap.size,0,_,e,rfl,fe _ _,?_,fun o ho=>?_⟩⟩
     ·have hrs:rest.size=(newCap - (L.length+X.length))*sz:=by simp [rest,Builtin.zeroCells,hzsz,hisz]
      have h5:newCap*sz=(L.length+X.length)*sz+(newCap - (L.length+X.length))*sz:=by rw [← Nat.add_mul];congr 1;omega
      simp only [List.size_toArray,List.length_append,Array.length_toList]
      omega
     ·simp only [Mem.put]
      rw [if_neg (by
       intro h
       have:=h.2.2
       rw [List.length_take] at this
       omega)]
      exact (hin1.none (Nat.le_refl _)).1 o
    ·rw [hρ'] at hx
     simp only [Ob.blkOf] at hx
     split at hx
     ·cases hx;exact hw1h ▸ rfl
     ·cases hx
   ·refine .inr (.inl ⟨h3,fun x hx hS=>?_⟩)
    have:=hr'.lt k o x h3 hx
    rw [hS,hw1h] at this
    exact absurd this (Nat.lt_irrefl _)
theorem dQ {α:Type} {enc:α→List D} {L X R:List α} {ts tx e sz:Nat} {s x:Operand} {j j':Nat} (happ:appO L X=some R) (hs:opnd F s=some (.s (.c (.tl j (L.map enc))))) (hj:F.bl j=some (.tail sz)) (hx:rdS F x=some (X.map enc)) (ht:slInfo P ts=some (e,sz)) (htx:isSl P tx=true) (hby:bytesOk P e=true) (hsz:allR sz enc) (hone:∀ x,rowOne (enc x)=true) (hpos:sz≠0)
  (hsd:sideOk F true [s,x]) (hd:Nat.blt dst C.n=true) (hj':F.bl j'=none) :
  TriL P C ops ⟨some dst,.call ⟨.builtin .append,#[s,x],#[ts,tx]⟩,ty,pos,after,none⟩ ⟨slotsOf [s,x],[j,j'],[dst],[j',j]⟩ [(dst,.s (.c (.tl j' (R.map enc))))] [(j',.tail sz),(j,.dead)] F:=by
 refine ⟨⟨rfl,rfl⟩,fun F' hS=>?_⟩
 have h1:=aG hS.1
 have hs':=(h1 s (by simp)).trans hs
 have hj1:F'.bl j=some (.tail sz):=(hS.2 j (by simp)).trans hj
 have hj2:F'.bl j'=none:=(hS.2 j' (by simp)).trans hj'
 refine Tri.val [j'] rfl rfl hd (fun k hk=>by simp at hk;subst hk;exact hj2) (fun k hk=>cJ hk) (fun k hk=>by simp at hk;subst hk;simp [over,look]) (fun ρ M a w hr=>?_)
 have hR:=aR hr rfl (aC h1 hsd)
 obtain ⟨es,hrs⟩:a.eval s=ρ j∧Rep M (.sl (L.map enc)) (a.eval s):=aU hr hs'
 have hrx:=gF hR (by simp) ((fA (h1 x (by simp))).trans hx)
 have hinv:Inv1 ρ M w (.tail sz) (a.eval s):=by rw [es];exact hr.heap.inv j _ hj1
 obtain ⟨u,w',M',g1,g2,g3,g4⟩:=uo (P:=P) (ty:=ty) (j:=j) (j':=j') (ob:=.tail sz) ht htx hby hsz hone hpos happ hrs hrx hr.heap (.inl hj1) hinv (.inr ⟨hj1,rfl,es.symm⟩)
 refine ⟨u,w',M',fun _=>u,?_,g2,fun ρ' h0 hnv=>⟨⟨(hnv j' (by simp)).symm,g3⟩,?_⟩⟩
 ·unfold execOp
  simp only [resolve,List.map_toArray,List.map_cons,List.map_nil,pure_bind,invoke]
  exact aA g1
 ·obtain ⟨es',_⟩:a.eval s=ρ' j∧Rep M (.sl (L.map enc)) (a.eval s):=aU h0 hs'
  refine g4 ρ' _ h0.heap (hnv j' (by simp)) (fun k o hk=>?_) (fun _=>es'.symm.trans es)
  have hk':over [(j',Ob.tail sz),(j,Ob.dead)] F'.bl k=some o:=hk
  unfold over at hk'
  rw [au,au] at hk'
  by_cases e1:j'=k
  ·subst e1;rw [if_pos rfl] at hk';cases hk';exact .inr (.inl ⟨rfl,rfl⟩)
  ·rw [if_neg e1] at hk'
   by_cases e2:j=k
   ·subst e2;rw [if_pos rfl] at hk';cases hk';exact .inl rfl
   ·rw [if_neg e2] at hk'
    exact .inr (.inr ⟨hk',fun e=>e2 e.symm⟩)
end Go.E2
end
section
namespace Go.E2
variable {P:Program} {C:Ctx}
def memB (x:Nat):List Nat→Bool
 | []=>false
 | y :: r=>match Nat.beq x y with
  | true=>true
  | false=>memB x r
def meets:List Nat→List Nat→Bool
 | [],_=>false
 | x :: r,l=>match memB x l with
  | true=>true
  | false=>meets r l
theorem yF {x:Nat} {l:List Nat} (h:x∈l):memB x l=true:=by
 induction l with
 | nil=>cases h
 | cons y r ih =>
  unfold memB
  by_cases e:x=y
  ·subst e;simp
  ·rw [nq e]
   cases h with
   | head=>exact absurd rfl e
   | tail _ hm=>exact ih hm
theorem jS {x:Nat} {a b:List Nat} (ha:x∈a) (hb:x∈b):meets a b=true:=by
 induction a with
 | nil=>cases ha
 | cons y r ih =>
  unfold meets
  cases ha with
  | head=>rw [yF hb]
  | tail _ hm =>
   cases memB y b with
   | true=>rfl
   | false=>exact ih hm
def confl (a b:Sum):Bool:=meets a.ws (b.rs++b.ws)||meets b.ws a.rs||meets a.wb (b.rb++b.wb)||meets b.wb a.rb
def reach (ops:Array Oper):Nat→Nat→Nat→Bool
 | 0,_,_=>false
 | n+1,i,j=>match ops[j]? with
  | some o=>o.after.toList.any (fun e=>Region.binds .any e&&Nat.beq e.on i)||o.after.toList.any (fun e=>Region.binds .any e&&reach ops n i e.on)
  | none=>false
def confRow (ops:Array Oper) (j:Nat) (b:Sum):Nat→List Sum→Bool
 | _,[]=>true
 | i,a :: r=>(!confl a b||reach ops 9 i j)&&confRow ops j b (i+1) r
def confAll (ops:Array Oper) (pre:List Sum):Nat→List Sum→Bool
 | _,[]=>true
 | j,b :: r=>confRow ops j b 0 pre&&confAll ops (pre++[b]) (j+1) r
def edgesB (l:List Oper):Nat→Bool:=fun k=>match l with
 | []=>true
 | o :: r=>o.after.toList.all (fun e=>!Region.binds .any e||Nat.blt e.on k)&&edgesB r (k+1)
def confB (ops:Array Oper) (ss:List Sum):Bool:=Nat.beq ss.length ops.size&&edgesB ops.toList 0&&confAll ops [] 0 ss
theorem mb {ops:Array Oper} {j:Nat} {b:Sum}:∀ (l:List Sum) (k:Nat),confRow ops j b k l=true→∀ (i:Nat) a,l[i]? = some a→confl a b=true→reach ops 9 (k+i) j=true
 | [],_,_,i,a,hi,_=>by simp at hi
 | x :: r,k,h,i,a,hi,hc=>by
  simp only [confRow,Bool.and_eq_true,Bool.or_eq_true,Bool.not_eq_true'] at h
  cases i with
  | zero =>
   simp at hi;subst hi
   rcases h.1 with h1 | h1
   ·rw [hc] at h1;cases h1
   ·exact h1
  | succ i =>
   have:=mb r (k+1) h.2 i a (by simpa using hi) hc
   rw [show k+(i+1)=k+1+i by omega];exact this
theorem mc {ops:Array Oper}:∀ (l pre:List Sum) (k:Nat),k=pre.length→confAll ops pre k l=true→∀ (i j:Nat) a b,i<j→k≤j→(pre++l)[i]? = some a→(pre++l)[j]? = some b→confl a b=true→reach ops 9 i j=true
 | [],pre,k,hk,_,i,j,a,b,_,hj,_,hb,_=>by
  simp at hb
  have:=(List.getElem?_eq_some_iff.1 hb).1
  omega
 | x :: r,pre,k,hk,h,i,j,a,b,hij,hj,ha,hb,hc=>by
  simp only [confAll,Bool.and_eq_true] at h
  by_cases e:j=k
  ·subst e
   have hb':b=x:=by
    rw [List.getElem?_append_right (by omega)] at hb
    simpa [hk] using hb.symm
   subst hb'
   have ha':pre[i]? = some a:=by
    rw [List.getElem?_append_left (by omega)] at ha;exact ha
   have:=mb pre 0 h.1 i a ha' hc
   rw [Nat.zero_add] at this
   exact this
  ·refine mc r (pre++[x]) (k+1) (by simp [hk]) h.2 i j a b hij (by omega) (by simpa using ha) (by simpa using hb) hc
theorem no:∀ (l:List Oper) (k:Nat),edgesB l k=true→∀ (i:Nat) o,l[i]? = some o→∀ e∈o.after,Region.binds .any e=true→e.on<k+i
 | [],_,_,i,o,hi,_,_,_=>by simp at hi
 | x :: r,k,h,i,o,hi,e,he,hb=>by
  simp only [edgesB,Bool.and_eq_true] at h
  cases i with
  | zero =>
   simp at hi;subst hi
   have:=List.all_eq_true.1 h.1 e (by simpa using he)
   simp only [Bool.or_eq_true,Bool.not_eq_true'] at this
   rcases this with h1 | h1
   ·rw [hb] at h1;cases h1
   ·exact Nat.blt_eq.mp h1
  | succ i =>
   have:=no r (k+1) h.2 i o (by simpa using hi) e he hb
   omega
theorem jp {ops:Array Oper} {on:Nat→Bool} (hc:∀ j o,ops[j]? = some o→on j=true→∀ e∈o.after,Region.binds .any e=true→on e.on=true) :
  ∀ (n i j:Nat),reach ops n i j=true→on j=true→on i=true
 | 0,_,_,h,_=>by cases h
 | n+1,i,j,h,hj=>by
  unfold reach at h
  split at h
  ·rename_i o ho
   simp only [Bool.or_eq_true,List.any_eq_true,Bool.and_eq_true] at h
   rcases h with ⟨e,he,hb,hi⟩ | ⟨e,he,hb,hi⟩
   ·have:=hc j o ho hj e (by simpa using he) hb
    rwa [Nat.eq_of_beq_eq_true hi] at this
   ·exact jp hc n i e.on hi (hc j o ho hj e (by simpa using he) hb)
  ·cases h
def fold {α:Type} (on:Nat→Bool):Nat→List (List (Nat×α))→(Nat→Option α)→Nat→Option α
 | _,[],f=>f
 | k,W :: r,f=>fold on (k+1) r (if on k then over W f else f)
theorem oV {α:Type} {W:List (Nat×α)} {f:Nat→Option α} {t:Nat} (h:t∉W.map (·.1)):over W f t=f t:=by
 unfold over
 have:look W t=none:=by
  induction W with
  | nil=>rfl
  | cons p r ih =>
   obtain ⟨k,v⟩:=p
   rw [au,if_neg (fun e=>h (by simp [e]))]
   exact ih (fun hm=>h (by simp at hm ⊢;exact .inr hm))
 rw [this]
theorem rm {α:Type} {W:List (Nat×α)} {f f':Nat→Option α} {t:Nat} (h:t∈W.map (·.1)):over W f t=over W f' t:=by
 unfold over
 cases hl:look W t with
 | some v=>rfl
 | none =>
  exfalso
  induction W with
  | nil=>cases h
  | cons p r ih =>
   obtain ⟨k,v⟩:=p
   rw [au] at hl
   split at hl
   ·cases hl
   ·rename_i hne
    refine ih ?_ hl
    simp only [List.map_cons,List.mem_cons] at h
    rcases h with h | h
    ·exact absurd h.symm hne
    ·exact h
theorem eB {α:Type} {on on':Nat→Bool} {t:Nat}:∀ (L:List (List (Nat×α))) (k:Nat) (f f':Nat→Option α),f t=f' t→(∀ (i:Nat) W,L[i]? = some W→t∈W.map (·.1)→on (k+i)=on' (k+i))→fold on k L f t=fold on' k L f' t
 | [],_,_,_,h,_=>h
 | W :: r,k,f,f',h,hw=>by
  simp only [fold]
  refine eB r (k+1) _ _ ?_ (fun i V hV ht=>by have:=hw (i+1) V (by simpa using hV) ht;rw [show k+1+i=k+(i+1) by omega];exact this)
  by_cases ht:t∈W.map (·.1)
  ·have:=hw 0 W rfl ht
   simp only [Nat.add_zero] at this
   rw [this]
   split
   ·exact rm ht
   ·exact h
  ·have e1:(if on k then over W f else f) t=f t:=by
    split
    ·exact oV ht
    ·rfl
   have e2:(if on' k then over W f' else f') t=f' t:=by
    split
    ·exact oV ht
    ·rfl
   rw [e1,e2,h]
theorem sR {α:Type} {on:Nat→Bool} {t:Nat}:∀ (L:List (List (Nat×α))) (k:Nat) (f:Nat→Option α) (i:Nat) W,L[i]? = some W→on (k+i)=false →
  (∀ (m:Nat) V,L[m]? = some V→i<m→t∈V.map (·.1)→t∈W.map (·.1)→on (k+m)=false)→fold (fun n=>if n=k+i then true else on n) k L f t=over W (fold on k L f) t
 | [],_,_,i,W,h,_,_=>by simp at h
 | V :: r,k,f,i,W,hW,hon,hno=>by
  by_cases htW:t∈W.map (·.1)
  ·-- the value is W's
   have:fold (fun n=>if n=k+i then true else on n) k (V :: r) f t=over W f t:=by
    clear hon
    induction i generalizing k f V r with
    | zero =>
     simp at hW;subst hW
     simp only [fold,Nat.add_zero,if_true]
     have:fold (fun n=>if n=k then true else on n) (k+1) r (over V f) t=fold (fun _=>false) (k+1) r (over V f) t:=by
      refine eB r (k+1) _ _ rfl (fun m U hU ht=>?_)
      have:=hno (m+1) U (by simpa using hU) (by omega) ht htW
      rw [if_neg (by omega),show k+1+m=k+(m+1) by omega];exact this
     rw [this]
     have nil:∀ (L:List (List (Nat×α))) (k:Nat) (g:Nat→Option α),fold (fun _=>false) k L g=g:=by
      intro L;induction L with
      | nil=>intro _ _;rfl
      | cons _ _ ih=>intro k g;simp only [fold,Bool.false_eq_true,if_false];exact ih _ _
     rw [nil]
    | succ i ih =>
     simp only [fold]
     cases r with
     | nil=>simp at hW
     | cons U r =>
      have:=ih U r (k+1) (if (if k=k+(i+1) then true else on k)=true then over V f else f) (by simpa using hW) (fun m X hX hm h1 h2=>by
       have:=hno (m+1) X (by simpa using hX) (by omega) h1 h2
       rw [show k+1+m=k+(m+1) by omega];exact this)
      rw [show k+(i+1)=k+1+i by omega]
      rw [show k+(i+1)=k+1+i by omega] at this
      rw [this]
      exact rm htW
   rw [this]
   exact rm htW
  ·rw [oV htW]
   refine eB (V :: r) k f f rfl (fun m U hU ht=>?_)
   by_cases e:m=i
   ·subst e
    rw [hW] at hU
    cases hU
    exact absurd ht htW
   ·rw [if_neg (by omega)]
def Chain (P:Program) (C:Ctx) (ops:Array Oper):List Oper→List Sum→List (List (Nat×AV)×List (Nat×Ob))→FS→FS→Prop
 | [],[],[],F,F'=>F'=F
 | o :: l,s :: ss,W :: Ws,F,F'=>TriL P C ops o s W.1 W.2 F∧Chain P C ops l ss Ws (F.upd W.1 W.2) F'
 | _,_,_,_,_=>False
def FSfold (on:Nat→Bool) (L:List (List (Nat×AV)×List (Nat×Ob))) (F:FS):FS:=⟨fold on 0 (L.map (·.1)) F.sl,fold on 0 (L.map (·.2)) F.bl⟩
theorem qH {ops:Array Oper}:∀ (l:List Oper) ss Ws F F',Chain P C ops l ss Ws F F'→ss.length=l.length∧Ws.length=l.length
 | [],[],[],_,_,_=>⟨rfl,rfl⟩
 | _ :: l,_ :: ss,_ :: Ws,_,_,h=>by
  have:=qH l ss Ws _ _ h.2
  exact ⟨by simp [this.1],by simp [this.2]⟩
 | [],[],_ :: _,_,_,h=>h.elim
 | [],_ :: _,_,_,_,h=>h.elim
 | _ :: _,[],_,_,_,h=>h.elim
 | _ :: _,_ :: _,[],_,_,h=>h.elim
theorem vC {α:Type} (L:List (List (Nat×α))) (k:Nat) (f:Nat→Option α):fold (fun n=>decide (n<k)) k L f=f:=by
 induction L generalizing k f with
 | nil=>rfl
 | cons W r ih =>
  simp only [fold,Nat.lt_irrefl,decide_false,Bool.false_eq_true,if_false]
  funext t
  have:=congrFun (ih (k+1) f) t
  rw [← this]
  exact eB r (k+1) f f rfl (fun i W _ _=>by simp;omega)
theorem xP {ops:Array Oper}:∀ (l:List Oper) (ss:List Sum) (Ws:List (List (Nat×AV)×List (Nat×Ob))) (F F':FS),Chain P C ops l ss Ws F F' →
  (∀ (i:Nat) o,l[i]? = some o→∃ s W,ss[i]? = some s∧Ws[i]? = some W∧TriL P C ops o s W.1 W.2 ⟨fold (fun n=>decide (n<i)) 0 (Ws.map (·.1)) F.sl,fold (fun n=>decide (n<i)) 0 (Ws.map (·.2)) F.bl⟩) ∧
  F'=⟨fold (fun _=>true) 0 (Ws.map (·.1)) F.sl,fold (fun _=>true) 0 (Ws.map (·.2)) F.bl⟩:=by
 have shift:∀ {α:Type} (L:List (List (Nat×α))) (k d:Nat) (on:Nat→Bool) (f:Nat→Option α),fold on (k+d) L f=fold (fun n=>on (n+d)) k L f:=by
  intro α L
  induction L with
  | nil=>intro _ _ _ _;rfl
  | cons W r ih=>intro k d on f;simp only [fold];rw [show k+d+1=(k+1)+d by omega];exact ih _ _ _ _
 intro l
 induction l with
 | nil =>
  intro ss Ws F F' h
  match ss,Ws,h with
  | [],[],h=>exact ⟨fun i o hi=>by simp at hi,h⟩
 | cons o l ih =>
  intro ss Ws F F' h
  match ss,Ws,h with
  | s :: ss,W :: Ws,h =>
   obtain ⟨h1,h2⟩:=h
   obtain ⟨ih1,ih2⟩:=ih ss Ws _ _ h2
   refine ⟨fun i o' hi=>?_,?_⟩
   ·cases i with
    | zero =>
     simp at hi;subst hi
     refine ⟨s,W,rfl,rfl,?_⟩
     have e:(fun n=>decide (n<0))=(fun n:Nat=>decide (n<0)):=rfl
     rw [vC,vC]
     exact h1
    | succ i =>
     obtain ⟨s',W',hs,hW,ht⟩:=ih1 i o' (by simpa using hi)
     refine ⟨s',W',by simpa using hs,by simpa using hW,?_⟩
     simp only [List.map_cons,fold,Nat.zero_lt_succ,decide_true,if_true]
     rw [show (0:Nat)+1=0+1 from rfl,shift,shift]
     have e:(fun n=>decide (n+1<i+1))=(fun n:Nat=>decide (n<i)):=by funext n;simp
     rw [e]
     exact ht
   ·rw [ih2]
    simp only [List.map_cons,fold,if_true]
    rw [show (0:Nat)+1=0+1 from rfl,shift,shift]
    rfl
theorem oo {p p':Nat→Bool} {i:Nat} (hi:p i=true) (hi':p' i=false) (hne:∀ k,k≠i→p' k=p k):∀ (l:List Nat),l.Nodup→i∈l→l.countP p=l.countP p'+1
 | [],_,h=>by cases h
 | x :: r,hn,h=>by
  have hn':=List.nodup_cons.1 hn
  by_cases e:x=i
  ·subst e
   rw [List.countP_cons_of_pos hi,List.countP_cons_of_neg (by simp [hi'])]
   congr 1
   exact List.countP_congr (fun k hk=>by rw [hne k (fun e=>hn'.1 (e ▸ hk))])
  ·have hm:i∈r:=by cases h with | head=>exact absurd rfl e | tail _ hm=>exact hm
   have ih:=oo hi hi' hne r hn'.2 hm
   rw [List.countP_cons,List.countP_cons,hne x e,ih]
   omega
theorem wC {ops:Array Oper} {ss:List Sum} {Ws:List (List (Nat×AV)×List (Nat×Ob))} {F F':FS} {Q':Exit→Act→World→Prop} (hch:Chain P C ops ops.toList ss Ws F F') (hcf:confB ops ss=true)
  (hQ:∀ ρ M a w,Rel C F' ρ M a w→Q' .normal a w):∀ (fuel:Nat) (listed:Array Bool),listed.size=ops.size→(List.range ops.size).countP (fun k=>!listed.getD k false)=fuel →
   (∀ j o,ops[j]? = some o→listed.getD j false=true→∀ e∈o.after,Region.binds .any e=true→listed.getD e.on false=true) →
   ∀ ρ M a w,Rel C (FSfold (fun k=>listed.getD k false) Ws F) ρ M a w→wpAnyIn (FR C.ro) 0 P .any ops Q' fuel listed a w:=by
 simp only [confB,Bool.and_eq_true] at hcf
 obtain ⟨⟨hlen,hed⟩,hcf⟩:=hcf
 obtain ⟨hat,hF'⟩:=xP _ _ _ _ _ hch
 obtain ⟨hl1,hl2⟩:=qH _ _ _ _ _ hch
 have hspec:=mc ss [] 0 rfl hcf
 simp only [List.nil_append] at hspec
 -- all listed: the end
 have done:∀ listed:Array Bool,(∀ k,k<ops.size→listed.getD k false=true)→∀ ρ M a w,Rel C (FSfold (fun k=>listed.getD k false) Ws F) ρ M a w→Q' .normal a w:=by
  intro listed hall ρ M a w hr
  refine hQ ρ M a w ?_
  rw [hF']
  have e:FSfold (fun k=>listed.getD k false) Ws F=⟨fold (fun _=>true) 0 (Ws.map (·.1)) F.sl,fold (fun _=>true) 0 (Ws.map (·.2)) F.bl⟩:=by
   unfold FSfold
   congr 1
   ·funext t
    exact eB _ 0 _ _ rfl (fun i W hW _=>by
     have:i<Ws.length:=by have:=(List.getElem?_eq_some_iff.1 hW).1;simpa using this
     rw [hall _ (by rw [hl2] at this;simpa using this)])
   ·funext t
    exact eB _ 0 _ _ rfl (fun i W hW _=>by
     have:i<Ws.length:=by have:=(List.getElem?_eq_some_iff.1 hW).1;simpa using this
     rw [hall _ (by rw [hl2] at this;simpa using this)])
  rw [← e];exact hr
 -- nothing ready: all listed
 have stuck:∀ listed:Array Bool,listed.size=ops.size→Region.ready .any ops listed=[]→∀ k,k<ops.size→listed.getD k false=true:=by
  intro listed hsz hrd k
  induction k using Nat.strongRecOn with
  | _ k ih =>
   intro hk
   cases hl:listed.getD k false with
   | true=>rfl
   | false =>
    exfalso
    have hmem:k∈Region.ready .any ops listed:=by
     rw [mem_ready]
     refine ⟨?_,ops[k],by simp [hk],fun e he hb=>?_⟩
     ·have hks:k<listed.size:=by omega
      simp [hks] at hl ⊢;exact hl
     ·have:=no ops.toList 0 hed k ops[k] (by simp [hk]) e he hb
      exact ih e.on (by omega) (by omega)
    rw [hrd] at hmem
    cases hmem
 intro fuel
 induction fuel with
 | zero =>
  intro listed hsz hcnt hcl ρ M a w hr
  have hall:∀ k,k<ops.size→listed.getD k false=true:=fun k hk=>by
   have:=List.countP_eq_zero.1 hcnt k (List.mem_range.2 hk)
   simpa using this
  refine ⟨?_,done listed hall ρ M a w hr⟩
  apply List.eq_nil_iff_forall_not_mem.2
  intro i hi
  obtain ⟨h1,o,ho,_⟩:=mem_ready.1 hi
  have hi':i<ops.size:=(Array.getElem?_eq_some_iff.1 ho).1
  have:=hall i hi'
  have his:i<listed.size:=by omega
  simp [his] at h1 this
  rw [h1] at this;cases this
 | succ fuel ih =>
  intro listed hsz hcnt hcl ρ M a w hr
  refine ⟨fun h0=>done listed (stuck listed hsz h0) ρ M a w hr,fun i hi=>?_⟩
  obtain ⟨h1,o,ho,hpre⟩:=mem_ready.1 hi
  have hi':i<ops.size:=(Array.getElem?_eq_some_iff.1 ho).1
  have his:i<listed.size:=by omega
  have hoff:listed.getD i false=false:=by simp [his] at h1 ⊢;exact h1
  have ho':ops.toList[i]? = some o:=by simpa using ho
  obtain ⟨s,W,hs,hW,ht⟩:=hat i o ho'
  have hw1:s.ws=W.1.map (·.1):=ht.1.1
  have hw2:s.wb=W.2.map (·.1):=ht.1.2
  have hcl':∀ m,m<i→∀ sm,ss[m]? = some sm→confl sm s=true→listed.getD m false=true:=by
   intro m hm sm hsm hc
   have hre:=hspec m i sm s hm (Nat.zero_le _) hsm hs hc
   -- reach of i: its direct edges are all listed
   unfold reach at hre
   rw [ho] at hre
   simp only [Bool.or_eq_true,List.any_eq_true,Bool.and_eq_true] at hre
   rcases hre with ⟨e,he,hb,hon⟩ | ⟨e,he,hb,hon⟩
   ·have:=hpre e (by simpa using he) hb
    rwa [Nat.eq_of_beq_eq_true hon] at this
   ·exact jp (on:=fun k=>listed.getD k false) hcl 8 m e.on hon (hpre e (by simpa using he) hb)
  have hcl2:∀ m,i<m→∀ sm,ss[m]? = some sm→confl s sm=true→listed.getD m false=false:=by
   intro m hm sm hsm hc
   have hre:=hspec i m s sm hm (Nat.zero_le _) hs hsm hc
   cases hl:listed.getD m false with
   | false=>rfl
   | true =>
    have:=jp (on:=fun k=>listed.getD k false) hcl 9 i m hre hl
    rw [hoff] at this;cases this
  have sumOf:∀ (m:Nat) X,Ws[m]? = some X→∃ sm,ss[m]? = some sm∧sm.ws=X.1.map (·.1)∧sm.wb=X.2.map (·.1):=by
   intro m X hX
   have hm:m<ops.toList.length:=by rw [← hl2];exact (List.getElem?_eq_some_iff.1 hX).1
   obtain ⟨sm,Xm,h3,h4,h5⟩:=hat m (ops.toList[m]) (by simp [List.getElem?_eq_getElem hm])
   rw [hX] at h4;cases h4
   exact ⟨sm,h3,h5.1.1,h5.1.2⟩
  have same:Same (FSfold (fun k=>listed.getD k false) Ws F) ⟨fold (fun n=>decide (n<i)) 0 (Ws.map (·.1)) F.sl,fold (fun n=>decide (n<i)) 0 (Ws.map (·.2)) F.bl⟩ s.rs s.rb:=by
   constructor
   ·intro t htr
    refine eB _ 0 _ _ rfl (fun m V hV htV=>?_)
    simp only [List.getElem?_map,Option.map_eq_some_iff] at hV
    obtain ⟨X,hX,rfl⟩:=hV
    obtain ⟨sm,hsm,e1,_⟩:=sumOf m X hX
    rw [Nat.zero_add]
    rcases Nat.lt_trichotomy m i with hlt | heq | hgt
    ·rw [hcl' m hlt sm hsm (by unfold confl;rw [jS (x:=t) (by rw [e1];exact htV) (by simp [htr])];rfl)];simp [hlt]
    ·subst heq
     rw [hoff];simp
    ·rw [hcl2 m hgt sm hsm (by unfold confl;rw [jS (x:=t) (a:=sm.ws) (b:=s.rs) (by rw [e1];exact htV) htr];simp)]
     simp;omega
   ·intro t htr
    refine eB _ 0 _ _ rfl (fun m V hV htV=>?_)
    simp only [List.getElem?_map,Option.map_eq_some_iff] at hV
    obtain ⟨X,hX,rfl⟩:=hV
    obtain ⟨sm,hsm,_,e2⟩:=sumOf m X hX
    rw [Nat.zero_add]
    rcases Nat.lt_trichotomy m i with hlt | heq | hgt
    ·rw [hcl' m hlt sm hsm (by unfold confl;rw [jS (x:=t) (a:=sm.wb) (b:=s.rb++s.wb) (by rw [e2];exact htV) (by simp [htr])];simp)];simp [hlt]
    ·subst heq
     rw [hoff];simp
    ·rw [hcl2 m hgt sm hsm (by unfold confl;rw [jS (x:=t) (a:=sm.wb) (b:=s.rb) (by rw [e2];exact htV) htr];simp)]
     simp;omega
  have htri:=ht.2 _ same
  unfold wpOpIn
  rw [ho]
  have key:=htri Q' (wpAnyIn (FR C.ro) 0 P .any ops Q' fuel (listed.setIfInBounds i true)) (fun ρ' M' a' w' hr'=>?_) ρ M a w hr
  ·show if Region.wanted o (yielded ops a.tmps)=true then _ else _
   split
   ·rename_i hw;rw [if_pos hw] at key;exact key
   ·rename_i hw;rw [if_neg hw] at key;exact ⟨fun _ _=>trivial,key⟩
  refine ih (listed.setIfInBounds i true) (by simp [hsz]) ?_ ?_ ρ' M' a' w' ?_
  ·have:=oo (p:=fun k=>!listed.getD k false) (p':=fun k=>!(listed.setIfInBounds i true).getD k false) (i:=i) (by rw [hoff];rfl) (by simp [his]) (fun k hk=>by rw [getD_set_ne false (Ne.symm hk)]) (List.range ops.size) List.nodup_range (List.mem_range.2 hi')
   rw [hcnt] at this
   omega
  ·intro j oj hj hlj e he hb
   by_cases hij:i=j
   ·subst hij
    rw [ho] at hj;cases hj
    exact getD_set_true (hpre e he hb)
   ·rw [getD_set_ne false hij] at hlj
    exact getD_set_true (hcl j oj hj hlj e he hb)
  ·have hon:(fun k=>(listed.setIfInBounds i true).getD k false)=(fun n=>if n=0+i then true else listed.getD n false):=by
    funext n
    by_cases e:n=i
    ·subst e;simp [his]
    ·rw [if_neg (by omega),getD_set_ne false (Ne.symm e)]
   have e:FSfold (fun k=>(listed.setIfInBounds i true).getD k false) Ws F=(FSfold (fun k=>listed.getD k false) Ws F).upd W.1 W.2:=by
    unfold FSfold FS.upd
    rw [hon]
    congr 1
    ·funext t
     refine sR (on:=fun k=>listed.getD k false) (Ws.map (·.1)) 0 F.sl i W.1 (by simp [hW]) (by rw [Nat.zero_add];exact hoff) (fun m V hV hm htV htW=>?_)
     simp only [List.getElem?_map,Option.map_eq_some_iff] at hV
     obtain ⟨X,hX,rfl⟩:=hV
     obtain ⟨sm,hsm,e1,_⟩:=sumOf m X hX
     rw [Nat.zero_add]
     exact hcl2 m hm sm hsm (by unfold confl;rw [jS (x:=t) (a:=s.ws) (b:=sm.rs++sm.ws) (by rw [hw1];exact htW) (by rw [e1];simp only [List.mem_append];exact .inr htV)];rfl)
    ·funext t
     refine sR (on:=fun k=>listed.getD k false) (Ws.map (·.2)) 0 F.bl i W.2 (by simp [hW]) (by rw [Nat.zero_add];exact hoff) (fun m V hV hm htV htW=>?_)
     simp only [List.getElem?_map,Option.map_eq_some_iff] at hV
     obtain ⟨X,hX,rfl⟩:=hV
     obtain ⟨sm,hsm,_,e2⟩:=sumOf m X hX
     rw [Nat.zero_add]
     exact hcl2 m hm sm hsm (by unfold confl;rw [jS (x:=t) (a:=s.wb) (b:=sm.rb++sm.wb) (by rw [hw2];exact htW) (by rw [e2];simp only [List.mem_append];exact .inr htV)];simp)
   rw [e]
   exact hr'
theorem RelW.drew {bl:Nat→Option Ob} {ρ:Env} {M:Mem} {w:World} (h:RelW C bl ρ M w) (n:Nat):RelW C bl ρ M { w with drawn:=n } :=
 ⟨fun k o hk=>(h.inv k o hk).keep (Mem.le_refl _) (fun _ _=>⟨rfl,fun _=>rfl,rfl⟩),h.dist,h.priv,⟨h.mem.cell,h.mem.obj,h.mem.junk⟩,h.base,h.fresh,⟨h.kept.os,h.kept.tape,h.kept.output,h.kept.size,h.kept.block⟩,h.names,h.junkP⟩
def OkD (P:Program) (C:Ctx) (ops:Array Oper) (l:List Oper) (ss0:List Sum) (Q:AState→Prop) (st:AState):Prop :=
 ∃ ss Ws st',Chain P C ops l ss Ws st.F (AState.F st')∧confB ops (ss0.reverse++ss)=true∧Q st'
theorem aY {ops:Array Oper} {ss0:List Sum} {Q:AState→Prop} {st:AState} (hc:confB ops ss0.reverse=true) (h:Q st):OkD P C ops [] ss0 Q st :=
 ⟨[],[],st,rfl,by simpa using hc,h⟩
theorem OkD.step {ops:Array Oper} {o:Oper} {rest:List Oper} {ss0:List Sum} {Q:AState→Prop} {st:AState} {s:Sum} {Ws:List (Nat×AV)} {Wb:List (Nat×Ob)} {nx':Nat} (ht:TriL P C ops o s Ws Wb st.F)
  (h:OkD P C ops rest (s :: ss0) Q ⟨Ws++st.sl,Wb++st.bl,nx'⟩):OkD P C ops (o :: rest) ss0 Q st:=by
 obtain ⟨ss,L,st',h1,h2,h3⟩:=h
 refine ⟨s :: ss,(Ws,Wb) :: L,st',⟨ht,?_⟩,by simpa using h2,h3⟩
 have:AState.F ⟨Ws++st.sl,Wb++st.bl,nx'⟩=st.F.upd Ws Wb:=by simp only [AState.F,FS.upd,jv]
 rw [this] at h1
 exact h1
section steps
variable {ops:Array Oper} {o:Oper} {rest:List Oper} {ss0:List Sum} {Q:AState→Prop} {sl:List (Nat×AV)} {bl:List (Nat×Ob)} {nx d j:Nat} {a:AV} {b:Ob} {s:Sum}
theorem av (ht:TriL P C ops o s [(d,a)] [] ⟨look sl,look bl⟩) (h:OkD P C ops rest (s :: ss0) Q ⟨(d,a) :: sl,bl,nx⟩):OkD P C ops (o :: rest) ss0 Q ⟨sl,bl,nx⟩:=OkD.step (st:=⟨sl,bl,nx⟩) (nx':=nx) ht h
theorem gY (nx':Nat) (ht:TriL P C ops o s [(d,a)] [(j,b)] ⟨look sl,look bl⟩) (h:OkD P C ops rest (s :: ss0) Q ⟨(d,a) :: sl,(j,b) :: bl,nx'⟩):OkD P C ops (o :: rest) ss0 Q ⟨sl,bl,nx⟩:=OkD.step (st:=⟨sl,bl,nx⟩) (nx':=nx') ht h
theorem iz (ht:TriL P C ops o s [] [(j,b)] ⟨look sl,look bl⟩) (h:OkD P C ops rest (s :: ss0) Q ⟨sl,(j,b) :: bl,nx⟩):OkD P C ops (o :: rest) ss0 Q ⟨sl,bl,nx⟩:=OkD.step (st:=⟨sl,bl,nx⟩) (nx':=nx) ht h
end steps
theorem aF {id:Nat} {l:List Oper} {Q:Exit→AState→Prop} {st:AState} (hm:P.follows .mixedOrders=true) (h:OkD P C l.toArray l [] (Q .normal) st):Ok P C (.region id l.toArray true) Q st:=by
 intro ρ M a w hr
 obtain ⟨ss,Ws,st',h1,h2,h3⟩:=h
 refine wpIn_region_any hm ?_
 refine wC (P:=P) (C:=C) (ss:=ss) (Ws:=Ws) (F:=st.F) (F':=st'.F) (by simpa using h1) (by simpa using h2) (fun ρ' M' a' w' hr'=>⟨st',ρ',M',hr',h3⟩) _ _ (by simp) ?_ ?_ ρ M a _ ?_
 ·rw [List.countP_eq_length.2]
  ·simp
  ·intro k hk
   have hk':k<l.length:=by simpa using hk
   simp [hk']
 ·intro j o hj hl
  exfalso
  have hj':j<l.length:=by simpa using (Array.getElem?_eq_some_iff.1 hj).1
  simp [hj'] at hl
 ·have e:FSfold (fun k=>(Array.replicate l.toArray.size false).getD k false) Ws st.F=st.F:=by
   have hoff:(fun k=>(Array.replicate l.toArray.size false).getD k false)=(fun _=>false):=by
    funext k
    rcases Nat.lt_or_ge k l.length with h | h
    ·simp [h]
    ·simp [h]
   have nil:∀ {α:Type} (L:List (List (Nat×α))) (k:Nat) (g:Nat→Option α),fold (fun _=>false) k L g=g:=by
    intro α L;induction L with
    | nil=>intro _ _;rfl
    | cons _ _ ih=>intro k g;simp only [fold,Bool.false_eq_true,if_false];exact ih _ _
   unfold FSfold
   rw [hoff,nil,nil]
  rw [e]
  intro ρ' ha
  have h0:=hr ρ' ha
  exact ⟨h0.defers,h0.size,h0.slots,h0.heap.drew _⟩
end Go.E2
end
section
namespace Go.E2
variable {P:Program} {C:Ctx} {F:FS}
def Cell.norm:Cell→Cell
 | .tl _ l=>.d (.sl l)
 | .d (.v (.slice none 0 0))=>.d (.sl [])
 | x=>x
def A1.norm:A1→A1
 | .c x=>.c x.norm
 | .agg cs=>.agg (cs.map Cell.norm)
def AV.norm:AV→AV
 | .s x=>.s x.norm
 | .gd g x=>.gd g x.norm
 | .tup xs=>.tup (xs.map A1.norm)
theorem Cell.norm_rep {ρ:Env} {M:Mem} {c:Cell} {v:Value} (h:c.rep ρ M v):c.norm.rep ρ M v:=by
 unfold Cell.norm
 split
 ·exact h.2
 ·rw [bz h];exact Rep.nil
 ·exact h
theorem Reps.norm {ρ:Env} {M:Mem}:∀ {cs:List Cell} {vs:List Value},Reps ρ M cs vs→Reps ρ M (cs.map Cell.norm) vs
 | [],[],_=>trivial
 | _ :: _,_ :: _,h=>⟨Cell.norm_rep h.1,Reps.norm h.2⟩
 | [],_ :: _,h=>h.elim
 | _ :: _,[],h=>h.elim
theorem A1.norm_rep {ρ:Env} {M:Mem} {x:A1} {v:Value} (h:x.rep ρ M v):x.norm.rep ρ M v:=by
 cases x with
 | c y=>exact Cell.norm_rep h
 | agg cs=>obtain ⟨arr,rfl,h2⟩:=h;exact ⟨arr,rfl,h2.norm⟩
theorem A1.reps_norm {ρ:Env} {M:Mem}:∀ {xs:List A1} {vs:List Value},A1.reps ρ M xs vs→A1.reps ρ M (xs.map A1.norm) vs
 | [],[],_=>trivial
 | _ :: _,_ :: _,h=>⟨A1.norm_rep h.1,A1.reps_norm h.2⟩
 | [],_ :: _,h=>h.elim
 | _ :: _,[],h=>h.elim
theorem AV.norm_rep {ρ:Env} {M:Mem} {x:AV} {v:Value} (h:x.rep ρ M v):x.norm.rep ρ M v:=by
 cases x with
 | s y=>exact A1.norm_rep h
 | gd g y=>cases g with
  | true=>exact A1.norm_rep (x:=y) h
  | false=>exact h
 | tup xs=>obtain ⟨arr,rfl,h2⟩:=h;exact ⟨arr,rfl,A1.reps_norm h2⟩
def resOne (P:Program) (F:FS):ResultVar→Option A1
 | .tmp t=>match F.sl t with
  | some (.s x)=>some x
  | _=>none
 | .cell t ty=>match F.sl t with
  | some (.s (.c (.loc j off)))=>match F.bl j with
   | some (.blk cs _)=>takeA P ty cs off
   | _=>none
  | _=>none
def resAll (P:Program) (F:FS):List ResultVar→Option (List A1)
 | []=>some []
 | r :: rs=>match resOne P F r with
  | some x=>match resAll P F rs with
   | some l=>some (x :: l)
   | none=>none
  | none=>none
def resVal (P:Program) (F:FS) (rs:List ResultVar):Option AV :=
 match resAll P F rs with
 | some [x]=>some (.s x)
 | some l=>some (.tup l)
 | none=>none
def resSem (tmps:Array Value):ResultVar→Sem Value
 | .tmp t=>pure (tmps.getD t undef)
 | .cell a t=>do loadVar t (← asAddr (tmps.getD a undef))
theorem t4 {ρ:Env} {M:Mem} {a:Act} {w:World} (hr:Rel0 C F ρ M a w) {r:ResultVar} {x:A1} (h:resOne P F r=some x):∃ u,(resSem a.tmps r).run P w=.ok u w∧x.rep ρ M u:=by
 cases r with
 | tmp t =>
  simp only [resOne] at h
  split at h
  ·rename_i y hy;cases h;exact ⟨_,rfl,hr.slots _ _ hy⟩
  ·cases h
 | cell t ty =>
  simp only [resOne] at h
  split at h
  ·rename_i j off hy
   split at h
   ·rename_i cs ty' hb
    have e:a.tmps.getD t undef=ptr ρ j off:=hr.slots _ _ hy
    obtain ⟨⟨arr,g1,g2⟩,_⟩:=hr.heap.inv _ _ hb
    obtain ⟨u,q1,q2⟩:=kQ (P:=P) (w:=w) (b:=blockOf (ρ j)) (o0:=0) (fun i v hv=>by
     rw [Nat.zero_add]
     have hv':arr[i]? = some v:=by simpa using hv
     simp only [World.cell?,g1];simpa using hv') g2 h
    rw [Nat.zero_add] at q1
    refine ⟨u,?_,q2⟩
    simp only [resSem,e]
    exact q1
   ·cases h
  ·cases h
theorem nQ {ρ:Env} {M:Mem} {a:Act} {w:World} (hr:Rel0 C F ρ M a w):∀ (rs:List ResultVar) (l:List A1),resAll P F rs=some l →
  ∃ us,(List.mapM (resSem a.tmps) rs).run P w=.ok us w∧A1.reps ρ M l us
 | [],l,h=>by simp [resAll] at h;subst h;exact ⟨[],rfl,trivial⟩
 | r :: rs,l,h=>by
  simp only [resAll] at h
  split at h
  ·rename_i x hx
   split at h
   ·rename_i l' hl'
    cases h
    obtain ⟨u,g1,g2⟩:=t4 hr hx
    obtain ⟨us,q1,q2⟩:=nQ hr rs l' hl'
    refine ⟨u :: us,?_,g2,q2⟩
    rw [List.mapM_cons,ag g1,ag q1]
    rfl
   ·cases h
  ·cases h
theorem tZ (fn:Func) (tmps:Array Value):results fn tmps=(do let vs ← fn.results.mapM (resSem tmps);pure (if h:vs.size=1 then vs[0] else .tuple vs)):=by
 unfold results
 have:(fun (x:ResultVar)=>match x with | .tmp t=>pure (tmps.getD t undef) | .cell a t=>(do loadVar t (← asAddr (tmps.getD a undef)):Sem Value))=resSem tmps:=by
  funext x;cases x <;> rfl
 rw [← this]
 rfl
theorem A1.reps_len {ρ:Env} {M:Mem}:∀ {xs:List A1} {vs:List Value},A1.reps ρ M xs vs→vs.length=xs.length
 | [],[],_=>rfl
 | _ :: _,_ :: _,h=>by simp [A1.reps_len h.2]
 | [],_ :: _,h=>h.elim
 | _ :: _,[],h=>h.elim
theorem nP {ρ:Env} {M:Mem} {a:Act} {w:World} (hr:Rel0 C F ρ M a w) {fn:Func} {v:AV} (h:resVal P F fn.results.toList=some v):∃ u,(results fn a.tmps).run P w=.ok u w∧v.rep ρ M u:=by
 unfold resVal at h
 rw [tZ]
 have key:∀ l,resAll P F fn.results.toList=some l→∃ us,(fn.results.mapM (resSem a.tmps)).run P w=Result.ok us.toArray w∧A1.reps ρ M l us:=by
  intro l hl
  obtain ⟨us,g1,g2⟩:=nQ hr fn.results.toList l hl
  refine ⟨us,?_,g2⟩
  rw [← Array.toArray_toList (xs:=fn.results),List.mapM_toArray,Sem.run_map,g1];rfl
 split at h
 ·rename_i x hx
  cases h
  obtain ⟨us,g1,g2⟩:=key _ hx
  rw [ag g1]
  match us,g2 with
  | [u],g2=>exact ⟨u,rfl,g2.1⟩
  | [],g2=>exact g2.elim
  | _ :: _ :: _,g2=>exact g2.2.elim
 ·rename_i l hne hl
  cases h
  obtain ⟨us,g1,g2⟩:=key _ hl
  rw [ag g1]
  have hlen:us.toArray.size≠1:=by
   intro h1
   have h2:=A1.reps_len g2
   have h3:us.length=1:=by simpa using h1
   match l,hne,h2 with
   | [x],hne,_=>exact hne x rfl
   | [],_,h2=>rw [h3] at h2;simp at h2
   | _ :: _ :: _,_,h2=>rw [h3] at h2;simp at h2
  refine ⟨.tuple us.toArray,?_,_,rfl,g2⟩
  simp only [hlen,dite_false]
  rfl
 ·cases h
class HasTab (P:Program) (C:Ctx):Prop where
 tab:Tab P C.M0
def ctxOf (w:World) (n:Nat) (g:Nat→Prop) (M:Mem) (bl:List (Nat×Ob)) (ρ:Env) (ro:Option Nat:=none):Ctx:=⟨w,n,g,M,fun j=>look bl j≠none,ρ,ro⟩
def Con (P:Program) (f:FuncId) (args:List A1) (bl:List (Nat×Ob)) (res:AV) (bl':List (Nat×Ob)):Prop :=
 ∀ ρ M w g vs,Tab P M→(∀ ρ',Agree (look bl) ρ ρ'→RelW (ctxOf w 0 g M bl ρ) (look bl) ρ' M w∧A1.reps ρ' M args vs)→Calls P f vs.toArray w fun e w'=>∃ u ρ1 M',e=.returned u ∧
  ∀ ρ',Agree (look bl') ρ1 ρ'→res.rep ρ' M' u∧RelW (ctxOf w 0 g M bl ρ) (look bl') ρ' M' w'
def allObj (f:Nat→Option Ob):List (Nat×Ob)→Prop
 | []=>True
 | (k,.dead) :: r=>(f k≠none)∧allObj f r
 | (k,v) :: r=>f k=some v∧allObj f r
theorem ns {f:Nat→Option Ob}:∀ {l:List (Nat×Ob)},allObj f l→∀ s v,look l s=some v→f s≠none∧(v=.dead∨f s=some v)
 | [],_,s,v,h=>by cases h
 | (k,u) :: r,h,s,v,hl=>by
  have hr:allObj f r:=by cases u <;> exact h.2
  rw [au] at hl
  split at hl
  ·rename_i e
   subst e
   cases hl
   cases u with
   | dead=>exact ⟨h.1,.inl rfl⟩
   | _=>exact ⟨by rw [h.1];simp,.inr h.1⟩
  ·exact ns hr s v hl
def retQ (P:Program) (rs:List ResultVar) (res:AV) (bl':List (Nat×Ob)):Exit→AState→Prop
 | .ret,st=>∃ v,resVal P st.F rs=some v∧(v=res∨v.norm=res)∧allObj (look st.bl) bl'
 | .normal,st=>∃ v,resVal P st.F rs=some v∧(v=res∨v.norm=res)∧allObj (look st.bl) bl'
 | _,_=>False
def startA:Nat→List A1→List (Nat×AV)
 | _,[]=>[]
 | k,v :: r=>(k,.s v) :: startA (k+1) r
theorem kg {ρ:Env} {M:Mem}:∀ (args:List A1) (vs:List Value) (k s:Nat) (v:AV),A1.reps ρ M args vs→look (startA k args) s=some v→∃ u,k≤s∧vs[s - k]? = some u∧v.rep ρ M u
 | [],_,k,s,v,_,h=>by simp [startA,look] at h
 | x :: r,[],_,_,_,hr,_=>hr.elim
 | x :: r,u :: us,k,s,v,hr,h=>by
  simp only [startA] at h
  rw [au] at h
  split at h
  ·rename_i e
   subst e
   cases h
   exact ⟨u,Nat.le_refl _,by simp,hr.1⟩
  ·rename_i e
   obtain ⟨u',h1,h2,h3⟩:=kg r us (k+1) s v hr.2 h
   refine ⟨u',by omega,?_,h3⟩
   have:s - k=(s - (k+1))+1:=by omega
   rw [this];simpa using h2
theorem RelW.ctx {w0:World} {n n':Nat} {g:Nat→Prop} {M0:Mem} {bl0:List (Nat×Ob)} {ρ0:Env} {bl:Nat→Option Ob} {ρ:Env} {M:Mem} {w:World} (h:RelW (ctxOf w0 n g M0 bl0 ρ0) bl ρ M w):RelW (ctxOf w0 n' g M0 bl0 ρ0) bl ρ M w:=⟨h.inv,h.dist,h.priv,h.mem,h.base,h.fresh,h.kept,h.names,h.junkP⟩
def domB (l':List (Nat×Ob)):List (Nat×Ob)→Bool
 | []=>true
 | (k,_) :: r=>match look l' k with
  | some _=>domB l' r
  | none=>false
theorem fQ {l':List (Nat×Ob)}:∀ {l:List (Nat×Ob)},domB l' l=true→∀ s,look l s≠none→look l' s≠none
 | [],_,s,h=>absurd rfl h
 | (k,u) :: r,hd,s,h=>by
  unfold domB at hd
  split at hd
  ·rename_i v hv
   rw [au] at h
   by_cases e:k=s
   ·subst e;rw [hv];simp
   ·rw [if_neg e] at h;exact fQ hd s h
  ·cases hd
def Cell.inB (bl:List (Nat×Ob)):Cell→Bool
 | .loc j _=>match look bl j with | some _=>true | none=>false
 | .tl j _=>match look bl j with | some _=>true | none=>false
 | .own j=>match look bl j with | some _=>true | none=>false
 | .vl j _=>match look bl j with | some _=>true | none=>false
 | .fn _ caps=>caps.all fun p=>match look bl p.1 with | some _=>true | none=>false
 | _=>true
def cellsIn (bl:List (Nat×Ob)):List Cell→Bool
 | []=>true
 | c :: r=>match c.inB bl with
  | true=>cellsIn bl r
  | false=>false
def A1.inB (bl:List (Nat×Ob)):A1→Bool
 | .c x=>x.inB bl
 | .agg cs=>cellsIn bl cs
def mo (bl:List (Nat×Ob)):List A1→Bool
 | []=>true
 | c :: r=>match c.inB bl with
  | true=>mo bl r
  | false=>false
def AV.inB (bl:List (Nat×Ob)):AV→Bool
 | .s x=>x.inB bl
 | .gd _ x=>x.inB bl
 | .tup xs=>mo bl xs
def blIn (bl:List (Nat×Ob)):List (Nat×Ob)→Bool
 | []=>true
 | (_,.blk cs _) :: r=>match cellsIn bl cs with
  | true=>blIn bl r
  | false=>false
 | _ :: r=>blIn bl r
def slIn (bl:List (Nat×Ob)):List (Nat×AV)→Bool
 | []=>true
 | (_,v) :: r=>match v.inB bl with
  | true=>slIn bl r
  | false=>false
section
variable {bl:List (Nat×Ob)} {ρ ρ':Env} {M:Mem}
theorem inName (ha:Agree (look bl) ρ ρ') {j:Nat} (h:(match look bl j with | some _=>true | none=>false)=true):ρ' j=ρ j:=by
 split at h
 ·rename_i o ho;exact ha j (by rw [ho];simp)
 ·cases h
theorem Cell.inB_rep (ha:Agree (look bl) ρ ρ') {c:Cell} (h:c.inB bl=true) {v:Value} (hr:c.rep ρ M v):c.rep ρ' M v:=by
 cases c with
 | d x=>exact hr
 | loc j off=>have e:=inName ha h;show v=ptr ρ' j off;unfold ptr;rw [e];exact hr
 | pt row=>exact hr
 | tl j l=>have e:=inName ha h;exact ⟨by rw [e];exact hr.1,hr.2⟩
 | own j=>have e:=inName ha h;show v=ρ' j;rw [e];exact hr
 | vl j off=>have e:=inName ha h;show v=vptr ρ' j off;unfold vptr;rw [e];exact hr
 | fn f caps =>
  have:(caps.map fun p=>ptr ρ' p.1 p.2)=caps.map fun p=>ptr ρ p.1 p.2:=by
   apply List.map_congr_left
   intro p hp
   have e:=inName ha (List.all_eq_true.1 h p hp)
   unfold ptr;rw [e]
  show v=_
  rw [this];exact hr
theorem kC (ha:Agree (look bl) ρ ρ'):∀ {cs:List Cell} {vs:List Value},cellsIn bl cs=true→Reps ρ M cs vs→Reps ρ' M cs vs
 | [],[],_,_=>trivial
 | [],_ :: _,_,hr=>hr.elim
 | _ :: _,[],_,hr=>hr.elim
 | c :: r,v :: vs,h,hr=>by
  simp only [cellsIn] at h
  split at h
  ·rename_i hc;exact ⟨Cell.inB_rep ha hc hr.1,kC ha h hr.2⟩
  ·cases h
theorem A1.inB_rep (ha:Agree (look bl) ρ ρ') {x:A1} (h:x.inB bl=true) {v:Value} (hr:x.rep ρ M v):x.rep ρ' M v:=by
 cases x with
 | c y=>exact Cell.inB_rep ha h hr
 | agg cs=>obtain ⟨arr,rfl,h2⟩:=hr;exact ⟨arr,rfl,kC ha h h2⟩
theorem jH (ha:Agree (look bl) ρ ρ'):∀ {xs:List A1} {vs:List Value},mo bl xs=true→A1.reps ρ M xs vs→A1.reps ρ' M xs vs
 | [],[],_,_=>trivial
 | [],_ :: _,_,hr=>hr.elim
 | _ :: _,[],_,hr=>hr.elim
 | c :: r,v :: vs,h,hr=>by
  simp only [mo] at h
  split at h
  ·rename_i hc;exact ⟨A1.inB_rep ha hc hr.1,jH ha h hr.2⟩
  ·cases h
theorem AV.inB_rep (ha:Agree (look bl) ρ ρ') {x:AV} (h:x.inB bl=true) {v:Value} (hr:x.rep ρ M v):x.rep ρ' M v:=by
 cases x with
 | s y=>exact A1.inB_rep ha h hr
 | gd g y=>cases g with
  | true=>exact A1.inB_rep (x:=y) ha h hr
  | false=>exact hr
 | tup xs=>obtain ⟨arr,rfl,h2⟩:=hr;exact ⟨arr,rfl,jH ha h h2⟩
theorem pP:∀ {sl:List (Nat×AV)},slIn bl sl=true→∀ s v,look sl s=some v→v.inB bl=true
 | [],_,s,v,h=>by cases h
 | (k,u) :: r,h,s,v,hl=>by
  simp only [slIn] at h
  split at h
  ·rename_i hu
   rw [au] at hl
   split at hl
   ·cases hl;exact hu
   ·exact pP h s v hl
  ·cases h
theorem qJ        : ∀ {l : List (Nat × Ob)}, blIn bl l = true → ∀ j cs ty, look l j = some (.blk cs ty) → cellsIn bl cs = true
  | [], _, j, cs, ty, h => by cases h
  | (k, u) :: r, h, j, cs, ty, hl => by
    have hr : blIn bl r = true := by
      cases u with
      | blk cs' ty' => simp only [blIn] at h; split at h
                       · exact h
                       · cases h
      | _ => exact h
    rw [au       ] at hl
    split at hl
    · cases hl
      simp only [blIn] at h
      split at h
      · rename_i hc; exact hc
      · cases h
    · exact qJ        hr j cs ty hl
theorem RelW.scoped {C:Ctx} {bl0:Nat→Option Ob} {w:World} (h:RelW C bl0 ρ M w) (hb:∀ s v,look bl s=some v→v=.dead∨bl0 s=some v) (hs:blIn bl bl=true) (hK:∀ j,C.K j→look bl j≠none) (ha:Agree (look bl) ρ ρ'):RelW C (look bl) ρ' M w:=by
 have h1:=h.less hb
 have e:∀ j ob,look bl j=some ob→ρ' j=ρ j:=fun j ob hj=>ha j (by rw [hj];simp)
 refine ⟨fun j ob hj=>?_,fun i j x y b hi hj hx hy=>?_,fun j ob b hj ho=>?_,h1.mem,h1.base,h1.fresh,h1.kept,fun j hj=>?_,fun b s hj=>⟨(h1.junkP b s hj).1,fun j ob hk ho=>?_⟩⟩
 ·rw [e j ob hj]
  have:=h1.inv j ob hj
  cases ob with
  | blk cs ty =>
   obtain ⟨⟨arr,g1,g2⟩,g3⟩:=this
   exact ⟨⟨arr,g1,kC ha (qJ hs j cs ty hj) g2⟩,g3⟩
  | _=>exact this
 ·rw [e i x hi] at hx
  rw [e j y hj] at hy
  exact h1.dist i j x y b hi hj hx hy
 ·rw [e j ob hj] at ho;exact h1.priv j ob b hj ho
 ·rw [ha j (hK j hj)];exact h1.names j hj
 ·rw [e j ob hk] at ho;exact (h1.junkP b s hj).2 j ob hk ho
end
theorem ks {fn:Func} {tmps:Array Value} {R:Ending→World→Prop} {bl:Nat→Option Ob} {S:Env→Prop}:∀ (ds:List Deferred) (M:Mem) (w:World),Marks C M ds→M.sim M→(∀ ρ,S ρ→RelW C bl ρ M w)→(∃ ρ,S ρ) →
  (∀ M' w',M.sim M'→(∀ ρ,S ρ→RelW C bl ρ M' w')→LeavesIn (FR none) 0 P fn tmps R [] .returning w')→LeavesInM (FR none) 0 P fn tmps R ds .returning w
 | [],M,w,_,hM,hr,_,hk=>hk M w hM hr
 | d :: ds,M,w,hm,_,hr,hS,hk=>by
  obtain ⟨D,rfl,h2,h3,h4⟩:=hm.all d (by simp)
  obtain ⟨ρ0,hρ⟩:=hS
  have hw:=((hr ρ0 hρ).mem.obj D _ h2).1
  refine ⟨(fun h=>by cases h),.inl ⟨D,_,rfl,run_takeDeferred hw,?_⟩⟩
  have hsim:M.sim (M.setO D (.deferred none)):=me h2 trivial
  refine ks ds (M.setO D (.deferred none)) _ ⟨(List.nodup_cons.1 hm.nd).2,fun d' hd'=>?_⟩ ⟨fun _ _ _ h=>h,fun _ _ _ h=>h,fun _ _ h=>h⟩ (fun ρ h=>(hr ρ h).setO h2 trivial rfl h3 h4) ⟨ρ0,hρ⟩ (fun M' w' g1 g2=>hk M' w' ⟨fun b o v h=>g1.cell _ _ _ (hsim.cell _ _ _ h),fun b es c h=>g1.obj _ _ _ (hsim.obj _ _ _ h),fun b s h=>g1.junk _ _ (hsim.junk _ _ h)⟩ g2)
  obtain ⟨D',rfl,k2,k3,k4⟩:=hm.all d' (by simp [hd'])
  refine ⟨D',rfl,?_,k3,k4⟩
  have hne:D'≠D:=fun e=>(List.nodup_cons.1 hm.nd).1 (e ▸ hd')
  rw [cb hne]
  exact k2
theorem ap        {f : FuncId} {fn : Func} {c : Code} {args : List A1} {bl : List (Nat × Ob)} {res : AV} {bl' : List (Nat × Ob)} (n nx : Nat) (rs : List ResultVar) (sl : List (Nat × AV))
    (hf : P.funcs[f]? = some fn) (hb : fn.body = some c) (hn : fn.ntmps = n) (hrs : fn.results.toList = rs) (hl : Nat.ble args.length n = true) (hsl : startA 0 args = sl) (hdom : domB bl' bl = true) (hsc : blIn bl' bl' = true) (hsr : res.inB bl' = true)
    (h : ∀ w g M ρ, HasTab P (ctxOf w n g M bl ρ) → Ok P (ctxOf w n g M bl ρ) c (retQ P rs res bl') ⟨sl, bl, nx⟩) : Con P f args bl res bl' := by
  subst hn hrs hsl
  intro ρ M w g vs hT hrel
  have hlen := A1.reps_len (hrel ρ (Agree.refl _ _)).2
  have hle := Nat.le_of_ble_eq_true hl
  have hr : ∀ ρ', Agree (look bl) ρ ρ' → Rel0 (ctxOf w fn.ntmps g M bl ρ) (AState.F ⟨startA 0 args, bl, nx⟩) ρ' M { tmps := vs.toArray ++ Array.replicate (fn.ntmps - vs.toArray.size) undef, defers := [] } w := by
    intro ρ' ha
    obtain ⟨h1, h2⟩ := hrel ρ' ha
    refine ⟨Marks.nil, by simp [ctxOf]; omega, fun s v hv => ?_, h1.ctx⟩
    obtain ⟨u, _, q2, q3⟩ := kg          args vs 0 s v h2 hv
    simp only [Nat.sub_zero] at q2
    have hs : s < vs.length := (List.getElem?_eq_some_iff.1 q2).1
    rw [Array.getD_eq_getD_getElem?, Array.getElem?_append_left (by simpa using hs)]
    simpa [q2] using q3
  have h0 : Code.wpIn (FR none) 0 P c _ _ w := h w g M ρ ⟨hT⟩ _ _ _ _ hr
  refine FR.calls (ro := none) (n := 0) |>.1 (callsIn_of_wp_marks hf hb trivial (wpIn_mono h0 ?_))
  rintro e a' w' ⟨st', ρ', M', hr', hq⟩
  have fin : ∀ v, resVal P st'.F fn.results.toList = some v → (v = res ∨ v.norm = res) → allObj (look st'.bl) bl' → LeavesInM (FR none) 0 P fn a'.tmps (fun e w' => ∃ u' ρ1 M', e = Ending.returned u' ∧
      ∀ ρ'', Agree (look bl') ρ1 ρ'' → res.rep ρ'' M' u' ∧ RelW (ctxOf w 0 g M bl ρ) (look bl') ρ'' M' w') a'.defers .returning w' := by
    intro v hv hres hobj
    refine ks          (C := ctxOf w fn.ntmps g M bl ρ) (bl := st'.F.bl) (S := fun ρ'' => Agree st'.F.bl ρ' ρ'') a'.defers M' w' hr'.at.defers ⟨fun _ _ _ h => h, fun _ _ _ h => h, fun _ _ h => h⟩ (fun ρ'' ha => (hr' ρ'' ha).heap) ⟨ρ', Agree.refl _ _⟩ (fun M2 w2 hs h2 => ?_)
    have hR : Rel0 (ctxOf w fn.ntmps g M bl ρ) st'.F ρ' M2 { a' with defers := [] } w2 := ⟨Marks.nil, hr'.at.size, fun s x hx => AV.rep.monoS hs (hr'.at.slots s x hx), h2 ρ' (Agree.refl _ _)⟩
    obtain ⟨u, g1, g2⟩ := nP         hR hv
    refine ⟨u, g1, u, ρ', M2, rfl, fun ρ'' ha => ⟨?_, ?_⟩⟩
    · refine AV.inB_rep ha hsr ?_
      rcases hres with rfl | rfl
      · exact g2
      · exact AV.norm_rep g2
    · exact (hR.heap.scoped (fun s v hv => (ns          hobj s v hv).2) hsc (fun j hj => fQ        hdom j hj) ha).ctx
  cases e with
  | ret => obtain ⟨v, h1, h2, h3⟩ := hq; exact fin v h1 h2 h3
  | normal => obtain ⟨v, h1, h2, h3⟩ := hq; exact fin v h1 h2 h3
  | _ => exact hq.elim
end Go.E2
end
section
namespace Go.E2
variable {P:Program} {C:Ctx} {F:FS} {ops:Array Oper} {dst:Nat} {op:Op} {ty:TypeId} {pos:String} {after:Array Edge}
def Cell.ren (σ:Nat→Nat):Cell→Cell
 | .loc j off=>.loc (σ j) off
 | .tl j l=>.tl (σ j) l
 | .own j=>.own (σ j)
 | .vl j off=>.vl (σ j) off
 | .fn f caps=>.fn f (caps.map fun p=>(σ p.1,p.2))
 | x=>x
def A1.ren (σ:Nat→Nat):A1→A1
 | .c x=>.c (x.ren σ)
 | .agg cs=>.agg (cs.map (Cell.ren σ))
def AV.ren (σ:Nat→Nat):AV→AV
 | .s x=>.s (x.ren σ)
 | .gd g x=>.gd g (x.ren σ)
 | .tup xs=>.tup (xs.map (A1.ren σ))
def Ob.ren (σ:Nat→Nat):Ob→Ob
 | .blk cs ty=>.blk (cs.map (Cell.ren σ)) ty
 | x=>x
section
variable {σ:Nat→Nat} {ρ:Env} {M:Mem}
theorem Cell.ren_rep {c:Cell} {v:Value}:(c.ren σ).rep ρ M v↔c.rep (fun i=>ρ (σ i)) M v:=by
 cases c with
 | fn f caps=>simp only [Cell.ren,Cell.rep,List.map_map,Function.comp_def,ptr]
 | _=>exact Iff.rfl
theorem Reps.ren:∀ {cs:List Cell} {vs:List Value},Reps ρ M (cs.map (Cell.ren σ)) vs↔Reps (fun i=>ρ (σ i)) M cs vs
 | [],[]=>Iff.rfl
 | [],_ :: _=>Iff.rfl
 | _ :: _,[]=>Iff.rfl
 | c :: cs,v :: vs=>by
  show (Cell.ren σ c).rep ρ M v∧_↔_∧_
  rw [Cell.ren_rep,Reps.ren]
theorem A1.ren_rep {x:A1} {v:Value}:(x.ren σ).rep ρ M v↔x.rep (fun i=>ρ (σ i)) M v:=by
 cases x with
 | c y=>exact Cell.ren_rep
 | agg cs=>exact ⟨fun ⟨arr,e,h⟩=>⟨arr,e,Reps.ren.1 h⟩,fun ⟨arr,e,h⟩=>⟨arr,e,Reps.ren.2 h⟩⟩
theorem A1.reps_ren:∀ {xs:List A1} {vs:List Value},A1.reps ρ M (xs.map (A1.ren σ)) vs↔A1.reps (fun i=>ρ (σ i)) M xs vs
 | [],[]=>Iff.rfl
 | [],_ :: _=>Iff.rfl
 | _ :: _,[]=>Iff.rfl
 | x :: xs,v :: vs=>by
  show (A1.ren σ x).rep ρ M v∧_↔_∧_
  rw [A1.ren_rep,A1.reps_ren]
theorem AV.ren_rep {x:AV} {v:Value}:(x.ren σ).rep ρ M v↔x.rep (fun i=>ρ (σ i)) M v:=by
 cases x with
 | s y=>exact A1.ren_rep
 | gd g y=>cases g with
  | true=>exact A1.ren_rep (x:=y)
  | false=>exact Iff.rfl
 | tup xs=>exact ⟨fun ⟨arr,e,h⟩=>⟨arr,e,A1.reps_ren.1 h⟩,fun ⟨arr,e,h⟩=>⟨arr,e,A1.reps_ren.2 h⟩⟩
theorem lN {ob:Ob} {w:World} {v:Value}:Inv1 ρ M w (ob.ren σ) v↔Inv1 (fun i=>ρ (σ i)) M w ob v:=by
 cases ob with
 | blk cs ty=>exact ⟨fun ⟨⟨arr,e,h⟩,h2⟩=>⟨⟨arr,e,Reps.ren.1 h⟩,h2⟩,fun ⟨⟨arr,e,h⟩,h2⟩=>⟨⟨arr,e,Reps.ren.2 h⟩,h2⟩⟩
 | _=>exact Iff.rfl
theorem bG {ob:Ob} {v:Value}:(ob.ren σ).blkOf v=ob.blkOf v:=by cases ob <;> rfl
end
def renBl (σ:Nat→Nat):List (Nat×Ob)→List (Nat×Ob)
 | []=>[]
 | (i,ob) :: r=>(σ i,ob.ren σ) :: renBl σ r
def apart (σ:Nat→Nat):List (Nat×Ob)→Bool
 | []=>true
 | (i,_) :: r=>(r.all fun p=>!Nat.beq (σ i) (σ p.1))&&apart σ r
theorem iG {σ:Nat→Nat}:∀ {l:List (Nat×Ob)},apart σ l=true→∀ i ob,look l i=some ob→look (renBl σ l) (σ i)=some (ob.ren σ)
 | [],_,i,ob,h=>by cases h
 | (k,o) :: r,ha,i,ob,h=>by
  simp only [apart,Bool.and_eq_true,List.all_eq_true,Bool.not_eq_true'] at ha
  rw [au] at h
  simp only [renBl]
  rw [au]
  by_cases e:k=i
  ·subst e;rw [if_pos rfl] at h;cases h;rw [if_pos rfl]
  ·rw [if_neg e] at h
   have hm:∃ o',(i,o')∈r:=by
    clear ha e
    induction r with
    | nil=>cases h
    | cons p q ih =>
     obtain ⟨k',o'⟩:=p
     rw [au] at h
     split at h
     ·rename_i e';subst e';exact ⟨o',by simp⟩
     ·obtain ⟨o'',h''⟩:=ih h;exact ⟨o'',by simp [h'']⟩
   obtain ⟨o',hm'⟩:=hm
   have hne:=ha.1 (i,o') hm'
   rw [if_neg (fun e'=>by rw [e'] at hne;simp at hne)]
   exact iG ha.2 i ob h
theorem p8 {σ:Nat→Nat}:∀ {l:List (Nat×Ob)} {k:Nat} {ob:Ob},look (renBl σ l) k=some ob→∃ i ob',look l i≠none∧k=σ i∧ob=ob'.ren σ∧(apart σ l=true→look l i=some ob')
 | [],k,ob,h=>by cases h
 | (i,o) :: r,k,ob,h=>by
  simp only [renBl] at h
  rw [au] at h
  split at h
  ·rename_i e
   subst e
   cases h
   exact ⟨i,o,by rw [au,if_pos rfl];simp,rfl,rfl,fun _=>by rw [au,if_pos rfl]⟩
  ·rename_i hne
   obtain ⟨i',o',h1,h2,h3,h4⟩:=p8 h
   have hne':i≠i':=fun e=>hne (by rw [e,h2])
   refine ⟨i',o',by rw [au,if_neg hne'];exact h1,h2,h3,fun ha=>?_⟩
   rw [au,if_neg hne']
   simp only [apart,Bool.and_eq_true] at ha
   exact h4 ha.2
theorem qM {σ:Nat→Nat}:∀ {l:List (Nat×Ob)},apart σ l=true→∀ i j,look l i≠none→look l j≠none→σ i=σ j→i=j
 | l,ha,i,j,hi,hj,e=>by
  obtain ⟨oi,hi'⟩:=Option.ne_none_iff_exists'.1 hi
  clear hi
  induction l generalizing oi with
  | nil=>cases hi'
  | cons p r ih =>
   obtain ⟨k,o⟩:=p
   simp only [apart,Bool.and_eq_true,List.all_eq_true,Bool.not_eq_true'] at ha
   have mem:∀ (l:List (Nat×Ob)) i,look l i≠none→∃ o',(i,o')∈l:=by
    intro l
    induction l with
    | nil=>intro i h;exact absurd rfl h
    | cons p q ih =>
     intro i h
     obtain ⟨k',o'⟩:=p
     rw [au] at h
     by_cases e':k'=i
     ·subst e';exact ⟨o',by simp⟩
     ·rw [if_neg e'] at h;obtain ⟨o'',h''⟩:=ih i h;exact ⟨o'',by simp [h'']⟩
   rw [au] at hi' hj
   by_cases e1:k=i
   ·by_cases e2:k=j
    ·omega
    ·rw [if_neg e2] at hj
     obtain ⟨o',hm⟩:=mem r j hj
     have:=ha.1 (j,o') hm
     rw [e1,e] at this;simp at this
   ·rw [if_neg e1] at hi'
    by_cases e2:k=j
    ·obtain ⟨o',hm⟩:=mem r i (by rw [hi'];simp)
     have:=ha.1 (i,o') hm
     rw [e2,← e] at this;simp at this
    ·rw [if_neg e2] at hj
     exact ih ha.2 hj oi hi'
theorem pw {a : Act} {w : World} {f : FuncId} {args : Array Operand} {argTypes : Array TypeId} {vs : List Value} {fn : Func} {dst : Option Tmp} {ty : TypeId} {pos : String} {after : Array Edge} {gu : Option (Nat × Bool)}
  (e0 : args.toList.map a.eval = vs) (hf : P.funcs[f]? = some fn) (hn : (fn.name == "runtime.NumGoroutine") = false) (hb : fn.body.isNone = false) :
  (execOp a.eval ⟨dst,.call ⟨.value (.func f),args,argTypes⟩,ty,pos,after,gu⟩).run P w = .ok (.enter f vs.toArray) w:=by
 unfold execOp
 have e1 : args.map a.eval = vs.toArray:=by
  rw [← e0];apply Array.ext';simp
 simp only [resolve,e1,Act.eval,Deferred.ofValue,pure_bind,invoke,callFunc,Array.append_empty,Array.empty_append]
 show (Sem.program _).run P w = _
 simp only [Sem.run,Sem.bind,hf]
 rw [if_neg (by rw [hn];simp),if_neg (by rw [hb];simp)]
 rfl
def Entry (P : Program) (f : FuncId) : Prop := ∃ fn, P.funcs[f]? = some fn ∧ (fn.name == "runtime.NumGoroutine") = false ∧ fn.body.isNone = false
def Fits:List A1→List A1→Prop
 | [],[]=>True
 | y :: ys,x :: xs=>(y=x∨y.norm=x)∧Fits ys xs
 | _,_=>False
theorem Fits.reps {ρ:Env} {M:Mem}:∀ {ys xs:List A1} {vs:List Value},Fits ys xs→A1.reps ρ M ys vs→A1.reps ρ M xs vs
 | [],[],_,_,h=>h
 | [],_ :: _,_,h,_=>h.elim
 | _ :: _,[],_,h,_=>h.elim
 | y :: ys,x :: xs,[],_,h=>h.elim
 | y :: ys,x :: xs,v :: vs,hf,h=>⟨by rcases hf.1 with rfl | rfl;exact h.1;exact A1.norm_rep h.1,Fits.reps hf.2 h.2⟩
def lentOk (F:FS) (σ:Nat→Nat):List (Nat×Ob)→Prop
 | []=>True
 | (i,ob) :: r=>F.bl (σ i)=some (ob.ren σ)∧lentOk F σ r
theorem dz {σ:Nat→Nat}:∀ {l:List (Nat×Ob)},lentOk F σ l→∀ i ob,look l i=some ob→F.bl (σ i)=some (ob.ren σ)
 | [],_,i,ob,h=>by cases h
 | (k,o) :: r,hl,i,ob,h=>by
  rw [au] at h
  split at h
  ·rename_i e;subst e;cases h;exact hl.1
  ·exact dz hl.2 i ob h
def newNames (σ:Nat→Nat) (bl:List (Nat×Ob)):List (Nat×Ob)→List Nat
 | []=>[]
 | (i,_) :: r=>match look bl i with
  | some _=>newNames σ bl r
  | none=>σ i :: newNames σ bl r
def allNone (F:FS):List Nat→Prop
 | []=>True
 | k :: r=>F.bl k=none∧allNone F r
theorem ip:∀ {l:List Nat},allNone F l→∀ k∈l,F.bl k=none
 | [],_,k,h=>by cases h
 | x :: r,hl,k,h=>by
  cases h with
  | head=>exact hl.1
  | tail _ hm=>exact ip hl.2 k hm
theorem ic {σ:Nat→Nat} {bl:List (Nat×Ob)}:∀ {l:List (Nat×Ob)} {k:Nat},k∈newNames σ bl l↔∃ i,look l i≠none∧look bl i=none∧k=σ i
 | [],k=>by simp [newNames,look]
 | (i,o) :: r,k=>by
  simp only [newNames]
  have ih:=ic (σ:=σ) (bl:=bl) (l:=r) (k:=k)
  cases hb:look bl i with
  | some x =>
   simp only
   rw [ih]
   constructor
   ·rintro ⟨j,h1,h2,h3⟩
    refine ⟨j,?_,h2,h3⟩
    rw [au];split <;> simp_all
   ·rintro ⟨j,h1,h2,h3⟩
    refine ⟨j,?_,h2,h3⟩
    rw [au] at h1
    split at h1
    ·rename_i e;subst e;rw [hb] at h2;cases h2
    ·exact h1
  | none =>
   simp only [List.mem_cons]
   rw [ih]
   constructor
   ·rintro (rfl | ⟨j,h1,h2,h3⟩)
    ·exact ⟨i,by rw [au,if_pos rfl];simp,hb,rfl⟩
    ·refine ⟨j,?_,h2,h3⟩
     rw [au];split <;> simp_all
   ·rintro ⟨j,h1,h2,h3⟩
    rw [au] at h1
    split at h1
    ·rename_i e;subst e;exact .inl h3
    ·exact .inr ⟨j,h1,h2,h3⟩
theorem kq {l:List (Nat×Ob)} {i:Nat} (h:look l i≠none):i∈l.map (·.1):=by
 induction l with
 | nil=>exact absurd rfl h
 | cons p r ih =>
  obtain ⟨k,o⟩:=p
  rw [au] at h
  by_cases e:k=i
  ·subst e;simp
  ·rw [if_neg e] at h;simp only [List.map_cons,List.mem_cons];exact .inr (ih h)
theorem ku {l:List (Nat×Ob)} {i:Nat} (h:i∈l.map (·.1)):look l i≠none:=by
 induction l with
 | nil=>cases h
 | cons p r ih =>
  obtain ⟨k,o⟩:=p
  rw [au]
  by_cases e:k=i
  ·rw [if_pos e];simp
  ·rw [if_neg e]
   simp only [List.map_cons,List.mem_cons] at h
   rcases h with h | h
   ·exact absurd h.symm e
   ·exact ih h
theorem RelW.called {σ:Nat→Nat} {bl bl':List (Nat×Ob)} {ρ ρ'':Env} {M M':Mem} {w w':World} {g:Nat→Prop} (h:RelW C F.bl ρ'' M w) (hl:lentOk F σ bl) (hdom:domB bl' bl=true) (hap:apart σ bl'=true) (_hnew:allNone F (newNames σ bl bl'))
  (hg:∀ b,g b↔(∃ i ob,look bl i=some ob∧ob.blkOf (ρ'' (σ i))=some b)∨∃ s,M.junk b=some s) (hc:RelW (ctxOf w 0 g M bl ρ) (look bl') (fun i=>ρ'' (σ i)) M' w'):RelW C (over (renBl σ bl') F.bl) ρ'' M' w':=by
 have gpriv:∀ b,g b→C.w0.heap.size≤b∨C.g b:=fun b hb=>by
  rcases (hg b).1 hb with ⟨i,ob,h1,h2⟩ | ⟨s,hs⟩
  ·exact h.priv (σ i) _ b (dz hl i ob h1) (by rw [bG];exact h2)
  ·exact (h.junkP b s hs).1
 have cases':∀ k ob,over (renBl σ bl') F.bl k=some ob→(∃ i o,look bl' i=some o∧k=σ i∧ob=o.ren σ)∨(F.bl k=some ob∧∀ b,ob.blkOf (ρ'' k)=some b→b<w.heap.size∧¬ g b):=by
  intro k ob hk
  unfold over at hk
  cases hlk:look (renBl σ bl') k with
  | some o =>
   rw [hlk] at hk
   cases hk
   obtain ⟨i,o',_,h2,h3,h4⟩:=p8 hlk
   exact .inl ⟨i,o',h4 hap,h2,h3⟩
  | none =>
   rw [hlk] at hk
   refine .inr ⟨hk,fun b hb=>⟨h.lt k ob b hk hb,fun hgb=>?_⟩⟩
   obtain ⟨i,o,h1,h2⟩:∃ i ob,look bl i=some ob∧ob.blkOf (ρ'' (σ i))=some b:=by
    rcases (hg b).1 hgb with h3 | ⟨s,hs⟩
    ·exact h3
    ·exact absurd hb ((h.junkP b s hs).2 k ob hk)
   have e:=h.dist k (σ i) _ _ b hk (dz hl i o h1) hb (by rw [bG];exact h2)
   have hd:=fQ hdom i (by rw [h1];simp)
   obtain ⟨o2,ho2⟩:=Option.ne_none_iff_exists'.1 hd
   have:=iG hap i o2 ho2
   rw [← e,hlk] at this;cases this
 refine ⟨?_,?_,?_,hc.mem,h.base.trans hc.base,?_,?_,h.names,?_⟩
 ·intro k ob hk
  rcases cases' k ob hk with ⟨i,o,h1,rfl,rfl⟩ | ⟨h1,h2⟩
  ·exact lN.2 (hc.inv i o h1)
  ·refine (h.inv k ob h1).keep hc.base (fun b hb=>?_)
   obtain ⟨h3,h4⟩:=h2 b hb
   exact ⟨hc.kept.block b h3 h4,hc.fresh b h3 h4⟩
 ·intro i j x y b hi hj hx hy
  rcases cases' i x hi with ⟨i',o,h1,rfl,rfl⟩ | ⟨h1,h2⟩
  ·rw [bG] at hx
   rcases cases' j y hj with ⟨j',o',h1',rfl,rfl⟩ | ⟨h1',h2'⟩
   ·rw [bG] at hy
    rw [hc.dist i' j' _ _ b h1 h1' hx hy]
   ·have:=h2' b hy
    rcases hc.priv i' o b h1 hx with h3 | h3
    ·exact absurd h3 (by show ¬ w.heap.size≤b;omega)
    ·exact absurd h3 this.2
  ·rcases cases' j y hj with ⟨j',o',h1',rfl,rfl⟩ | ⟨h1',h2'⟩
   ·rw [bG] at hy
    have:=h2 b hx
    rcases hc.priv j' o' b h1' hy with h3 | h3
    ·exact absurd h3 (by show ¬ w.heap.size≤b;omega)
    ·exact absurd h3 this.2
   ·exact h.dist i j _ _ b h1 h1' hx hy
 ·intro j ob b hj ho
  rcases cases' j ob hj with ⟨i,o,h1,rfl,rfl⟩ | ⟨h1,h2⟩
  ·rw [bG] at ho
   rcases hc.priv i o b h1 ho with h3 | h3
   ·exact .inl (Nat.le_trans h.kept.size h3)
   ·exact gpriv b h3
  ·exact h.priv j ob b h1 ho
 ·intro b hb hgb
  have h3:¬ g b:=fun e=>by
   rcases gpriv b e with h4 | h4
   ·omega
   ·exact hgb h4
  have h5:=hc.fresh b (Nat.lt_of_lt_of_le hb h.kept.size) h3
  have h6:=h.fresh b hb hgb
  exact ⟨fun o=>(h5.1 o).trans (h6.1 o),h5.2.trans h6.2⟩
 ·refine ⟨hc.kept.os.trans h.kept.os,hc.kept.tape.trans h.kept.tape,hc.kept.output.trans h.kept.output,Nat.le_trans h.kept.size hc.kept.size,fun k hk hgk=>?_⟩
  have h3:¬ g k:=fun e=>by
   rcases gpriv k e with h4 | h4
   ·omega
   ·exact hgk h4
  exact (hc.kept.block k (Nat.lt_of_lt_of_le hk h.kept.size) h3).trans (h.kept.block k hk hgk)
 ·intro b s hb
  obtain ⟨q1,q2⟩:=hc.junkP b s hb
  refine ⟨?_,fun k ob hk ho=>?_⟩
  ·rcases q1 with q1 | q1
   ·exact .inl (Nat.le_trans h.kept.size q1)
   ·exact gpriv b q1
  ·rcases cases' k ob hk with ⟨i,o,h1,rfl,rfl⟩ | ⟨h1,h2⟩
   ·rw [bG] at ho
    exact q2 i o h1 ho
   ·obtain ⟨h3,h4⟩:=h2 b ho
    rcases q1 with q1 | q1
    ·exact absurd q1 (by show ¬ w.heap.size≤b;omega)
    ·exact h4 q1
theorem RelW.lend {σ:Nat→Nat} {bl bl':List (Nat×Ob)} {ρ ρc:Env} {M:Mem} {w:World} (h:RelW C F.bl ρ M w) (hl:lentOk F σ bl) (hdom:domB bl' bl=true) (hap:apart σ bl'=true) (hsc:blIn bl bl=true) (hρ:Agree (look bl) (fun i=>ρ (σ i)) ρc) :
  RelW (ctxOf w 0 (fun b=>(∃ i ob,look bl i=some ob∧ob.blkOf (ρ (σ i))=some b)∨∃ s,M.junk b=some s) M bl (fun i=>ρ (σ i))) (look bl) ρc M w:=by
 have h1:RelW (ctxOf w 0 (fun b=>(∃ i ob,look bl i=some ob∧ob.blkOf (ρ (σ i))=some b)∨∃ s,M.junk b=some s) M bl (fun i=>ρ (σ i))) (look bl) (fun i=>ρ (σ i)) M w:=by
  refine ⟨fun j ob hj=>lN.1 (h.inv _ _ (dz hl j ob hj)),fun i j x y b hi hj hx hy=>?_,fun j ob b hj ho=>.inr (.inl ⟨j,ob,hj,ho⟩),h.mem,Mem.le_refl _,fun _ _ _=>⟨fun _=>rfl,rfl⟩,Kept.refl _ _,fun _ _=>rfl,fun b s hb=>⟨.inr (.inr ⟨s,hb⟩),fun j ob hj ho=>(h.junkP b s hb).2 _ _ (dz hl j ob hj) (by rw [bG];exact ho)⟩⟩
  have e:=h.dist (σ i) (σ j) _ _ b (dz hl i x hi) (dz hl j y hj) (by rw [bG];exact hx) (by rw [bG];exact hy)
  exact qM hap i j (fQ hdom i (by rw [hi];simp)) (fQ hdom j (by rw [hj];simp)) e
 exact h1.scoped (fun s v hv=>.inr hv) hsc (fun j hj=>hj) hρ
theorem Tri.call [hT:HasTab P C] {o:Oper} {f:FuncId} {args:List A1} {bl bl':List (Nat×Ob)} {res:AV} {σ:Nat→Nat} {fd:Nat} (hg:o.guard=none) (hd:o.dst=some fd) (hn:Nat.blt fd C.n=true) (hc:Con P f args bl res bl') (hl:lentOk F σ bl) (hdom:domB bl' bl=true) (hap:apart σ bl'=true) (hsc:blIn bl bl=true) (hnew:allNone F (newNames σ bl bl'))
  (hsa:mo bl args=true) (hrun:∀ ρ M a w,Rel0 C F ρ M a w→∃ vs,(execOp a.eval o).run P w=.ok (.enter f vs.toArray) w∧A1.reps ρ M (args.map (A1.ren σ)) vs):Tri P C ops o F (F.upd [(fd,res.ren σ)] (renBl σ bl')):=by
 intro Q' K' hK ρ M a w hr
 rw [if_pos (cK hg)]
 obtain ⟨vs,h1,h2⟩:=hrun ρ M a w hr.at
 refine lD h1 ?_
 refine (hc (fun i=>ρ (σ i)) M w _ vs (hT.tab.mono hr.at.heap.base) (fun ρc ha=>⟨hr.at.heap.lend hl hdom hap hsc ha,jH ha hsa (A1.reps_ren.1 h2)⟩)).mono ?_
 rintro e w' ⟨u,ρ1,M',rfl,hfin⟩
 show K' (a.put o.dst u) w'
 rw [hd]
 -- the caller's names: the new ones stand for what the callee made
 let inv:Nat→Nat:=fun k=>((bl'.map (·.1)).find? (fun i=>Nat.beq (σ i) k)).getD 0
 refine hK (fun k=>if k∈newNames σ bl bl' then ρ1 (inv k) else ρ k) M' _ _ fun ρ' ha=>?_
 have hdomF:∀ k,F.bl k≠none→over (renBl σ bl') F.bl k≠none:=fun k hk=>cJ hk
 have hag:Agree F.bl ρ ρ':=fun i hi=>by
  have hne:i∉newNames σ bl bl':=fun e=>hi (ip hnew i e)
  rw [ha i (hdomF i hi)];exact if_neg hne
 have h0:=hr ρ' hag
 have hfinv:∀ i,look bl' i≠none→inv (σ i)=i:=by
  intro i hi
  show ((bl'.map (·.1)).find? (fun j=>Nat.beq (σ j) (σ i))).getD 0=i
  cases hf:(bl'.map (·.1)).find? (fun j=>Nat.beq (σ j) (σ i)) with
  | none =>
   exfalso
   have hm:i∈bl'.map (·.1):=kq hi
   have:=List.find?_eq_none.1 hf i hm
   simp at this
  | some j =>
   have h3:=List.find?_some hf
   have h4:j∈bl'.map (·.1):=List.mem_of_find?_eq_some hf
   have h5:look bl' j≠none:=ku h4
   exact qM hap j i h5 hi (Nat.eq_of_beq_eq_true h3)
 have hlent:∀ i,look bl i≠none→ρ' (σ i)=ρ (σ i):=fun i hi=>by
  obtain ⟨ob,hob⟩:=Option.ne_none_iff_exists'.1 hi
  exact hag (σ i) (by rw [dz hl i ob hob];simp)
 have hagc:Agree (look bl') ρ1 (fun i=>ρ' (σ i)):=fun i hi=>by
  cases hb:look bl i with
  | none =>
   have hm:σ i∈newNames σ bl bl':=ic.2 ⟨i,hi,hb,rfl⟩
   obtain ⟨o2,ho2⟩:=Option.ne_none_iff_exists'.1 hi
   have h3:=ha (σ i) (by
    show over (renBl σ bl') F.bl (σ i)≠none
    unfold over;rw [iG hap i o2 ho2];simp)
   show ρ' (σ i)=ρ1 i
   rw [h3]
   show (if σ i∈newNames σ bl bl' then ρ1 (inv (σ i)) else ρ (σ i))=ρ1 i
   rw [if_pos hm,hfinv i hi]
  | some ob =>
   have h3:=(hfin ρ1 (Agree.refl _ _)).2.names i (by show look bl i≠none;rw [hb];simp)
   show ρ' (σ i)=ρ1 i
   rw [hlent i (by rw [hb];simp),h3];rfl
 obtain ⟨g1,g2⟩:=hfin _ hagc
 refine h0.put (Nat.blt_eq.mp hn) (AV.ren_rep.2 g1) g2.base (h0.heap.called hl hdom hap hnew (fun b=>?_) g2)
 constructor
 ·rintro (⟨i,ob,h3,h4⟩ | h3)
  ·exact .inl ⟨i,ob,h3,by rw [hlent i (by rw [h3];simp)];exact h4⟩
  ·exact .inr h3
 ·rintro (⟨i,ob,h3,h4⟩ | h3)
  ·exact .inl ⟨i,ob,h3,by rw [← hlent i (by rw [h3];simp)];exact h4⟩
  ·exact .inr h3
theorem bQ [HasTab P C] {f:FuncId} {args:Array Operand} {argTypes:Array TypeId} {ys as0:List A1} {bl bl':List (Nat×Ob)} {res:AV} (σ:Nat→Nat) (res':AV) (Wb:List (Nat×Ob)) (hc:Con P f as0 bl res bl') (hy:rds F args.toList=some ys) (hfit:Fits ys (as0.map (A1.ren σ))) (hs:sideOk F true args.toList) (hf:Entry P f)
  (hl:lentOk F σ bl) (hdom:domB bl' bl=true) (hap:apart σ bl'=true) (hsc:blIn bl bl=true) (hsa:mo bl as0=true) (hnew:allNone F (newNames σ bl bl')) (hn:Nat.blt dst C.n=true) (hres:res.ren σ=res') (hWb:renBl σ bl'=Wb) :
  TriL P C ops ⟨some dst,.call ⟨.value (.func f),args,argTypes⟩,ty,pos,after,none⟩ ⟨slotsOf args.toList,Wb.map (·.1),[dst],Wb.map (·.1)⟩ [(dst,res')] Wb F:=by
 subst hres hWb
 refine ⟨⟨rfl,rfl⟩,fun F' hS=>?_⟩
 have h1:=aG hS.1
 obtain ⟨fn,hf1,hf2,hf3⟩:=hf
 have hb':∀ i,look bl' i≠none→F'.bl (σ i)=F.bl (σ i):=fun i hi=>by
  obtain ⟨o2,ho2⟩:=Option.ne_none_iff_exists'.1 hi
  have:=iG hap i o2 ho2
  exact hS.2 _ (kq (by rw [this];simp))
 have hl':lentOk F' σ bl:=by
  have:∀ (l:List (Nat×Ob)),(∀ p∈l,look bl' p.1≠none)→lentOk F σ l→lentOk F' σ l:=by
   intro l
   induction l with
   | nil=>intro _ _;trivial
   | cons p r ih =>
    obtain ⟨i,o⟩:=p
    intro hm h
    exact ⟨(hb' i (hm (i,o) (by simp))).trans h.1,ih (fun q hq=>hm q (by simp [hq])) h.2⟩
  exact this bl (fun p hp=>fQ hdom p.1 (ku (List.mem_map_of_mem hp))) hl
 have hnew':allNone F' (newNames σ bl bl'):=by
  have:∀ (l:List Nat),(∀ k∈l,F'.bl k=none)→allNone F' l:=by
   intro l
   induction l with
   | nil=>intro _;trivial
   | cons k r ih=>intro h;exact ⟨h k (by simp),ih (fun j hj=>h j (by simp [hj]))⟩
  refine this _ (fun k hk=>?_)
  obtain ⟨i,h2,h3,rfl⟩:=ic.1 hk
  rw [hb' i h2];exact ip hnew _ hk
 refine Tri.call rfl rfl hn hc hl' hdom hap hsc hnew' hsa (fun ρ M a w hr=>?_)
 refine ⟨args.toList.map a.eval,pw rfl hf1 hf2 hf3,?_⟩
 exact Fits.reps hfit (iw (aR hr rfl (aC h1 hs)) ((fy h1).trans hy))
theorem a9 [hT:HasTab P C] {f:FuncId} {args:Array Operand} {argTypes:Array TypeId} {ys as0:List A1} {x:A1} {gk:Nat} {want g:Bool} (hc:g=true→Con P f as0 [] (.s x) []) (hb:guardB F ops gk want=some g) (hy:rds F args.toList=some ys) (hfit:Fits ys as0) (hs:sideOk F g args.toList) (hf:Entry P f)
  (hsa:mo [] as0=true) (_hsx:x.inB []=true) (hn:Nat.blt dst C.n=true) :
  TriL P C ops ⟨some dst,.call ⟨.value (.func f),args,argTypes⟩,ty,pos,after,some (gk,want)⟩ ⟨gSlot ops gk++slotsOf args.toList,[],[dst],[]⟩ [(dst,.gd g x)] [] F:=by
 refine ⟨⟨rfl,rfl⟩,fun F' hS=>?_⟩
 have h1:=aG (F:=F) (F':=F') (xs:=args.toList) (fun t ht=>hS.1 t (by simp [ht]))
 have hb':=(bS (want:=want) (fun t ht=>hS.1 t (by simp [ht]))).trans hb
 obtain ⟨fn,hf1,hf2,hf3⟩:=hf
 cases g with
 | false =>
  intro Q' K' hK ρ M a w hr
  rw [da hr.at rfl hb',if_neg (by simp)]
  refine hK ρ M _ _ fun ρ' ha=>?_
  have h0:=hr ρ' (fun j hj=>ha j (by rw [FS.upd,bF];exact hj))
  exact h0.put (v:=.gd false x) (Nat.blt_eq.mp hn) rfl (Mem.le_refl _) (by rw [bF];exact h0.heap)
 | true =>
  intro Q' K' hK ρ M a w hr
  rw [da hr.at rfl hb',if_pos rfl]
  refine lD (pw rfl hf1 hf2 hf3) ?_
  have h2:=Fits.reps hfit (iw (aR hr.at rfl (aC h1 hs)) ((fy h1).trans hy))
  have hren:∀ (ρ1 ρ2:Env) vs,A1.reps ρ1 M as0 vs→A1.reps ρ2 M as0 vs:=fun ρ1 ρ2 vs h=>jH (bl:=[]) (fun j hj=>absurd rfl hj) hsa h
  have hl:lentOk F' id []:=trivial
  refine (hc rfl ρ M w _ _ (hT.tab.mono hr.at.heap.base) (fun ρc ha=>⟨hr.at.heap.lend (bl':=[]) (σ:=id) hl rfl rfl rfl ha,hren _ _ _ h2⟩)).mono ?_
  rintro e w' ⟨u,ρ1,M',rfl,hfin⟩
  show K' (a.put (some dst) u) w'
  refine hK ρ M' _ _ fun ρ' ha=>?_
  have h0:=hr ρ' (fun j hj=>ha j (by rw [FS.upd,bF];exact hj))
  obtain ⟨g1,g2⟩:=hfin ρ' (fun j hj=>absurd rfl hj)
  refine h0.put (v:=.gd true x) (Nat.blt_eq.mp hn) g1 g2.base ?_
  have:=h0.heap.called (σ:=id) (bl:=[]) (bl':=[]) hl rfl rfl trivial (fun b=>or_congr_left ⟨fun ⟨_,_,h,_⟩=>(by cases h),fun ⟨_,_,h,_⟩=>(by cases h)⟩) g2
  exact this
section steps
variable {o:Oper} {rest:List Oper} {ss0:List Sum} {Q:AState→Prop} {sl:List (Nat×AV)} {bl:List (Nat×Ob)} {nx d j j2 j3:Nat} {a:AV} {b b2 b3:Ob} {s:Sum}
theorem ae (ht:TriL P C ops o s [(d,a)] [] ⟨look sl,look bl⟩) (h:OkOps P C ops rest Q ⟨(d,a) :: sl,bl,nx⟩):OkOps P C ops (o :: rest) Q ⟨sl,bl,nx⟩:=OkOps.step (st:=⟨sl,bl,nx⟩) (nx':=nx) ht.tri h
theorem ak (nx':Nat) (ht:TriL P C ops o s [(d,a)] [(j,b)] ⟨look sl,look bl⟩) (h:OkOps P C ops rest Q ⟨(d,a) :: sl,(j,b) :: bl,nx'⟩):OkOps P C ops (o :: rest) Q ⟨sl,bl,nx⟩:=OkOps.step (st:=⟨sl,bl,nx⟩) (nx':=nx') ht.tri h
theorem bW (nx':Nat) (ht:TriL P C ops o s [(d,a)] [(j,b),(j2,b2)] ⟨look sl,look bl⟩) (h:OkOps P C ops rest Q ⟨(d,a) :: sl,(j,b) :: (j2,b2) :: bl,nx'⟩):OkOps P C ops (o :: rest) Q ⟨sl,bl,nx⟩:=OkOps.step (st:=⟨sl,bl,nx⟩) (nx':=nx') ht.tri h
theorem OkOps.m3 (nx':Nat) (ht:TriL P C ops o s [(d,a)] [(j,b),(j2,b2),(j3,b3)] ⟨look sl,look bl⟩) (h:OkOps P C ops rest Q ⟨(d,a) :: sl,(j,b) :: (j2,b2) :: (j3,b3) :: bl,nx'⟩):OkOps P C ops (o :: rest) Q ⟨sl,bl,nx⟩:=OkOps.step (st:=⟨sl,bl,nx⟩) (nx':=nx') ht.tri h
theorem aq (ht:TriL P C ops o s [] [(j,b)] ⟨look sl,look bl⟩) (h:OkOps P C ops rest Q ⟨sl,(j,b) :: bl,nx⟩):OkOps P C ops (o :: rest) Q ⟨sl,bl,nx⟩:=OkOps.step (st:=⟨sl,bl,nx⟩) (nx':=nx) ht.tri h
theorem OkD.m2 (nx':Nat) (ht:TriL P C ops o s [(d,a)] [(j,b),(j2,b2)] ⟨look sl,look bl⟩) (h:OkD P C ops rest (s :: ss0) Q ⟨(d,a) :: sl,(j,b) :: (j2,b2) :: bl,nx'⟩):OkD P C ops (o :: rest) ss0 Q ⟨sl,bl,nx⟩:=OkD.step (st:=⟨sl,bl,nx⟩) (nx':=nx') ht h
theorem OkD.m3 (nx':Nat) (ht:TriL P C ops o s [(d,a)] [(j,b),(j2,b2),(j3,b3)] ⟨look sl,look bl⟩) (h:OkD P C ops rest (s :: ss0) Q ⟨(d,a) :: sl,(j,b) :: (j2,b2) :: (j3,b3) :: bl,nx'⟩):OkD P C ops (o :: rest) ss0 Q ⟨sl,bl,nx⟩:=OkD.step (st:=⟨sl,bl,nx⟩) (nx':=nx') ht h
end steps
end Go.E2
end
section
namespace Go.E2
variable {P:Program} {C:Ctx}
def Conv (C:Ctx) (st T:AState):Prop:=∀ ρ M a w,Rel C st.F ρ M a w→∃ ρ' M',Rel C T.F ρ' M' a w
def allSl (f:Nat→Option AV) (τ:Nat→Nat):List (Nat×AV)→Prop
 | []=>True
 | (k,v) :: r=>(∃ v0,f k=some v0∧(v0=v.ren τ∨v0.norm=v.ren τ))∧allSl f τ r
theorem ot {f:Nat→Option AV} {τ:Nat→Nat}:∀ {l:List (Nat×AV)},allSl f τ l→∀ s v,look l s=some v→∃ v0,f s=some v0∧(v0=v.ren τ∨v0.norm=v.ren τ)
 | [],_,s,v,h=>by cases h
 | (k,u) :: r,h,s,v,hl=>by
  rw [au] at hl
  split at hl
  ·rename_i e;subst e;cases hl;exact h.1
  ·exact ot h.2 s v hl
def allOb (f:Nat→Option Ob) (τ:Nat→Nat):List (Nat×Ob)→Prop
 | []=>True
 | (_,.dead) :: r=>allOb f τ r
 | (k,v) :: r=>f (τ k)=some (v.ren τ)∧allOb f τ r
theorem ou {f:Nat→Option Ob} {τ:Nat→Nat}:∀ {l:List (Nat×Ob)},allOb f τ l→∀ s v,look l s=some v→v=.dead∨f (τ s)=some (v.ren τ)
 | [],_,s,v,h=>by cases h
 | (k,u) :: r,h,s,v,hl=>by
  have hr:allOb f τ r:=by cases u <;> first | exact h.2 | exact h
  rw [au] at hl
  split at hl
  ·rename_i e
   subst e
   cases hl
   cases u with
   | dead=>exact .inl rfl
   | _=>exact .inr h.1
  ·exact ou hr s v hl
def keptB (K:List (Nat×Ob)) (τ:Nat→Nat) (T:List (Nat×Ob)):Bool:=match K with
 | []=>true
 | (j,_) :: r=>match look T j with
  | some _=>Nat.beq (τ j) j&&keptB r τ T
  | none=>false
theorem lG {τ:Nat→Nat} {T:List (Nat×Ob)}:∀ {K:List (Nat×Ob)},keptB K τ T=true→∀ j,look K j≠none→look T j≠none∧τ j=j
 | [],_,j,h=>absurd rfl h
 | (k,o) :: r,hk,j,h=>by
  unfold keptB at hk
  split at hk
  ·rename_i v hv
   simp only [Bool.and_eq_true] at hk
   rw [au] at h
   by_cases e:k=j
   ·subst e;exact ⟨by rw [hv];simp,Nat.eq_of_beq_eq_true hk.1⟩
   ·rw [if_neg e] at h;exact lG hk.2 j h
  ·cases hk
def liveApart (τ:Nat→Nat):List (Nat×Ob)→Bool
 | []=>true
 | (_,.dead) :: r=>liveApart τ r
 | (i,_) :: r=>(r.all fun p=>match p.2 with | .dead=>true | _=>!Nat.beq (τ i) (τ p.1))&&liveApart τ r
theorem o9 {τ:Nat→Nat}:∀ {l:List (Nat×Ob)},liveApart τ l=true→∀ i j x y,look l i=some x→look l j=some y→x≠.dead→y≠.dead→τ i=τ j→i=j:=by
 have mem:∀ (l:List (Nat×Ob)) i x,look l i=some x→(i,x)∈l:=by
  intro l
  induction l with
  | nil=>intro i x h;cases h
  | cons p q ih =>
   intro i x h
   obtain ⟨k',o'⟩:=p
   rw [au] at h
   split at h
   ·rename_i e;subst e;cases h;simp
   ·exact List.mem_cons_of_mem _ (ih i x h)
 intro l
 induction l with
 | nil=>intro _ i j x y h;cases h
 | cons p r ih =>
  obtain ⟨k,o⟩:=p
  intro ha i j x y hi hj hx hy e
  rw [au] at hi hj
  by_cases ho:o=.dead
  ·subst ho
   split at hi
   ·cases hi;exact absurd rfl hx
   ·split at hj
    ·cases hj;exact absurd rfl hy
    ·exact ih ha i j x y hi hj hx hy e
  ·have ha':(r.all fun p=>match p.2 with | .dead=>true | _=>!Nat.beq (τ k) (τ p.1))=true∧liveApart τ r=true:=by
    cases o <;> first | exact absurd rfl ho | (simp only [liveApart,Bool.and_eq_true] at ha;exact ha)
   obtain ⟨h1,h2⟩:=ha'
   rw [List.all_eq_true] at h1
   have far:∀ i x,look r i=some x→x≠.dead→τ k≠τ i:=by
    intro i x h hx e'
    have:=h1 (i,x) (mem r i x h)
    cases x <;> first | exact absurd rfl hx | (rw [e'] at this;simp at this)
   split at hi
   ·rename_i e1;subst e1
    split at hj
    ·rename_i e2;exact e2
    ·exact absurd e (far j y hj hy)
   ·split at hj
    ·rename_i e2;subst e2;exact absurd e.symm (far i x hi hx)
    ·exact ih h2 i j x y hi hj hx hy e
theorem Conv.mk {st T:AState} {w0:World} {n:Nat} {g:Nat→Prop} {M0:Mem} {bl0:List (Nat×Ob)} {ρ0:Env} {ro:Option Nat} (τ:Nat→Nat) (h1:allSl (look st.sl) τ T.sl) (h2:allOb (look st.bl) τ T.bl) (h3:liveApart τ T.bl=true) (h4:keptB bl0 τ T.bl=true) (h5:slIn T.bl T.sl=true) (h6:blIn T.bl T.bl=true):Conv (ctxOf w0 n g M0 bl0 ρ0 ro) st T:=by
 intro ρ M a w hr
 refine ⟨fun i=>ρ (τ i),M,fun ρ' ha=>?_⟩
 have h0:=hr.at
 have hobj:∀ j ob,look T.bl j=some ob→ob=.dead∨st.F.bl (τ j)=some (ob.ren τ):=ou h2
 have hrel:RelW (ctxOf w0 n g M0 bl0 ρ0 ro) (look T.bl) (fun i=>ρ (τ i)) M w:=by
  refine ⟨fun j ob hj=>?_,fun i j x y b hi hj hx hy=>?_,fun j ob b hj ho=>?_,h0.heap.mem,h0.heap.base,h0.heap.fresh,h0.heap.kept,fun j hj=>?_,fun b s hb=>⟨(h0.heap.junkP b s hb).1,fun j ob hj ho=>?_⟩⟩
  ·rcases hobj j ob hj with rfl | h
   ·trivial
   ·exact lN.1 (h0.heap.inv _ _ h)
  ·rcases hobj i x hi with rfl | hi'
   ·cases hx
   ·rcases hobj j y hj with rfl | hj'
    ·cases hy
    ·have e:=h0.heap.dist (τ i) (τ j) _ _ b hi' hj' (by rw [bG];exact hx) (by rw [bG];exact hy)
     exact o9 h3 i j x y hi hj (fun e'=>by rw [e'] at hx;cases hx) (fun e'=>by rw [e'] at hy;cases hy) e
  ·rcases hobj j ob hj with rfl | h
   ·cases ho
   ·exact h0.heap.priv _ _ b h (by rw [bG];exact ho)
  ·have hk:=lG h4 j hj
   show ρ (τ j)=_
   rw [hk.2];exact h0.heap.names j hj
  ·rcases hobj j ob hj with rfl | h
   ·cases ho
   ·exact (h0.heap.junkP b s hb).2 _ _ h (by rw [bG];exact ho)
 refine ⟨h0.defers,h0.size,fun s v hv=>?_,hrel.scoped (fun s v hv=>.inr hv) h6 (fun j hj=>(lG h4 j hj).1) ha⟩
 obtain ⟨v0,g1,g2⟩:=ot h1 s v hv
 have hv0:(v.ren τ).rep ρ M (a.tmps.getD s undef):=by
  have:=h0.slots s v0 g1
  rcases g2 with rfl | g2
  ·exact this
  ·rw [← g2];exact AV.norm_rep this
 exact AV.inB_rep ha (pP h5 s v hv) (AV.ren_rep.1 hv0)
theorem Ok.conv {c:Code} {Q:Exit→AState→Prop} {st T:AState} (h:Conv C st T) (hk:Ok P C c Q T):Ok P C c Q st:=fun ρ M a w hr=>by
 obtain ⟨ρ',M',hr'⟩:=h ρ M a w hr
 exact hk ρ' M' a w hr'
theorem Conv.nil {sl:List (Nat×AV)} {bl:List (Nat×Ob)} {nx:Nat} (s j sz:Nat) (nx':Nat) (hv:look sl s=some (.s (.c (.d (.v (.slice none 0 0)))))) (hj:look bl j=none):Conv C ⟨sl,bl,nx⟩ ⟨(s,.s (.c (.tl j []))) :: sl,(j,.tail sz) :: bl,nx'⟩:=by
 intro ρ M a w hr
 refine ⟨fun i=>if i=j then .slice none 0 0 else ρ i,M,fun ρ' ha=>?_⟩
 have hag:Agree (look bl) ρ ρ':=fun i hi=>by
  have hne:i≠j:=fun e=>hi (e ▸ hj)
  have:=ha i (by show look ((j,Ob.tail sz) :: bl) i≠none;rw [au,if_neg (Ne.symm hne)];exact hi)
  rw [this];exact if_neg hne
 have hnj:ρ' j=.slice none 0 0:=by
  have:=ha j (by show look ((j,Ob.tail sz) :: bl) j≠none;rw [au,if_pos rfl];simp)
  rw [this];exact if_pos rfl
 have h0:=hr ρ' hag
 refine ⟨h0.defers,h0.size,fun t u hu=>?_,?_⟩
 ·have hu':look ((s,AV.s (.c (.tl j []))) :: sl) t=some u:=hu
  rw [au] at hu'
  split at hu'
  ·rename_i e
   subst e
   cases hu'
   have:=bz (h0.slots s _ hv)
   exact ⟨by rw [this,hnj],by rw [this];exact Rep.nil⟩
  ·exact h0.slots t u hu'
 ·refine h0.heap.change j (fun _=>False) (fun _ h=>h.elim) ⟨rfl,rfl,rfl,Nat.le_refl _⟩ (fun _ _ _=>rfl) (Mem.le_refl _) (fun _ _ _=>⟨fun _=>rfl,rfl⟩) (fun b _=>⟨fun o v hv=>h0.heap.mem.cell b o v hv,fun o ho=>h0.heap.mem.obj b o ho⟩) (fun k ob hk=>?_)
  have hk':look ((j,Ob.tail sz) :: bl) k=some ob:=hk
  rw [au] at hk'
  split at hk'
  ·rename_i e
   subst e
   cases hk'
   refine .inr (.inr ⟨rfl,?_,fun b hb=>?_⟩)
   ·rw [hnj];exact ⟨none,0,0,rfl,Nat.le_refl _,fun h=>absurd h (Nat.lt_irrefl _)⟩
   ·rw [hnj] at hb;cases hb
  ·exact .inr (.inl ⟨hk',fun _ _ h=>h⟩)
theorem Conv.trans {a b c:AState} (h:Conv C a b) (h':Conv C b c):Conv C a c:=fun ρ M x w hr=>by
 obtain ⟨ρ1,M1,h1⟩:=h ρ M x w hr
 exact h' ρ1 M1 x w h1
theorem OkOps.conv {ops:Array Oper} {l:List Oper} {Q:AState→Prop} {st T:AState} (h:Conv C st T) (hk:OkOps P C ops l Q T):OkOps P C ops l Q st:=fun Q' hQ ρ M a w hr=>by
 obtain ⟨ρ',M',hr'⟩:=h ρ M a w hr
 exact hk Q' hQ ρ' M' a w hr'
theorem az {S R:Type} {c:Code} {Q:Exit→AState→Prop} {st:AState} (I:S→AState) {B:(S→Option R)→S→Option R} {n:Nat} {s:S} {r:R} (hr:Go.E2.loopK B n s=some r) (h0:Conv C st (I s))
  (round:∀ (again:S→Option R) (s:S),B again s=some r→Ok P C c (thenQ (fun st=>∃ s',again s'=some r∧Conv C st (I s')) Q) (I s)):Ok P C (.loop c) Q st:=by
 refine zu (Nat×S) (fun x=>I x.2) (fun x=>Go.E2.loopK B x.1 x.2=some r) (fun x=>x.1) (n,s) hr (fun ρ M a w h=>h0 ρ M a w h) (fun x hx=>?_)
 obtain ⟨m,s⟩:=x
 cases m with
 | zero=>cases hx
 | succ m =>
  refine (round (Go.E2.loopK B m) s hx).mono ?_
  intro e st' hq
  cases e with
  | normal=>obtain ⟨s',h1,h2⟩:=hq;exact ⟨(m,s'),h1,Nat.lt_succ_self m,h2⟩
  | _=>exact hq
theorem ay {S R:Type} {x y:Code} {Q:Exit→AState→Prop} {st:AState} (J:S→AState) (k:S→Option R) (r:R) (hk:∀ s,k s=some r→Ok P C y Q (J s)) (hx:Ok P C x (thenQ (fun st=>∃ s,k s=some r∧Conv C st (J s)) Q) st):Ok P C (.seq x y) Q st:=by
 refine af (hx.mono ?_)
 intro e st' hq
 cases e with
 | normal=>obtain ⟨s,h1,h2⟩:=hq;exact Ok.conv h2 (hk s h1)
 | _=>exact hq
theorem bZ {S R:Type} {x:Code} {Q:Exit→AState→Prop} {st:AState} (J:S→AState) (k:S→Option R) (r:R) (hk:∀ s,k s=some r→Q .normal (J s)) (hx:Ok P C x (thenQ (fun st=>∃ s,k s=some r∧Conv C st (J s)) Q) st):Ok P C x Q st:=by
 intro ρ M a w hr
 refine wpIn_mono (hx ρ M a w hr) ?_
 rintro e a' w' ⟨st',ρ',M',hr',hq⟩
 cases e with
 | normal =>
  obtain ⟨s,h1,h2⟩:=hq
  obtain ⟨ρ2,M2,hr2⟩:=h2 ρ' M' a' w' hr'
  exact ⟨J s,ρ2,M2,hr2,hk s h1⟩
 | _=>exact ⟨st',ρ',M',hr',hq⟩
variable {F:FS} {ops:Array Oper} {dst:Nat} {op:Op} {ty:TypeId} {pos:String} {after:Array Edge}
theorem aK {α:Type} {enc:α→List D} (L:List α) {t:TypeId} {x:Operand} (hx:rdS F x=some (L.map enc)) (ht:isSl P t=true) (hs:sideOk F true [x]) (hd:Nat.blt dst C.n=true) :
  TriL P C ops ⟨some dst,.call ⟨.builtin .len,#[x],#[t]⟩,ty,pos,after,none⟩ ⟨slotsOf [x],[],[dst],[]⟩ [(dst,.s (.c (.d (.v (.int .i64 L.length)))))] [] F:=by
 refine ⟨⟨rfl,rfl⟩,fun F' hS=>?_⟩
 have h1:=aG hS.1
 refine bC (x:=.c (.d (.v (.int .i64 L.length)))) rfl rfl hd (fun ρ M a w hr=>?_)
 have hR:=aR hr rfl (aC h1 hs)
 have:=rv (P:=P) (gF hR (by simp) ((fA (h1 x (by simp))).trans hx)) ht w
 rw [List.length_map] at this
 refine ⟨_,?_,Rep.v _⟩
 unfold execOp
 simp only [resolve,List.map_toArray,List.map_cons,List.map_nil,pure_bind,invoke]
 show (do let y ← Builtin.len_ #[t] ty #[a.eval x];pure (Next.value y):Sem Next).run P w=_
 exact aA this
theorem cy {α:Type} {enc:α→List D} (L:List α) {t:TypeId} {x:Operand} {gk:Nat} {want g:Bool} (hb:guardB F ops gk want=some g) (hx:rdS F x=some (L.map enc)) (ht:isSl P t=true) (hs:sideOk F g [x]) (hd:Nat.blt dst C.n=true) :
  TriL P C ops ⟨some dst,.call ⟨.builtin .len,#[x],#[t]⟩,ty,pos,after,some (gk,want)⟩ ⟨gSlot ops gk++slotsOf [x],[],[dst],[]⟩ [(dst,.gd g (.c (.d (.v (.int .i64 L.length)))))] [] F:=by
 refine ⟨⟨rfl,rfl⟩,fun F' hS=>?_⟩
 have h1:=aG (F:=F) (F':=F') (xs:=[x]) (fun t ht=>hS.1 t (by simp [ht]))
 refine cX (x:=.c (.d (.v (.int .i64 L.length)))) rfl ((bS (fun t ht=>hS.1 t (by simp [ht]))).trans hb) rfl hd (fun hg ρ M a w hr=>?_)
 have hR:=aR hr hg (aC h1 hs)
 have:=rv (P:=P) (gF hR (by simp) ((fA (h1 x (by simp))).trans hx)) ht w
 rw [List.length_map] at this
 refine ⟨_,?_,Rep.v _⟩
 unfold execOp
 simp only [resolve,List.map_toArray,List.map_cons,List.map_nil,pure_bind,invoke]
 show (do let y ← Builtin.len_ #[t] ty #[a.eval x];pure (Next.value y):Sem Next).run P w=_
 exact aA this
theorem r7 {t t':TypeId} {x y:Operand} {k:IntKind} {a b c:Int} (hb:nzO b (a.tmod b)=some c) (hx:rdV F x=some (.int k a)) (hy:rdV F y=some (.int k b)) (hs:sideOk F true [x,y]) (hn:Nat.blt dst C.n=true) :
  TriL P C ops ⟨some dst,.binOp .rem t x y t',ty,pos,after,none⟩ ⟨slotsOf [x,y],[],[dst],[]⟩ [(dst,.s (.c (.d (.v (.int k c)))))] [] F:=by
 obtain ⟨hb0,rfl⟩:=wX hb
 refine ⟨⟨rfl,rfl⟩,fun F' hS=>?_⟩
 have h1:=aG hS.1
 refine bC (x:=.c (.d (.v (.int k (a.tmod b))))) rfl rfl hn (fun ρ M a' w hr=>⟨_,?_,Rep.v _⟩)
 have hR:=aR hr rfl (aC h1 hs)
 unfold execOp
 simp only
 rw [a7 hR (by simp) ((ba (h1 x (by simp))).trans hx),a7 hR (by simp) ((ba (h1 y (by simp))).trans hy)]
 have:(eqGuard .rem t x y (.int k a) (.int k b) >>= fun _=>binOp .rem t (.int k a) (.int k b)).run P w=.ok (.int k (a.tmod b)) w:=by
  simp only [eqGuard,binOp,ne_eq,not_true_eq_false,if_false,Op.intDiv,hb0]
  rfl
 exact aA this
end Go.E2
end
section
namespace Go.E2
def tau (l:List (Nat×Nat)) (i:Nat):Nat:=match look l i with
 | some k=>k
 | none=>i
abbrev dInt (k:IntKind) (x:Int):D:=.v (.int k x)
def eInt (k:IntKind) (x:Int):List D:=[.v (.int k x)]
def eBool (x:Bool):List D:=[.v (.bool x)]
def eStr (x:Str):List D:=[.v (.string x)]
def eSl {α:Type} (e:α→List D) (l:List α):List D:=[.sl (List.map e l)]
theorem ax {S R:Type} {k:S→Option R} {b:(S→Option R)→Option R} {r:R} (hr:jn k b=some r):∃ k',k'=k∧b k'=some r:=⟨k,rfl,hr⟩
section
variable {P:Program} {C:Ctx} {F:FS} {ops:Array Oper} {dst:Nat} {ty:TypeId} {pos:String} {after:Array Edge}
end
def mxI (x y:Int):Int:=if y>x then y else x
def bAnd (k:IntKind) (x y:Int):Int:=k.wrap (BitVec.ofInt k.bits x &&& BitVec.ofInt k.bits y).toNat
def bOr (k:IntKind) (x y:Int):Int:=k.wrap (BitVec.ofInt k.bits x ||| BitVec.ofInt k.bits y).toNat
def bShl (k:IntKind) (x y:Int):Int:=k.wrap (x*2 ^ (min y.toNat k.bits))
def bShr (k:IntKind) (x y:Int):Int:=x.fdiv (2 ^ (min y.toNat k.bits))
end Go.E2
end
section
namespace Go.E2
variable {P:Program} {C:Ctx} {F:FS} {ops:Array Oper} {dst:Nat} {op:Op} {ty:TypeId} {pos:String} {after:Array Edge}
theorem dF {ρ:Env} {M:Mem} {w:World} {α:Type} {enc:α→List D} {L:List α} {sz:Nat} {v:Value} (h:Inv1 ρ M w (.vec sz (L.map enc)) v):∃ a cap,v=.slice a L.length cap∧L.length≤cap∧(0<cap→∃ (b off:Nat) (arr:Array Value) (ty:TypeId) (vs:List Value),a=some ⟨b,off,none⟩∧w.heap[b]? = some (.cells arr ty (0,0))∧off+cap*sz≤arr.size∧(∀ o,M.cell b o=none)∧RepsD M (L.map enc).flatten vs∧(∀ (k:Nat) u,vs[k]? = some u→arr[off+k]? = some u)):=by
 obtain ⟨a,cap,rfl,hc,hrow,hx⟩:=h
 rw [List.length_map] at hc ⊢
 refine ⟨a,cap,rfl,hc,fun hp=>?_⟩
 obtain ⟨b,off,arr,ty',f,rfl,h1,h2,h3,h4⟩:=hx hp
 have hrows:Rows sz (L.map enc):=fun row hr=>by
  obtain ⟨i,hi,e⟩:=List.getElem_of_mem hr
  exact hrow i row (by rw [List.getElem?_eq_getElem hi,e])
 -- as in memory that stays: we lay the cells into a memory of their own
 let M2:Mem:=⟨fun b' o=>if b'=b then arr[o]? else M.cell b' o,M.obj,M.junk⟩
 have hle:M.le M2:=⟨fun b' o v hv=>by
  show (if b'=b then arr[o]? else M.cell b' o)=some v
  rw [if_neg (fun e=>by rw [e,h3 o] at hv;cases hv)];exact hv,fun _ _ h=>h,fun _ _ h=>h⟩
 have key:∀ (l':List (List D)) (k:Nat),(∀ (i:Nat) row,l'[i]? = some row→(L.map enc)[k+i]? = some row)→∃ vs,RepsD M l'.flatten vs∧∀ (q:Nat) u,vs[q]? = some u→arr[off+k*sz+q]? = some u:=by
  intro l'
  induction l' with
  | nil=>intro k _;exact ⟨[],trivial,fun q u hq=>by simp at hq⟩
  | cons x r ih =>
   intro k hl'
   have hx:(L.map enc)[k]? = some x:=by simpa using hl' 0 x rfl
   obtain ⟨us,u1,u2⟩:=ih (k+1) (fun i row hi=>by
    have:=hl' (i+1) row (by simpa using hi)
    rw [show k+1+i=k+(i+1) by omega];exact this)
   have row:∀ (y:List D) (m:Nat),(∀ (j:Nat) d,y[j]? = some d→x[m+j]? = some d)→∃ vs,RepsD M y vs∧∀ (q:Nat) u,vs[q]? = some u→arr[off+k*sz+(m+q)]? = some u:=by
    intro y
    induction y with
    | nil=>intro m _;exact ⟨[],trivial,fun q u hq=>by simp at hq⟩
    | cons d ds ihy =>
     intro m hy
     have hd:x[m]? = some d:=by simpa using hy 0 d rfl
     obtain ⟨vs,v1,v2⟩:=ihy (m+1) (fun j d' hj=>by
      have:=hy (j+1) d' (by simpa using hj)
      rw [show m+1+j=m+(j+1) by omega];exact this)
     obtain ⟨g1,g2⟩:=h4 k x m d hx hd
     refine ⟨f k m :: vs,⟨g2,v1⟩,fun q u hq=>?_⟩
     cases q with
     | zero=>simp at hq;subst hq;rw [Nat.add_zero];exact g1
     | succ q =>
      have:=v2 q u (by simpa using hq)
      rw [show m+(q+1)=m+1+q by omega];exact this
   obtain ⟨vs,v1,v2⟩:=row x 0 (fun j d hj=>by simpa using hj)
   refine ⟨vs++us,by rw [List.flatten_cons];exact v1.append u1,fun q u hq=>?_⟩
   have hvl:vs.length=sz:=by rw [v1.len];exact hrow k x hx
   rcases Nat.lt_or_ge q vs.length with hlt | hge
   ·rw [List.getElem?_append_left hlt] at hq
    have:=v2 q u hq
    simpa using this
   ·rw [List.getElem?_append_right hge] at hq
    have:=u2 _ u hq
    rw [hvl] at this hge
    rw [Nat.succ_mul] at this
    rw [show off+k*sz+q=off+(k*sz+sz)+(q - sz) by omega];exact this
 obtain ⟨vs,v1,v2⟩:=key (L.map enc) 0 (fun i row hi=>by simpa using hi)
 exact ⟨b,off,arr,ty',vs,rfl,h1,h2,h3,v1,fun k u hk=>by simpa using v2 k u hk⟩
theorem nM {ρ:Env} {M:Mem} {w:World} {α:Type} {enc:α→List D} {L:List α} {sz cap b off:Nat} {arr:Array Value} {ty:TypeId} {vs:List Value} (hsz:allR sz enc) (hc:L.length≤cap) (h1:w.heap[b]? = some (.cells arr ty (0,0))) (h2:off+cap*sz≤arr.size) (h3:∀ o,M.cell b o=none) (h4:RepsD M (L.map enc).flatten vs) (h5:∀ (k:Nat) u,vs[k]? = some u→arr[off+k]? = some u) :
  Inv1 ρ M w (.vec sz (L.map enc)) (.slice (some ⟨b,off,none⟩) L.length cap):=by
 refine ⟨_,cap,by rw [List.length_map],by rw [List.length_map];exact hc,fun i row hi=>aO hsz L row (List.mem_of_getElem? hi),fun _=>?_⟩
 refine ⟨b,off,arr,ty,fun i j=>(vs[i*sz+j]?).getD undef,rfl,h1,h2,h3,fun i row j d hi hj=>?_⟩
 have hrow:row.length=sz:=aO hsz L row (List.mem_of_getElem? hi)
 have hjl:j<row.length:=(List.getElem?_eq_some_iff.1 hj).1
 have hfl:=fq (aO hsz L) i j row hi (by omega)
 obtain ⟨u,g1,g2⟩:=h4.get _ d (by rw [hfl];exact hj)
 simp only [g1]
 exact ⟨by rw [Nat.add_assoc];exact h5 _ _ g1,g2⟩
theorem jh (z:List Value) (n:Nat):(zlist z n).length=n:=by simp [zlist]
theorem pD {M:Mem} {z:List Value} {row:List D} (h:RepsD M row z) (hz:z≠[]):∀ n,RepsD M (List.replicate n row).flatten (zlist z (n*z.length))
 | 0=>by simp [zlist];trivial
 | n+1=>by
  have ih:=pD h hz n
  have hpos:0<z.length:=by cases z with
   | nil=>exact absurd rfl hz
   | cons _ _=>simp
  have e:zlist z ((n+1)*z.length)=zlist z (n*z.length)++z:=by
   apply List.ext_getElem?
   intro k
   rcases Nat.lt_or_ge k (n*z.length) with h1 | h1
   ·rw [List.getElem?_append_left (by rw [jh];exact h1)]
    have h2:k<(n+1)*z.length:=by rw [Nat.succ_mul];omega
    simp [zlist,h1,h2]
   ·rw [List.getElem?_append_right (by rw [jh];exact h1),jh]
    rcases Nat.lt_or_ge k ((n+1)*z.length) with h2 | h2
    ·have h3:k - n*z.length<z.length:=by rw [Nat.succ_mul] at h2;omega
     have h4:k % z.length=k - n*z.length:=by
      conv=>lhs;rw [show k=(k - n*z.length)+z.length*n by have:=Nat.mul_comm z.length n;omega]
      rw [Nat.add_mul_mod_self_left,Nat.mod_eq_of_lt h3]
     simp only [zlist,List.getElem?_map,List.getElem?_range h2,Option.map_some,List.size_toArray,h4]
     rw [List.getElem?_eq_getElem h3]
     simp [h3]
    ·have h3:z.length≤k - n*z.length:=by rw [Nat.succ_mul] at h2;omega
     rw [List.getElem?_eq_none (by rw [jh];exact h2),List.getElem?_eq_none h3]
  rw [e,List.replicate_succ',List.flatten_append]
  simp only [List.flatten_cons,List.flatten_nil,List.append_nil]
  exact ih.append h
theorem RelW.allocO {bl:Nat→Option Ob} {ρ:Env} {M:Mem} {w:World} {o:Obj} {ob:Ob} {j:Nat} (h:RelW C bl ρ M w) (hi:Inv1 ρ M (w.alloc o) ob (ρ j)) (hb:∀ b,ob.blkOf (ρ j)=some b→w.heap.size≤b):RelW C (over [(j,ob)] bl) ρ M (w.alloc o):=by
 refine h.change j (fun _=>False) (fun _ h=>h.elim) ⟨rfl,rfl,rfl,by rw [dN];simp⟩ (fun b hb _=>iO hb) (Mem.le_refl _) (fun _ _ _=>⟨fun _=>rfl,rfl⟩) (fun b hb=>?_) (fun k ob' hk=>?_)
 ·rcases hb with hb | hb
  ·exact hb.elim
  ·have:=h.mem.none hb
   exact ⟨fun o v hv=>(by rw [this.1 o] at hv;cases hv),fun o ho=>(by rw [this.2] at ho;cases ho)⟩
 ·rw [bP] at hk
  split at hk
  ·rename_i e
   subst e
   cases hk
   exact .inr (.inr ⟨rfl,hi,fun b hb'=>.inr (hb b hb')⟩)
  ·exact .inr (.inl ⟨hk,fun _ _ h=>h⟩)
theorem ly {α:Type} {enc:α→List D} (L:List α) {t:TypeId} {x:Operand} {j sz:Nat} (hx:opnd F x=some (.s (.c (.own j)))) (hj:F.bl j=some (.vec sz (L.map enc))) (ht:isSl P t=true) (hd:Nat.blt dst C.n=true) :
  TriL P C ops ⟨some dst,.call ⟨.builtin .len,#[x],#[t]⟩,ty,pos,after,none⟩ ⟨slotsOf [x],[j],[dst],[]⟩ [(dst,.s (.c (.d (.v (.int .i64 L.length)))))] [] F:=by
 refine ⟨⟨rfl,rfl⟩,fun F' hS=>?_⟩
 have h1:=aG hS.1
 refine bC (x:=.c (.d (.v (.int .i64 L.length)))) rfl rfl hd (fun ρ M a w hr=>?_)
 have e:a.eval x=ρ j:=aU hr ((h1 x (by simp)).trans hx)
 obtain ⟨b,cap,hv,_⟩:=dF (hr.heap.inv j _ ((hS.2 j (by simp)).trans hj))
 refine ⟨_,?_,Rep.v _⟩
 unfold isSl at ht
 split at ht
 ·rename_i et hu
  have hun:(underlying t).run P w=.ok (.slice et) w:=by simp [underlying,program,Sem.run,hu]
  unfold execOp
  simp only [resolve,List.map_toArray,List.map_cons,List.map_nil,pure_bind,invoke,e,hv]
  refine aA ?_
  unfold Builtin.len_
  simp only [List.getElem?_toArray,List.getElem?_cons_zero]
  rw [ag hun]
  rfl
 ·cases ht
theorem sL {α:Type} {enc:α→List D} {L:List α} {ρ:Env} {M:Mem} {w:World} {j sz t e:Nat} (hv:Inv1 ρ M w (.vec sz (L.map enc)) (ρ j)) (ht:slInfo P t=some (e,sz)) {ik:IntKind} {i:Int} {k:Nat} (hi:ixO L.length i=some k) :
  ∃ u,(Instr.indexAt t (ρ j) (.int ik i)).run P w=.ok u w∧(Cell.vl j (k*sz)).rep ρ M u:=by
 obtain ⟨rfl,hk⟩:=e9 hi
 obtain ⟨a,cap,e1,hc,hx⟩:=dF hv
 obtain ⟨b,off,arr,ty',vs,rfl,_⟩:=hx (by omega)
 refine ⟨.pointer (some ⟨b,off+k*sz,none⟩),?_,?_⟩
 ·rw [e1]
  have hl:(0:Int)≤(k:Int)∧(k:Int)<(L.length:Int):=⟨Int.natCast_nonneg k,Int.ofNat_lt.mpr hk⟩
  unfold Instr.indexAt
  have hkk:(asIntOf (.int ik (k:Int))).run P w=.ok (ik,(k:Int)) w:=rfl
  rw [ag hkk]
  simp only
  have hu:=bt ht w
  rw [ag hu]
  simp only [pure_bind]
  rw [ag hu]
  simp only [hl,and_self,if_true]
  rw [ag (bM ht w)]
  rw [d9]
  rfl
 ·show _=vptr ρ j (k*sz)
  unfold vptr
  rw [e1]
theorem gw {α:Type} {enc:α→List D} {L:List α} {t e sz j:Nat} {x i:Operand} {ik:IntKind} {n:Int} {k:Nat} (hi:ixO L.length n=some k) (hx:opnd F x=some (.s (.c (.own j)))) (hj:F.bl j=some (.vec sz (L.map enc))) (hn:rdV F i=some (.int ik n)) (ht:slInfo P t=some (e,sz)) (hs:sideOk F true [x,i]) (hd:Nat.blt dst C.n=true) :
  TriL P C ops ⟨some dst,.indexAddr t x i,ty,pos,after,none⟩ ⟨slotsOf [x,i],[j],[dst],[]⟩ [(dst,.s (.c (.vl j (k*sz))))] [] F:=by
 refine ⟨⟨rfl,rfl⟩,fun F' hS=>?_⟩
 have h1:=aG hS.1
 refine bC (x:=.c (.vl j (k*sz))) rfl rfl hd (fun ρ M a w hr=>?_)
 have hR:=aR hr rfl (aC h1 hs)
 have e0:a.eval x=ρ j:=aU hr ((h1 x (by simp)).trans hx)
 obtain ⟨u,g1,g2⟩:=sL (P:=P) (ik:=ik) (hr.heap.inv j _ ((hS.2 j (by simp)).trans hj)) ht hi
 refine ⟨u,?_,g2⟩
 unfold execOp
 simp only
 rw [e0,a7 hR (by simp) ((ba (h1 i (by simp))).trans hn)]
 exact aA g1
theorem sc {α:Type} {enc:α→List D} {L:List α} {t e sz j:Nat} {x i:Operand} {ik:IntKind} {n:Int} {k:Nat} {gk:Nat} {want g:Bool} (hi:g=true→ixO L.length n=some k) (hb:guardB F ops gk want=some g) (hx:rd F x=some (.c (.own j))) (hj:F.bl j=some (.vec sz (L.map enc))) (hn:rdV F i=some (.int ik n)) (ht:slInfo P t=some (e,sz)) (hs:sideOk F g [x,i]) (hd:Nat.blt dst C.n=true) :
  TriL P C ops ⟨some dst,.indexAddr t x i,ty,pos,after,some (gk,want)⟩ ⟨gSlot ops gk++slotsOf [x,i],[j],[dst],[]⟩ [(dst,.gd g (.c (.vl j (k*sz))))] [] F:=by
 refine ⟨⟨rfl,rfl⟩,fun F' hS=>?_⟩
 have h1:=aG (F:=F) (F':=F') (xs:=[x,i]) (fun t ht=>hS.1 t (by simp [ht]))
 refine cX (x:=.c (.vl j (k*sz))) rfl ((bS (fun t ht=>hS.1 t (by simp [ht]))).trans hb) rfl hd (fun hg ρ M a w hr=>?_)
 have hR:=aR hr hg (aC h1 hs)
 have e0:a.eval x=ρ j:=hR x (by simp) _ ((dm (h1 x (by simp))).trans hx)
 obtain ⟨u,g1,g2⟩:=sL (P:=P) (ik:=ik) (hr.heap.inv j _ ((hS.2 j (by simp)).trans hj)) ht (hi hg)
 refine ⟨u,?_,g2⟩
 unfold execOp
 simp only
 rw [e0,a7 hR (by simp) ((ba (h1 i (by simp))).trans hn)]
 exact aA g1
theorem qs {α:Type} {enc:α→List D} {L:List α} {ρ:Env} {M:Mem} {w:World} {j sz t k:Nat} {y:α} {x:A1} (hv:Inv1 ρ M w (.vec sz (L.map enc)) (ρ j)) (hsz:allR sz enc) (hy:L[k]? = some y) (ht:takeA P t (dcells (enc y)) 0=some x) :
  ∃ u,(Instr.loadAt t (vptr ρ j (k*sz))).run P w=.ok u w∧x.rep ρ M u:=by
 have hk:k<L.length:=(List.getElem?_eq_some_iff.1 hy).1
 obtain ⟨a,cap,e1,hc,hx⟩:=dF hv
 obtain ⟨b,off,arr,ty',vs,rfl,h1,h2,h3,h4,h5⟩:=hx (by omega)
 have hrow:(L.map enc)[k]? = some (enc y):=by simp [hy]
 have hkey:∀ (row:List D) (m:Nat),(∀ (i:Nat) d,row[i]? = some d→(enc y)[m+i]? = some d)→∃ us,Reps ρ M (dcells row) us∧∀ (i:Nat) v,us[i]? = some v→w.cell? ⟨b,off+k*sz+m+i,none⟩=some v:=by
  intro row
  induction row with
  | nil=>intro m _;exact ⟨[],trivial,fun i v hv=>by simp at hv⟩
  | cons d r ih =>
   intro m hm
   have hd:(enc y)[m]? = some d:=by simpa using hm 0 d rfl
   obtain ⟨us,r1,r2⟩:=ih (m+1) (fun i d' hi=>by
    have:=hm (i+1) d' (by simpa using hi)
    rw [show m+1+i=m+(i+1) by omega];exact this)
   have hml:m<sz:=by rw [← hsz y];exact (List.getElem?_eq_some_iff.1 hd).1
   obtain ⟨u,g1,g2⟩:=h4.get (k*sz+m) d (by rw [fq (aO hsz L) k m (enc y) hrow hml];exact hd)
   refine ⟨u :: us,⟨g2,r1⟩,fun i v hv=>?_⟩
   cases i with
   | zero =>
    simp at hv;subst hv
    have:=h5 _ _ g1
    simp only [World.cell?,h1]
    rw [Nat.add_zero,Nat.add_assoc];simpa using this
   | succ i =>
    have:=r2 i v (by simpa using hv)
    rw [show off+k*sz+m+(i+1)=off+k*sz+(m+1)+i by omega];exact this
 obtain ⟨us,r1,r2⟩:=hkey (enc y) 0 (fun i d hi=>by simpa using hi)
 obtain ⟨u,q1,q2⟩:=kQ (P:=P) (w:=w) (b:=b) (o0:=off+k*sz) (off:=0) (fun i v hv=>by have:=r2 i v hv;simpa using this) r1 ht
 refine ⟨u,?_,q2⟩
 have e2:vptr ρ j (k*sz)=.pointer (some ⟨b,off+k*sz,none⟩):=by unfold vptr;rw [e1]
 rw [e2]
 exact q1
theorem jJ {α:Type} {enc:α→List D} {L:List α} {t sz j k:Nat} {x:Operand} {y:α} {row:List D} {r:A1} (hy:L[k]? = some y) (hrow:enc y=row) (hx:opnd F x=some (.s (.c (.vl j (k*sz))))) (hj:F.bl j=some (.vec sz (L.map enc))) (hsz:allR sz enc) (ht:takeA P t (dcells row) 0=some r) (hd:Nat.blt dst C.n=true) :
  TriL P C ops ⟨some dst,.load t x,ty,pos,after,none⟩ ⟨slotsOf [x],[j],[dst],[]⟩ [(dst,.s r)] [] F:=by
 subst hrow
 refine ⟨⟨rfl,rfl⟩,fun F' hS=>?_⟩
 have h1:=aG hS.1
 refine bC (x:=r) rfl rfl hd (fun ρ M a w hr=>?_)
 have e0:a.eval x=vptr ρ j (k*sz):=aU hr ((h1 x (by simp)).trans hx)
 obtain ⟨u,g1,g2⟩:=qs (P:=P) (hr.heap.inv j _ ((hS.2 j (by simp)).trans hj)) hsz hy ht
 refine ⟨u,?_,g2⟩
 unfold execOp
 simp only
 rw [e0]
 exact aA g1
theorem pL {α:Type} {enc:α→List D} {L:List α} {t sz j k:Nat} {x:Operand} {y:α} {row:List D} {r:A1} {gk:Nat} {want g:Bool} (hy:g=true→L[k]? = some y) (hrow:enc y=row) (hb:guardB F ops gk want=some g) (hx:rd F x=some (.c (.vl j (k*sz)))) (hj:F.bl j=some (.vec sz (L.map enc))) (hsz:allR sz enc) (ht:takeA P t (dcells row) 0=some r) (hs:sideOk F g [x]) (hd:Nat.blt dst C.n=true) :
  TriL P C ops ⟨some dst,.load t x,ty,pos,after,some (gk,want)⟩ ⟨gSlot ops gk++slotsOf [x],[j],[dst],[]⟩ [(dst,.gd g r)] [] F:=by
 subst hrow
 refine ⟨⟨rfl,rfl⟩,fun F' hS=>?_⟩
 have h1:=aG (F:=F) (F':=F') (xs:=[x]) (fun t ht=>hS.1 t (by simp [ht]))
 refine cX (x:=r) rfl ((bS (fun t ht=>hS.1 t (by simp [ht]))).trans hb) rfl hd (fun hg ρ M a w hr=>?_)
 have hR:=aR hr hg (aC h1 hs)
 have e0:a.eval x=vptr ρ j (k*sz):=hR x (by simp) _ ((dm (h1 x (by simp))).trans hx)
 obtain ⟨u,g1,g2⟩:=qs (P:=P) (hr.heap.inv j _ ((hS.2 j (by simp)).trans hj)) hsz (hy hg) ht
 refine ⟨u,?_,g2⟩
 unfold execOp
 simp only
 rw [e0]
 exact aA g1
theorem kz {sz:Nat}:∀ {l:List (List D)} {row:List D} (k:Nat),Rows sz l→row.length=sz→k<l.length→∀ (q:Nat),(l.set k row).flatten[q]? = if k*sz≤q∧q<k*sz+sz then row[q - k*sz]? else l.flatten[q]?
 | [],row,k,_,_,hk,q=>by simp at hk
 | x :: r,row,0,hr,hl,hk,q=>by
  have hx:=hr x (by simp)
  simp only [List.set_cons_zero,List.flatten_cons,Nat.zero_mul,Nat.zero_add,Nat.zero_le,true_and,Nat.sub_zero]
  split
  ·rw [List.getElem?_append_left (by omega)]
  ·rw [List.getElem?_append_right (by omega),List.getElem?_append_right (by omega),hl,hx]
 | x :: r,row,k+1,hr,hl,hk,q=>by
  have hx:=hr x (by simp)
  simp only [List.set_cons_succ,List.flatten_cons]
  rcases Nat.lt_or_ge q x.length with h1 | h1
  ·rw [List.getElem?_append_left h1,List.getElem?_append_left h1,if_neg (by rw [Nat.succ_mul];omega)]
  ·rw [List.getElem?_append_right h1,List.getElem?_append_right h1,kz k (fun y hy=>hr y (by simp [hy])) hl (by simpa using hk) (q - x.length)]
   have e1:(k*sz≤q - x.length∧q - x.length<k*sz+sz)↔((k+1)*sz≤q∧q<(k+1)*sz+sz):=by rw [Nat.succ_mul];omega
   by_cases h2:k*sz≤q - x.length∧q - x.length<k*sz+sz
   ·rw [if_pos h2,if_pos (e1.1 h2)];congr 1;rw [Nat.succ_mul];omega
   ·rw [if_neg h2,if_neg (fun h=>h2 (e1.2 h))]
theorem RepsD.ofGet {M:Mem}:∀ {ds:List D} {vs:List Value},vs.length=ds.length→(∀ (i:Nat) d v,ds[i]? = some d→vs[i]? = some v→Rep M d v)→RepsD M ds vs
 | [],[],_,_=>trivial
 | [],_ :: _,h,_=>by simp at h
 | _ :: _,[],h,_=>by simp at h
 | d :: ds,v :: vs,h,hg=>⟨hg 0 d v rfl rfl,RepsD.ofGet (by simpa using h) (fun i d' v' hd hv=>hg (i+1) d' v' (by simpa using hd) (by simpa using hv))⟩
theorem kM        {α : Type} {enc : α → List D} {L : List α} {t sz j k : Nat} {b0 : Bool} {x y : Operand} {v : A1} (z : α) (hk : Nat.blt k L.length = true ∨ k < L.length) (hx : opnd F x = some (.s (.c (.vl j (k * sz))))) (hj : F.bl j = some (.vec sz (L.map enc))) (hy : opnd F y = some (.s v)) (hp : lZ     v = true) (hD : rowD v.cells = some (enc z)) (hone : rowOne (enc z) = true) (hsz : allR sz enc) (ht : tinfo P t = some (sz, b0)) :
    TriL P C ops ⟨none, .store t x y, ty, pos, after, none⟩ ⟨slotsOf [x, y], [j], [], [j]⟩ [] [(j, .vec sz ((L.set k z).map enc))] F := by
  have hk : k < L.length := by rcases hk with h | h; exact Nat.blt_eq.mp h; exact h
  refine ⟨⟨rfl, rfl⟩, fun F' hS => ?_⟩
  have h1 := aG        hS.1
  have hj' : F'.bl j = some (.vec sz (L.map enc)) := (hS.2 j (by simp)).trans hj
  have hx' := (h1 x (by simp)).trans hx
  have hy' := (h1 y (by simp)).trans hy
  refine kE      rfl rfl (fun k hk => cJ       hk) (fun ρ M a w hr => ?_)
  have ex : a.eval x = vptr ρ j (k * sz) := aU       hr hx'
  have ey : v.rep ρ M (a.eval y) := aU       hr hy'
  obtain ⟨ad, cap, e1, hc, hx2⟩ := dF       (hr.heap.inv j _ hj')
  obtain ⟨b, off, arr, ty', vs, rfl, g1, g2, g3, g4, g5⟩ := hx2 (by omega)
  have ex2 : a.eval x = .pointer (some ⟨b, off + k * sz, none⟩) := by rw [ex]; unfold vptr; rw [e1]
  have hcr := iW       hD (A1.cells_rep hp ey)
  have hlen : (a.eval y).cells.toList.length = sz := by rw [hcr.len]; exact hsz z
  have hvl : vs.length = L.length * sz := by rw [g4.len, a6          (aO       hsz L), List.length_map]
  have hkk : (k + 1) * sz ≤ cap * sz := Nat.mul_le_mul_right sz (by omega)
  have hsm : (k + 1) * sz = k * sz + sz := Nat.succ_mul k sz
  have hkL : (k + 1) * sz ≤ L.length * sz := Nat.mul_le_mul_right sz (by omega)
  obtain ⟨w', q1, q2, q3, q4, q5, q6, q7⟩ := ca             (P := P) (b := b) (off := off + k * sz) (ty := ty') (a.eval y).cells.toList 0 w arr g1 (ga         hone hcr) (by omega)
  rw [Nat.add_zero] at q2
  refine ⟨w', M, ?_, Mem.le_refl _, fun ρ' h0 => ?_⟩
  · unfold execOp
    simp only [ex2]
    have hsv : (storeVar t ⟨b, off + k * sz, none⟩ (a.eval y)).run P w = .ok () w' := by
      unfold storeVar
      rw [ag          (fh         ht w)]
      rw [if_neg (by have : (a.eval y).cells.size = sz := by simpa using hlen
                     simp [this])]
      exact q1
    show (do storeVar t ⟨b, off + k * sz, none⟩ (a.eval y); pure Next.skip : Sem Next).run P w = _
    rw [ag          hsv]
    rfl
  · have ex' : a.eval x = vptr ρ' j (k * sz) := aU       h0 hx'
    obtain ⟨ad', cap', e1', hc', hx2'⟩ := dF       (h0.heap.inv j _ hj')
    obtain ⟨b', off', arr', ty2, vs', rfl, g1', g2', g3', g4', g5'⟩ := hx2' (by omega)
    have ex2' : a.eval x = .pointer (some ⟨b', off' + k * sz, none⟩) := by rw [ex']; unfold vptr; rw [e1']
    have eb : b' = b ∧ off' = off := by
      have := ex2'.symm.trans ex2
      simp only [Value.pointer.injEq, Option.some.injEq, Addr.mk.injEq] at this
      omega
    obtain ⟨rfl, rfl⟩ := eb
    have ea : arr' = arr ∧ ty2 = ty' := by have := g1'.symm.trans g1; simpa using this
    obtain ⟨rfl, rfl⟩ := ea
    have hcr' := iW       hD (A1.cells_rep hp (aU       h0 hy' : v.rep ρ' M (a.eval y)))
    have hpos : 0 < cap' := by omega
    have hown : (Ob.vec sz (L.map enc)).blkOf (ρ' j) = some b' := by rw [e1']; simp [Ob.blkOf, hpos]
    refine h0.heap.change j (fun x => x = b') ?_ ⟨q5, q6, q7, Nat.le_of_eq q4.symm⟩ (fun x _ hx => q3 x hx) (Mem.le_refl _) (fun _ _ _ => ⟨fun _ => rfl, rfl⟩) ?_ ?_ (fun x hx => by rw [hx]; exact h0.heap.noJunk hj' hown)
    · rintro x rfl _
      exact h0.heap.priv j _ _ hj' hown
    · rintro x (rfl | hx)
      · exact ⟨fun o v hv => (by rw [g3' o] at hv; cases hv), fun o ho => (by rw [h0.heap.mem.noObj g1'] at ho; cases ho)⟩
      · have := h0.heap.mem.none hx
        exact ⟨fun o v hv => (by rw [this.1 o] at hv; cases hv), fun o ho => (by rw [this.2] at ho; cases ho)⟩
    · intro k' ob hk'
      rw [bP      ] at hk'
      split at hk'
      · rename_i e
        subst e
        cases hk'
        refine .inr (.inr ⟨rfl, ?_, fun x hx => .inl (by rw [show (Ob.vec sz ((L.set k z).map enc)).blkOf (ρ' j) = (Ob.vec sz (L.map enc)).blkOf (ρ' j) by rw [e1']; rfl, hown] at hx; cases hx; rfl)⟩)
        rw [e1']
        have hsl : (L.set k z).length = L.length := by simp
        have hvl' : vs'.length = L.length * sz := by rw [g4'.len, a6          (aO       hsz L), List.length_map]
        rw [show (Value.slice (some ⟨b', off', none⟩) L.length cap') = .slice (some ⟨b', off', none⟩) (L.set k z).length cap' by rw [hsl]]
        refine nM     (vs := setV vs' (k * sz) (a.eval y).cells.toList) hsz (by rw [hsl]; exact hc') q2 (by simp [fX      ]; exact g2') g3' ?_ (fun q u hq => ?_)
        · rw [List.map_set]
          refine RepsD.ofGet ?_ (fun i d u hd hu => ?_)
          · rw [fX      , hvl', a6          (sz := sz), List.length_set, List.length_map]
            intro row hrow
            rcases List.mem_or_eq_of_mem_set hrow with h | h
            · exact aO       hsz L row h
            · rw [h]; exact hsz z
          · rw [kz          k (aO       hsz L) (hsz z) (by simpa using hk)] at hd
            rw [fx       _ _ _ _ (by omega), hlen] at hu
            split at hd
            · rename_i hc2
              rw [if_pos hc2] at hu
              obtain ⟨u2, u3, u4⟩ := hcr'.get _ d hd
              rw [hu] at u3; cases u3; exact u4
            · rename_i hc2
              rw [if_neg hc2] at hu
              obtain ⟨u2, u3, u4⟩ := g4'.get _ d hd
              rw [hu] at u3; cases u3; exact u4
        · rw [fx       _ _ _ _ (by omega), hlen] at hq
          rw [List.getElem?_toArray, fx       _ _ _ _ (by rw [hlen, Array.length_toList]; omega), hlen]
          split at hq
          · rename_i hc2
            rw [if_pos (by omega), show off' + q - (off' + k * sz) = q - k * sz by omega]; exact hq
          · rename_i hc2
            rw [if_neg (by omega)]
            simpa using g5' q u hq
      · rename_i e
        refine .inr (.inl ⟨hk', fun x hx hS' => ?_⟩)
        subst hS'
        exact e ((h0.heap.dist k' j _ _ _ hk' hj' hx hown).symm)
def allOwn (sl:List (Nat×AV)) (j:Nat):List Nat→Prop
 | []=>True
 | s :: r=>look sl s=some (.s (.c (.own j)))∧allOwn sl j r
theorem nr {sl:List (Nat×AV)} {j:Nat}:∀ {ss:List Nat},allOwn sl j ss→∀ s∈ss,look sl s=some (.s (.c (.own j)))
 | [],_,s,h=>by cases h
 | x :: r,hl,s,h=>by
  cases h with
  | head=>exact hl.1
  | tail _ hm=>exact nr hl.2 s hm
def frz (ss:List Nat) (v:AV) (sl:List (Nat×AV)):List (Nat×AV):=match ss with
 | []=>sl
 | s :: r=>(s,v) :: frz r v sl
theorem sQ {v:AV} {sl:List (Nat×AV)}:∀ {ss:List Nat} {t:Nat} {u:AV},look (frz ss v sl) t=some u→(t∈ss∧u=v)∨look sl t=some u
 | [],t,u,h=>.inr h
 | s :: r,t,u,h=>by
  unfold frz at h
  rw [au] at h
  split at h
  ·rename_i e;subst e;cases h;exact .inl ⟨by simp,rfl⟩
  ·rcases sQ h with ⟨h1,h2⟩ | h1
   ·exact .inl ⟨by simp [h1],h2⟩
   ·exact .inr h1
theorem jc {α:Type} {enc:α→List D} {L:List α} {sl:List (Nat×AV)} {bl:List (Nat×Ob)} {nx:Nat} (ss:List Nat) (j j' sz nx':Nat) (hv:allOwn sl j ss) (hj:look bl j=some (.vec sz (L.map enc))) (hsz:allR sz enc) (hj':look bl j'=none) :
  Conv C ⟨sl,bl,nx⟩ ⟨frz ss (.s (.c (.tl j' (L.map enc)))) sl,(j',.tail sz) :: (j,.dead) :: bl,nx'⟩:=by
 intro ρ M a w hr
 have hr0:=hr.at
 obtain ⟨ad,cap,e1,hc,hx⟩:=dF (hr0.heap.inv j _ hj)
 have hne:j≠j':=fun e=>by subst e;rw [hj] at hj';cases hj'
 -- the memory that stays,with the vector's cells
 have key:∃ M',M.le M'∧Rep M' (.sl (L.map enc)) (ρ j)∧∀ ρ',(∀ i,look bl i≠none→ρ' i=ρ i)→ρ' j'=ρ j→RelW C (look bl) ρ' M w→RelW C (look ((j',Ob.tail sz) :: (j,Ob.dead) :: bl)) ρ' M' w:=by
  by_cases hcap:0<cap
  ·obtain ⟨b,off,arr,ty',vs,rfl,g1,g2,g3,g4,g5⟩:=hx hcap
   have hle:M.le (M.put b off vs):=dP (fun o _=>g3 o)
   have hvl:vs.length=L.length*sz:=by rw [g4.len,a6 (aO hsz L),List.length_map]
   have hcs:L.length*sz≤cap*sz:=Nat.mul_le_mul_right sz hc
   refine ⟨M.put b off vs,hle,?_,fun ρ' hag hj1 h0=>?_⟩
   ·rw [e1]
    have:=dO (M:=M.put b off vs) (l:=L.map enc) (b:=b) (off:=off) (cap:=cap) (sz:=sz) (vs:=vs) (by rw [List.length_map];exact hc) (aO hsz L) (g4.mono hle) (fun k u hk=>fv hk)
    rwa [List.length_map] at this
   ·have hρj:ρ' j=.slice (some ⟨b,off,none⟩) L.length cap:=by rw [hag j (by rw [hj];simp),e1]
    have hown:(Ob.vec sz (L.map enc)).blkOf (ρ' j)=some b:=by rw [hρj];simp [Ob.blkOf,hcap]
    refine h0.change j' (fun x=>x=b) ?_ ⟨rfl,rfl,rfl,Nat.le_refl _⟩ (fun _ _ _=>rfl) hle (fun x _ hx=>⟨fun o=>cP hx,rfl⟩) ?_ ?_ (fun x hx=>by rw [hx];exact h0.noJunk hj hown)
    ·rintro x rfl _
     exact h0.priv j _ _ hj hown
    ·rintro x hx
     refine ⟨fun o v hv=>?_,fun o ho=>h0.mem.obj x o ho⟩
     by_cases hxb:x=b
     ·subst hxb
      rcases gT hv with ⟨h2,h3⟩ | h3
      ·have:=g5 _ _ h3
       simp only [World.cell?,g1]
       rw [show off+(o - off)=o by omega] at this
       simpa using this
      ·rw [g3 o] at h3;cases h3
     ·rw [cP hxb] at hv;exact h0.mem.cell x o v hv
    ·intro k ob hk
     rw [au,au] at hk
     split at hk
     ·rename_i e
      subst e
      cases hk
      refine .inr (.inr ⟨rfl,?_,fun x hx=>.inl ?_⟩)
      ·rw [hj1,e1]
       refine ⟨_,_,_,rfl,hc,fun hlt=>⟨b,off,arr,ty',rfl,g1,g2,fun o ho=>?_⟩⟩
       simp only [Mem.put]
       rw [if_neg (by omega)]
       exact g3 o
      ·rw [hj1,e1] at hx
       simp only [Ob.blkOf] at hx
       split at hx
       ·cases hx;rfl
       ·cases hx
     ·split at hk
      ·cases hk;exact .inl rfl
      ·rename_i e2
       refine .inr (.inl ⟨hk,fun x hxb hS'=>?_⟩)
       subst hS'
       exact e2 ((h0.dist k j _ _ _ hk hj hxb hown).symm)
  ·have hL:L=[]:=List.eq_nil_of_length_eq_zero (by omega)
   subst hL
   refine ⟨M,Mem.le_refl _,by rw [e1];exact Rep.nil,fun ρ' hag hj1 h0=>?_⟩
   have hcap0:cap=0:=by omega
   subst hcap0
   refine h0.change j' (fun _=>False) (fun _ h=>h.elim) ⟨rfl,rfl,rfl,Nat.le_refl _⟩ (fun _ _ _=>rfl) (Mem.le_refl _) (fun _ _ _=>⟨fun _=>rfl,rfl⟩) (fun b _=>⟨fun o v hv=>h0.mem.cell b o v hv,fun o ho=>h0.mem.obj b o ho⟩) (fun k ob hk=>?_)
   rw [au,au] at hk
   split at hk
   ·rename_i e
    subst e
    cases hk
    refine .inr (.inr ⟨rfl,?_,fun x hx=>?_⟩)
    ·rw [hj1,e1];exact ⟨_,_,_,rfl,Nat.le_refl _,fun h=>absurd h (by simp)⟩
    ·rw [hj1,e1] at hx
     cases ad with
     | none=>cases hx
     | some ad=>simp [Ob.blkOf] at hx
   ·split at hk
    ·cases hk;exact .inl rfl
    ·exact .inr (.inl ⟨hk,fun _ _ h=>h⟩)
 obtain ⟨M',hle,hrep,hrel⟩:=key
 refine ⟨fun i=>if i=j' then ρ j else ρ i,M',fun ρ' ha=>?_⟩
 have hag:∀ i,look bl i≠none→ρ' i=ρ i:=fun i hi=>by
  have hni:i≠j':=fun e=>hi (e ▸ hj')
  have:=ha i (by
   show look ((j',Ob.tail sz) :: (j,Ob.dead) :: bl) i≠none
   rw [au,if_neg (Ne.symm hni),au]
   split
   ·simp
   ·exact hi)
  rw [this];exact if_neg hni
 have hj1:ρ' j'=ρ j:=by
  have:=ha j' (by show look ((j',Ob.tail sz) :: (j,Ob.dead) :: bl) j'≠none;rw [au,if_pos rfl];simp)
  rw [this];exact if_pos rfl
 have h0:=hr ρ' (fun i hi=>hag i hi)
 refine ⟨h0.defers.mono hle,h0.size,fun t u hu=>?_,hrel ρ' hag hj1 h0.heap⟩
 rcases sQ (show look (frz ss (AV.s (.c (.tl j' (L.map enc)))) sl) t=some u from hu) with ⟨hm,rfl⟩ | hu'
 ·have h2:a.tmps.getD t undef=ρ' j:=h0.slots t _ (nr hv t hm)
  rw [hag j (by rw [hj];simp)] at h2
  exact ⟨by rw [h2,hj1],by rw [h2];exact hrep⟩
 ·exact (h0.slots t u hu').mono hle
theorem nA {α:Type} {enc:α→List D} {sl:List (Nat×AV)} {bl:List (Nat×Ob)} {nx:Nat} (s j sz:Nat) (nx':Nat) (hv:look sl s=some (.s (.c (.d (.v (.slice none 0 0)))))) (hj:look bl j=none):Conv C ⟨sl,bl,nx⟩ ⟨(s,.s (.c (.own j))) :: sl,(j,.vec sz (([]:List α).map enc)) :: bl,nx'⟩:=by
 intro ρ M a w hr
 refine ⟨fun i=>if i=j then .slice none 0 0 else ρ i,M,fun ρ' ha=>?_⟩
 have hag:Agree (look bl) ρ ρ':=fun i hi=>by
  have hne:i≠j:=fun e=>hi (e ▸ hj)
  have:=ha i (by show look ((j,_) :: bl) i≠none;rw [au,if_neg (Ne.symm hne)];exact hi)
  rw [this];exact if_neg hne
 have hnj:ρ' j=.slice none 0 0:=by
  have:=ha j (by show look ((j,_) :: bl) j≠none;rw [au,if_pos rfl];simp)
  rw [this];exact if_pos rfl
 have h0:=hr ρ' hag
 refine ⟨h0.defers,h0.size,fun t u hu=>?_,?_⟩
 ·have hu':look ((s,AV.s (.c (.own j))) :: sl) t=some u:=hu
  rw [au] at hu'
  split at hu'
  ·rename_i e
   subst e
   cases hu'
   have:=bz (h0.slots s _ hv)
   show _=ρ' j
   rw [this,hnj]
  ·exact h0.slots t u hu'
 ·refine h0.heap.change j (fun _=>False) (fun _ h=>h.elim) ⟨rfl,rfl,rfl,Nat.le_refl _⟩ (fun _ _ _=>rfl) (Mem.le_refl _) (fun _ _ _=>⟨fun _=>rfl,rfl⟩) (fun b _=>⟨fun o v hv=>h0.heap.mem.cell b o v hv,fun o ho=>h0.heap.mem.obj b o ho⟩) (fun k ob hk=>?_)
  have hk':look ((j,Ob.vec sz (([]:List α).map enc)) :: bl) k=some ob:=hk
  rw [au] at hk'
  split at hk'
  ·rename_i e
   subst e
   cases hk'
   refine .inr (.inr ⟨rfl,?_,fun b hb=>?_⟩)
   ·rw [hnj];exact ⟨none,0,rfl,Nat.le_refl _,fun i row hi=>by simp at hi,fun h=>absurd h (Nat.lt_irrefl _)⟩
   ·rw [hnj] at hb;cases hb
  ·exact .inr (.inl ⟨hk',fun _ _ h=>h⟩)
def seen (F:FS):List A1→List A1→Prop
 | [],[]=>True
 | y :: ys,x :: xs=>((y=x∨y.norm=x)∨∃ j sz l,y=.c (.own j)∧F.bl j=some (.vec sz l)∧x=.c (.d (.sl l)))∧seen F ys xs
 | _,_=>False
def ownsOf:List A1→List Nat
 | []=>[]
 | .c (.own j) :: r=>j :: ownsOf r
 | _ :: r=>ownsOf r
def ui:A1→Bool
 | .c (.d (.v _))=>true
 | .agg cs=>match cellVals cs with | some _=>true | none=>false
 | _=>false
def flatAV:AV→Bool
 | .s x=>ui x
 | .tup xs=>xs.all ui
 | .gd _ _=>false
theorem qB {x:A1} (h:ui x=true) {ρ ρ':Env} {M M':Mem} {v:Value} (hr:x.rep ρ M v):x.rep ρ' M' v:=by
 unfold ui at h
 split at h
 ·rw [bz hr];exact Rep.v _
 ·rename_i cs
  split at h
  ·rename_i l hl
   obtain ⟨arr,rfl,h2⟩:=hr
   refine ⟨arr,rfl,?_⟩
   have e:=md hl h2
   have key:∀ (cs:List Cell) (l:List Value),cellVals cs=some l→Reps ρ' M' cs l:=by
    intro cs
    induction cs with
    | nil=>intro l h;simp [cellVals] at h;subst h;trivial
    | cons c r ih =>
     intro l h
     unfold cellVals at h
     split at h
     ·split at h
      ·rename_i l' hl';cases h;exact ⟨Rep.v _,ih _ hl'⟩
      ·cases h
     ·cases h
   rw [e];exact key cs l hl
  ·cases h
 ·cases h
theorem uh {x:AV} (h:flatAV x=true) {ρ ρ':Env} {M M':Mem} {v:Value} (hr:x.rep ρ M v):x.rep ρ' M' v:=by
 cases x with
 | s y=>exact qB h hr
 | gd g y=>cases h
 | tup xs =>
  obtain ⟨arr,rfl,h2⟩:=hr
  refine ⟨arr,rfl,?_⟩
  have key:∀ (xs:List A1) (vs:List Value),xs.all ui=true→A1.reps ρ M xs vs→A1.reps ρ' M' xs vs:=by
   intro xs
   induction xs with
   | nil=>intro vs _ h;cases vs with
    | nil=>trivial
    | cons _ _=>exact h.elim
   | cons y ys ih =>
    intro vs ha h
    cases vs with
    | nil=>exact h.elim
    | cons u us =>
     simp only [List.all_cons,Bool.and_eq_true] at ha
     exact ⟨qB ha.1 h.1,ih us ha.2 h.2⟩
  exact key xs arr.toList h h2
def memW (M:Mem) (w:World):Mem:=⟨fun b o=>match M.junk b with
 | some _=>none
 | none=>match w.heap[b]? with
  | some (.cells c _ _)=>c[o]?
  | _=>none,M.obj,M.junk⟩
theorem oZ {M:Mem} {w:World} (h:InW M w):M.le (memW M w):=by
 refine ⟨fun b o v hv=>?_,fun _ _ h=>h,fun _ _ h=>h⟩
 have:=h.cell b o v hv
 have hj:M.junk b=none:=by
  cases e:M.junk b with
  | none=>rfl
  | some s=>rw [(h.junk b s e).2 o] at hv;cases hv
 simp only [World.cell?] at this
 simp only [memW,hj]
 split at this
 ·rename_i c t f hc;rw [hc];simpa using this
 ·cases this
theorem vp {M:Mem} {w:World} (h:InW M w):InW (memW M w) w:=by
 refine ⟨fun b o v hv=>?_,h.obj,fun b s hb=>⟨(h.junk b s hb).1,fun o=>?_⟩⟩
 ·simp only [memW] at hv
  simp only [World.cell?]
  split at hv
  ·cases hv
  ·split at hv
   ·rename_i c t f hc;rw [hc];simpa using hv
   ·cases hv
 ·simp only [memW,show M.junk b=some s from hb]
theorem wG {ρ:Env} {M:Mem} {w:World} {sz:Nat} {l:List (List D)} {v:Value} (hm:InW M w) (h:Inv1 ρ M w (.vec sz l) v) (hnj:∀ b,(Ob.vec sz l).blkOf v=some b→M.junk b=none):Rep (memW M w) (.sl l) v:=by
 obtain ⟨a,cap,rfl,hc,hrow,hx⟩:=h
 by_cases hp:0<cap
 ·obtain ⟨b,off,arr,ty',f,rfl,h1,h2,h3,h4⟩:=hx hp
  have hb:=hnj b (by simp [Ob.blkOf,hp])
  exact .sl (f:=f) hc hrow (fun i row j d hi hj=>by simp only [memW,hb,h1];exact (h4 i row j d hi hj).1) (fun i row j d hi hj=>(h4 i row j d hi hj).2.mono (oZ hm))
 ·have:l=[]:=List.eq_nil_of_length_eq_zero (by omega)
  subst this
  exact .nil
theorem pX {ρ:Env} {M:Mem} {w:World} (h:RelW C F.bl ρ M w):∀ {ys xs:List A1} {vs:List Value},seen F ys xs→A1.reps ρ M ys vs→A1.reps ρ (memW M w) xs vs
 | [],[],[],_,_=>trivial
 | [],[],_ :: _,_,hr=>hr.elim
 | [],_ :: _,_,hs,_=>hs.elim
 | _ :: _,[],_,hs,_=>hs.elim
 | _ :: _,_ :: _,[],_,hr=>hr.elim
 | y :: ys,x :: xs,v :: vs,hs,hr=>by
  refine ⟨?_,pX h hs.2 hr.2⟩
  rcases hs.1 with (rfl | rfl) | ⟨j,sz,l,rfl,hj,rfl⟩
  ·exact A1.rep.mono (oZ h.mem) hr.1
  ·exact A1.rep.mono (oZ h.mem) (A1.norm_rep hr.1)
  ·have e:v=ρ j:=hr.1
   rw [e]
   exact wG h.mem (h.inv j _ hj) (fun b hb=>h.noJunk hj hb)
theorem mM {F':FS}:∀ {ys xs:List A1},(∀ j∈ownsOf ys,F'.bl j=F.bl j)→seen F ys xs→seen F' ys xs
 | [],[],_,h=>h
 | [],_ :: _,_,h=>h.elim
 | _ :: _,[],_,h=>h.elim
 | y :: ys,x :: xs,hb,h=>by
  refine ⟨?_,mM (fun j hj=>hb j (by
   cases y with
   | c z=>cases z <;> simp [ownsOf,hj]
   | agg cs=>simp [ownsOf,hj])) h.2⟩
  rcases h.1 with h1 | ⟨j,sz,l,rfl,hj,rfl⟩
  ·exact .inl h1
  ·exact .inr ⟨j,sz,l,rfl,(hb j (by simp [ownsOf])).trans hj,rfl⟩
theorem uz [hT:HasTab P C] {f:FuncId} {args:Array Operand} {argTypes:Array TypeId} {ys as0:List A1} {res:AV} (hc:Con P f as0 [] res []) (hy:rds F args.toList=some ys) (hfit:seen F ys as0) (hs:sideOk F true args.toList) (hf:Entry P f) (hsa:mo [] as0=true) (hfl:flatAV res=true) (hn:Nat.blt dst C.n=true) :
  TriL P C ops ⟨some dst,.call ⟨.value (.func f),args,argTypes⟩,ty,pos,after,none⟩ ⟨slotsOf args.toList,ownsOf ys,[dst],[]⟩ [(dst,res)] [] F:=by
 refine ⟨⟨rfl,rfl⟩,fun F' hS=>?_⟩
 have h1:=aG hS.1
 obtain ⟨fn,hf1,hf2,hf3⟩:=hf
 intro Q' K' hK ρ M a w hr
 rw [if_pos (cK rfl)]
 refine lD (pw rfl hf1 hf2 hf3) ?_
 have hrep:=pX hr.at.heap (mM hS.2 hfit) (iw (aR hr.at rfl (aC h1 hs)) ((fy h1).trans hy))
 have hin:=vp hr.at.heap.mem
 refine (hc ρ (memW M w) w (fun b=>∃ s,M.junk b=some s) _ (hT.tab.mono (hr.at.heap.base.trans (oZ hr.at.heap.mem))) (fun ρc ha=>⟨⟨fun j ob hj=>(by cases hj),fun i j x y b hi=>(by cases hi),fun j ob b hj=>(by cases hj),hin,Mem.le_refl _,fun _ _ _=>⟨fun _=>rfl,rfl⟩,Kept.refl _ _,fun j hj=>absurd rfl hj,fun b s hb=>⟨.inr ⟨s,hb⟩,fun j ob hj=>(by cases hj)⟩⟩,jH (bl:=[]) (fun j hj=>absurd rfl hj) hsa hrep⟩)).mono ?_
 rintro e w' ⟨u,ρ1,M',rfl,hfin⟩
 show K' (a.put (some dst) u) w'
 refine hK ρ M _ _ fun ρ' ha=>?_
 have h0:=hr ρ' (fun j hj=>ha j (by rw [FS.upd,bF];exact hj))
 obtain ⟨g1,g2⟩:=hfin ρ' (fun j hj=>absurd rfl hj)
 refine h0.put (Nat.blt_eq.mp hn) (uh hfl g1) (Mem.le_refl _) ?_
 rw [bF]
 -- the world has grown,nothing else
 have hk:=g2.kept
 refine ⟨fun j ob hj=>(h0.heap.inv j ob hj).keep (Mem.le_refl _) (fun b hb=>⟨hk.block b (h0.heap.lt j ob b hj hb) (fun ⟨s,h⟩=>(h0.heap.junkP b s h).2 j ob hj hb),fun _=>rfl,rfl⟩),h0.heap.dist,h0.heap.priv,⟨fun b o v hv=>?_,fun b o ho=>?_,fun b s hs=>?_⟩,h0.heap.base,h0.heap.fresh,?_,h0.heap.names,h0.heap.junkP⟩
 ·have hl:=h0.heap.mem.lt hv
  have:=h0.heap.mem.cell b o v hv
  unfold World.cell? at this ⊢
  simp only at this ⊢
  rw [show w'.heap[b]? = w.heap[b]? from hk.block b hl (fun ⟨s,h⟩=>by rw [(h0.heap.mem.junk b s h).2 o] at hv;cases hv)];exact this
 ·have hl:=h0.heap.mem.ltO ho
  rw [show w'.heap[b]? = w.heap[b]? from hk.block b hl (fun ⟨s,h⟩=>by
   obtain ⟨⟨arr,ty,g3,_⟩,_⟩:=h0.heap.mem.junk b s h
   obtain ⟨g4,g5⟩:=h0.heap.mem.obj b o ho
   rw [g3] at g4;cases g4;cases g5)];exact h0.heap.mem.obj b o ho
 ·exact ⟨(g2.mem.junk b s (g2.base.junk b s hs)).1,(h0.heap.mem.junk b s hs).2⟩
 ·have q:=h0.heap.kept
  refine ⟨hk.os.trans q.os,hk.tape.trans q.tape,hk.output.trans q.output,Nat.le_trans q.size hk.size,fun k hkk hg=>(hk.block k (Nat.lt_of_lt_of_le hkk q.size) (fun ⟨s,h⟩=>?_)).trans (q.block k hkk hg)⟩
  rcases (h0.heap.junkP k s h).1 with h4 | h4
  ·omega
  ·exact hg h4
end Go.E2
end

/-
  Part 6 of the texts under the law ViewTreesSpoilt: the calculus, the plain functions, their walks, plain facts.
-/
import Derived.Test.YtcfegecdlbbeaaaGreatDoorViewTreesSpoiltB5
section
namespace Go.Proofs.YtcfegecdlbbeaaaGreatDoor
open Go Go.E2
theorem nodup_len {α : Type} [DecidableEq α] : ∀ {C M : List α},C.Nodup → (∀ y ∈ C,y ∈ M) → C.length ≤ M.length
 | [],M,_,_=>by simp
 | x :: C,M,h,hs=>by
  have hx : x ∈ M:=hs x (by simp)
  have h':=List.nodup_cons.1 h
  have:=nodup_len (C:=C) (M:=M.erase x) h'.2 (fun y hy=>(List.mem_erase_of_ne (by intro e;subst e;exact h'.1 hy)).2 (hs y (by simp [hy])))
  rw [List.length_erase_of_mem hx] at this
  have : 0 < M.length:=List.length_pos_of_mem hx
  simp;omega
theorem nodup_full {α : Type} [DecidableEq α] {C M : List α} (h : C.Nodup) (hs : ∀ y ∈ C,y ∈ M) (hl : C.length = M.length) : ∀ y ∈ M,y ∈ C:=by
 intro y hy
 by_cases hc : y ∈ C
 ·exact hc
 ·have:=nodup_len (C:=y :: C) (M:=M) (List.nodup_cons.2 ⟨hc,h⟩) (by
   intro z hz
   rcases List.mem_cons.1 hz with e | e
   ·subst e;exact hy
   ·exact hs z e)
  simp at this;omega
def zN : Node:=Node.mk 0 0 0 ByteArray.empty ([] : List Attr) ([] : List Action) ([] : List Int)
def look : List Node → Int → Option Node
 | [],_=>none
 | n :: r,x=>if x = n.ID then some n else look r x
def nd (L : List Node) (x : Int) : Node:=match look L x with
 | some n=>n
 | none=>zN
def ids (L : List Node) : List Int:=L.map (·.ID)
theorem look_mem : ∀ {L : List Node} {x : Int} {n : Node},look L x = some n → n ∈ L ∧ n.ID = x
 | [],x,n,h=>by cases h
 | m :: r,x,n,h=>by
  unfold look at h
  by_cases hx : x = m.ID
  ·rw [if_pos hx] at h;cases h;exact ⟨by simp,hx.symm⟩
  ·rw [if_neg hx] at h
   have:=look_mem h
   exact ⟨by simp [this.1],this.2⟩
theorem look_of : ∀ {L : List Node} {n : Node},(ids L).Nodup → n ∈ L → look L n.ID = some n
 | [],n,_,h=>by cases h
 | m :: r,n,hu,h=>by
  have hu' : m.ID ∉ ids r ∧ (ids r).Nodup:=List.nodup_cons.1 hu
  unfold look
  rcases List.mem_cons.1 h with e | e
  ·subst e;rw [if_pos rfl]
  ·rw [if_neg (by intro e2;exact hu'.1 (by rw [← e2];exact List.mem_map.2 ⟨n,e,rfl⟩))]
   exact look_of hu'.2 e
theorem nd_look {L : List Node} {x : Int} {n : Node} (h : look L x = some n) : nd L x = n:=by unfold nd;rw [h]
theorem nd_none {L : List Node} {x : Int} (h : look L x = none) : nd L x = zN:=by unfold nd;rw [h]
theorem ids_look {L : List Node} {x : Int} {n : Node} (h : look L x = some n) : x ∈ ids L:=by
 have:=look_mem h
 exact List.mem_map.2 ⟨n,this.1,this.2⟩
structure Shp0 (L : List Node) (root : Int) : Prop where
 pos : ∀ n ∈ L,0 < n.ID
 uniq : (ids L).Nodup
 rt : ∃ n,look L root = some n
 par : ∀ n ∈ L,n.Parent = 0 ↔ n.ID = root
 kid : ∀ n ∈ L,∀ k ∈ n.Kids,∃ x,look L k = some x ∧ x.Parent = n.ID
 nod : ∀ n ∈ L,n.Kids.Nodup
def up (L : List Node) (x : Int) : Int:=(nd L x).Parent
def upn (L : List Node) : Nat → Int → Int
 | 0,x=>x
 | i + 1,x=>upn L i (up L x)
theorem upn_add (L : List Node) : ∀ (i j : Nat) (x : Int),upn L (i + j) x = upn L j (upn L i x)
 | 0,j,x=>by rw [Nat.zero_add];rfl
 | i + 1,j,x=>by
  rw [show i + 1 + j = (i + j) + 1 by omega]
  show upn L (i + j) (up L x) = upn L j (upn L i (up L x))
  exact upn_add L i j _
inductive Reach (L : List Node) (root : Int) : Nat → Int → Prop
 | z : Reach L root 0 root
 | s {d : Nat} {n k : Int} : Reach L root d n → k ∈ (nd L n).Kids → Reach L root (d + 1) k
section
variable {L : List Node} {root : Int}
theorem nd_mem (_S : Shp0 L root) {x k : Int} (h : k ∈ (nd L x).Kids) : nd L x ∈ L ∧ (nd L x).ID = x:=by
 cases hl : look L x with
 | none=>rw [nd_none hl] at h;cases h
 | some n=>rw [nd_look hl];exact look_mem hl
theorem kid_up (S : Shp0 L root) {x k : Int} (h : k ∈ (nd L x).Kids) : up L k = x ∧ ∃ n,look L k = some n:=by
 have h1:=nd_mem S h
 obtain ⟨y,y1,y2⟩:=S.kid _ h1.1 k h
 refine ⟨?_,y,y1⟩
 unfold up;rw [nd_look y1,y2,h1.2]
theorem reach_mem (S : Shp0 L root) {d : Nat} {x : Int} (h : Reach L root d x) : ∃ n,look L x = some n ∧ n ∈ L ∧ n.ID = x:=by
 have : ∃ n,look L x = some n:=by
  cases h with
  | z=>exact S.rt
  | s h1 h2=>exact (kid_up S h2).2
 obtain ⟨n,hn⟩:=this
 exact ⟨n,hn,look_mem hn⟩
theorem reach_pos (S : Shp0 L root) {d : Nat} {x : Int} (h : Reach L root d x) : 0 < x:=by
 obtain ⟨n,_,n2,n3⟩:=reach_mem S h
 rw [← n3];exact S.pos n n2
theorem up_root (S : Shp0 L root) : up L root = 0:=by
 obtain ⟨n,hn⟩:=S.rt
 unfold up;rw [nd_look hn]
 have:=look_mem hn
 exact (S.par n this.1).2 this.2
theorem reach_up (S : Shp0 L root) {d : Nat} {x : Int} (h : Reach L root (d + 1) x) : Reach L root d (up L x) ∧ x ∈ (nd L (up L x)).Kids:=by
 cases h with
 | s h1 h2=>rw [(kid_up S h2).1];exact ⟨h1,h2⟩
theorem reach_zero {x : Int} (h : Reach L root 0 x) : x = root:=by cases h;rfl
theorem reach_uniq (S : Shp0 L root) : ∀ {d e : Nat} {x : Int},Reach L root d x → Reach L root e x → d = e
 | 0,0,_,_,_=>rfl
 | 0,e + 1,x,h,h'=>by
  have h0:=reach_zero h
  subst h0
  have:=reach_pos S (reach_up S h').1
  rw [up_root S] at this;omega
 | d + 1,0,x,h,h'=>by
  have h0:=reach_zero h'
  subst h0
  have:=reach_pos S (reach_up S h).1
  rw [up_root S] at this;omega
 | d + 1,e + 1,x,h,h'=>by rw [reach_uniq S (reach_up S h).1 (reach_up S h').1]
theorem reach_ids (S : Shp0 L root) {d : Nat} {x : Int} (h : Reach L root d x) : x ∈ ids L:=by
 obtain ⟨n,n1,_⟩:=reach_mem S h
 exact ids_look n1
theorem reach_chain (S : Shp0 L root) : ∀ {d : Nat} {x : Int},Reach L root d x → ∃ C : List Int,C.length = d + 1 ∧ C.Nodup ∧ ∀ y ∈ C,∃ e,e ≤ d ∧ Reach L root e y
 | 0,x,h=>⟨[x],rfl,by simp,fun y hy=>⟨0,Nat.le_refl _,by rw [List.mem_singleton.1 hy];exact h⟩⟩
 | d + 1,x,h=>by
  obtain ⟨C,c1,c2,c3⟩:=reach_chain S (reach_up S h).1
  refine ⟨x :: C,by simp [c1],List.nodup_cons.2 ⟨fun hx=>?_,c2⟩,fun y hy=>?_⟩
  ·obtain ⟨e,e1,e2⟩:=c3 x hx
   have:=reach_uniq S h e2
   omega
  ·rcases List.mem_cons.1 hy with e | e
   ·subst e;exact ⟨d + 1,Nat.le_refl _,h⟩
   ·obtain ⟨e',e1,e2⟩:=c3 y e
    exact ⟨e',by omega,e2⟩
theorem ids_len (L : List Node) : (ids L).length = L.length:=List.length_map ..
theorem reach_depth (S : Shp0 L root) {d : Nat} {x : Int} (h : Reach L root d x) : d + 1 ≤ L.length:=by
 obtain ⟨C,c1,c2,c3⟩:=reach_chain S h
 have:=nodup_len (C:=C) (M:=ids L) c2 (fun y hy=>by
  obtain ⟨e,_,e2⟩:=c3 y hy
  exact reach_ids S e2)
 rw [ids_len] at this
 omega
def pre (L : List Node) : Nat → Int → List Int
 | 0,_=>[]
 | f + 1,x=>x :: (nd L x).Kids.flatMap (pre L f)
def dsc (L : List Node) : Nat → Int → View
 | 0,_=>View.mk 0 ByteArray.empty [] [] []
 | f + 1,x=>View.mk (nd L x).Kind (nd L x).Key (nd L x).Attrs (nd L x).Actions ((nd L x).Kids.map (dsc L f))
def pth (L : List Node) : Nat → Int → List Int
 | 0,x=>[x]
 | d + 1,x=>pth L d (up L x) ++ [x]
theorem mem_pre (S : Shp0 L root) : ∀ (f : Nat) {d : Nat} {x y : Int},Reach L root d x → y ∈ pre L f x → ∃ i,Reach L root (d + i) y ∧ upn L i y = x
 | 0,d,x,y,_,h=>by cases h
 | f + 1,d,x,y,hr,h=>by
  rcases List.mem_cons.1 h with e | e
  ·subst e;exact ⟨0,hr,rfl⟩
  ·obtain ⟨k,k1,k2⟩:=List.mem_flatMap.1 e
   obtain ⟨i,i1,i2⟩:=mem_pre S f (Reach.s hr k1) k2
   refine ⟨i + 1,by rw [show d + (i + 1) = d + 1 + i by omega];exact i1,?_⟩
   rw [upn_add L i 1,i2]
   exact (kid_up S k1).1
theorem pre_nodup (S : Shp0 L root) : ∀ (f : Nat) {d : Nat} {x : Int},Reach L root d x → (pre L f x).Nodup
 | 0,_,_,_=>by unfold pre;simp
 | f + 1,d,x,hr=>by
  unfold pre
  refine List.nodup_cons.2 ⟨fun hx=>?_,?_⟩
  ·obtain ⟨k,k1,k2⟩:=List.mem_flatMap.1 hx
   obtain ⟨i,i1,_⟩:=mem_pre S f (Reach.s hr k1) k2
   have:=reach_uniq S hr i1
   omega
  ·refine List.pairwise_flatMap.2 ⟨fun k hk=>pre_nodup S f (Reach.s hr hk),?_⟩
   have hn : (nd L x).Kids.Nodup:=by
    cases hl : look L x with
    | none=>rw [nd_none hl];unfold zN;simp
    | some n=>rw [nd_look hl];exact S.nod n (look_mem hl).1
   refine List.Pairwise.imp_of_mem ?_ hn
   intro a b ha hb hab y hy z hz e
   subst e
   obtain ⟨i,i1,i2⟩:=mem_pre S f (Reach.s hr ha) hy
   obtain ⟨j,j1,j2⟩:=mem_pre S f (Reach.s hr hb) hz
   have:=reach_uniq S i1 j1
   have : i = j:=by omega
   subst this
   exact hab (i2.symm.trans j2)
theorem pre_ids (S : Shp0 L root) {f d : Nat} {x y : Int} (h : Reach L root d x) (hy : y ∈ pre L f x) : y ∈ ids L:=by
 obtain ⟨i,i1,_⟩:=mem_pre S f h hy
 exact reach_ids S i1
theorem pre_len (S : Shp0 L root) {f d : Nat} {x : Int} (h : Reach L root d x) : (pre L f x).length ≤ L.length:=by
 have:=nodup_len (pre_nodup S f h) (fun y hy=>pre_ids S h hy)
 rwa [ids_len] at this
def Whole (L : List Node) (root : Int) : Prop:=(pre L L.length root).length = L.length
theorem whole_reach (S : Shp0 L root) (h : Whole L root) {x : Int} (hx : x ∈ ids L) : ∃ d,Reach L root d x:=by
 have:=nodup_full (pre_nodup S L.length Reach.z) (fun y hy=>pre_ids S Reach.z hy) (h.trans (ids_len L).symm) x hx
 obtain ⟨i,i1,_⟩:=mem_pre S _ Reach.z this
 exact ⟨_,i1⟩
theorem pth_len : ∀ (d : Nat) (x : Int),(pth L d x).length = d + 1
 | 0,_=>rfl
 | d + 1,x=>by unfold pth;rw [List.length_append,pth_len d];rfl
theorem pth_last : ∀ (d : Nat) (x : Int),(pth L d x)[d]? = some x
 | 0,_=>rfl
 | d + 1,x=>by unfold pth;rw [List.getElem?_append_right (by rw [pth_len];omega),pth_len];simp
def mpo (L : List Node) : List (Int × Node):=L.map fun n=>(n.ID,n)
theorem mpo_get : ∀ (L : List Node) (x : Int),mget1 (mpo L) x = look L x
 | [],_=>rfl
 | n :: r,x=>by
  show (match x == n.ID with | true=>some n | false=>mget1 (mpo r) x) = if x = n.ID then some n else look r x
  by_cases h : x = n.ID
  ·rw [if_pos h,show (x == n.ID) = true by simp [h]]
  ·rw [if_neg h,show (x == n.ID) = false by simp [h]];exact mpo_get r x
theorem mpo_getO (L : List Node) (x : Int) : mgetO (mpo L) x (Node.mk 0 0 0 ByteArray.empty ([] : List Attr) ([] : List Action) ([] : List Int)) = some (nd L x,(look L x).isSome):=by
 unfold mgetO nd
 rw [mpo_get]
 cases look L x <;> rfl
theorem mpo_set : ∀ (L : List Node) (n : Node),n.ID ∉ ids L → msetL (mpo L) n.ID n = mpo (L ++ [n])
 | [],_,_=>rfl
 | m :: r,n,h=>by
  have h1 : ¬ n.ID = m.ID:=fun e=>h (by rw [e];unfold ids;simp)
  have h2 : n.ID ∉ ids r:=fun e=>h (List.mem_cons_of_mem _ e)
  show (match n.ID == m.ID with | true=>(n.ID,n) :: mpo r | false=>(m.ID,m) :: msetL (mpo r) n.ID n) = (m.ID,m) :: mpo (r ++ [n])
  rw [show (n.ID == m.ID) = false by simp [h1],mpo_set r n h2]
theorem mpo_len (L : List Node) : (mpo L).length = L.length:=List.length_map ..
end
end Go.Proofs.YtcfegecdlbbeaaaGreatDoor
end
section
namespace Go.E2
open Go
theorem loopF {α σ R S : Type} {L : List α} {B : (S → Option R) → S → Option R} (st : σ → Nat → S) (P : Nat → σ → Prop) (Q : Option R → Prop)
  (hc : ∀ again s i x,L[i]? = some x → i < L.length → P i s → Q (B again (st s i)) ∨ ∃ s',P (i + 1) s' ∧ B again (st s i) = again (st s' (i + 1)))
  (he : ∀ again s,P L.length s → Q (B again (st s L.length))) : ∀ (f i : Nat) (s : σ),i ≤ L.length → L.length - i < f → P i s → Q (loopK B f (st s i))
 | 0,_,_,_,h,_=>absurd h (Nat.not_lt_zero _)
 | f + 1,i,s,hi,hf,hp=>by
  show Q (B (loopK B f) (st s i))
  rcases Nat.lt_or_ge i L.length with h | h
  ·rcases hc (loopK B f) s i L[i] (List.getElem?_eq_getElem h) h hp with h1 | ⟨s',h1,h2⟩
   ·exact h1
   ·rw [h2];exact loopF st P Q hc he f (i + 1) s' (by omega) (by omega) h1
  ·obtain rfl : i = L.length:=by omega
   exact he _ s hp
theorem loopI {α σ R S : Type} {L : List α} {B : (S → Option R) → S → Option R} (st : σ → Nat → S) (P : Nat → σ → Prop) (Q : Option R → Prop) (hn : L.length < N0)
  (hc : ∀ again s i x,L[i]? = some x → i < L.length → P i s → Q (B again (st s i)) ∨ ∃ s',P (i + 1) s' ∧ B again (st s i) = again (st s' (i + 1)))
  (he : ∀ again s,P L.length s → Q (B again (st s L.length))) (s : σ) (h0 : P 0 s) : Q (loopK B N0 (st s 0)) :=
 loopF st P Q hc he N0 0 s (Nat.zero_le _) (by omega) h0
theorem loopNF {σ R S : Type} {n : Nat} {B : (S → Option R) → S → Option R} (st : σ → Nat → S) (P : Nat → σ → Prop) (Q : Option R → Prop)
  (hc : ∀ again s i,i < n → P i s → Q (B again (st s i)) ∨ ∃ s',P (i + 1) s' ∧ B again (st s i) = again (st s' (i + 1)))
  (he : ∀ again s,P n s → Q (B again (st s n))) : ∀ (f i : Nat) (s : σ),i ≤ n → n - i < f → P i s → Q (loopK B f (st s i))
 | 0,_,_,_,h,_=>absurd h (Nat.not_lt_zero _)
 | f + 1,i,s,hi,hf,hp=>by
  show Q (B (loopK B f) (st s i))
  rcases Nat.lt_or_ge i n with h | h
  ·rcases hc (loopK B f) s i h hp with h1 | ⟨s',h1,h2⟩
   ·exact h1
   ·rw [h2];exact loopNF st P Q hc he f (i + 1) s' (by omega) (by omega) h1
  ·obtain rfl : i = n:=by omega
   exact he _ s hp
theorem loopN {σ R S : Type} {n : Nat} {B : (S → Option R) → S → Option R} (st : σ → Nat → S) (P : Nat → σ → Prop) (Q : Option R → Prop) (hn : n < N0)
  (hc : ∀ again s i,i < n → P i s → Q (B again (st s i)) ∨ ∃ s',P (i + 1) s' ∧ B again (st s i) = again (st s' (i + 1)))
  (he : ∀ again s,P n s → Q (B again (st s n))) (s : σ) (h0 : P 0 s) : Q (loopK B N0 (st s 0)) :=
 loopNF st P Q hc he N0 0 s (Nat.zero_le _) (by omega) h0
theorem jnN {S R : Type} (k : S → Option R) (b : (S → Option R) → Option R) : jn k b = b k:=id rfl
theorem bindN {α β : Type} (x : α) (k : α → Option β) : (some x).bind k = k x:=id rfl
theorem selT' {α : Type} (a b : α) : sel true a b = a:=id rfl
theorem selF' {α : Type} (a b : α) : sel false a b = b:=id rfl
theorem gOT' {α : Type} [Inhabited α] (o : Option α) : gO true o = o:=id rfl
instance : LawfulBEq ByteArray where
 eq_of_beq:=by
  intro a b h
  have h' : (a.data == b.data) = true:=h
  have:=eq_of_beq h'
  cases a;cases b;simp_all
 rfl:=by
  intro a
  show (a.data == a.data) = true
  exact beq_self_eq_true _
theorem take_suc {α : Type} {L : List α} {i : Nat} {x : α} (h : L[i]? = some x) : L.take (i + 1) = L.take i ++ [x]:=by
 rw [List.take_add_one,h];rfl
theorem drop_cons' {α : Type} {L : List α} {i : Nat} {x : α} (h : L[i]? = some x) : L.drop i = x :: L.drop (i + 1):=by
 obtain ⟨hi,rfl⟩:=List.getElem?_eq_some_iff.1 h
 exact List.drop_eq_getElem_cons hi
theorem flat_take_len {α β : Type} (g : α → List β) (L : List α) (i : Nat) : ((L.take i).flatMap g).length ≤ (L.flatMap g).length:=by
 have:=congrArg (fun l=>(l.flatMap g).length) (List.take_append_drop i L)
 simp only [List.flatMap_append,List.length_append] at this
 omega
theorem rev_done {α : Type} {l m : List α} (hl : m.length = l.length) (h : ∀ k,k < l.length → m[k]? = l[l.length - 1 - k]?) : m = l.reverse:=by
 apply List.ext_getElem?
 intro k
 by_cases hk : k < l.length
 ·rw [h k hk,List.getElem?_reverse hk]
 ·rw [List.getElem?_eq_none (by omega),List.getElem?_eq_none (by simp;omega)]
end Go.E2
end
section
namespace Go.Proofs.YtcfegecdlbbeaaaGreatDoor
open Go Go.E2
section
variable {L : List Node} {root : Int}
theorem kids_len (S : Shp0 L root) (x : Int) : (nd L x).Kids.length ≤ L.length:=by
 cases hl : look L x with
 | none=>rw [nd_none hl];exact Nat.zero_le _
 | some n =>
  rw [nd_look hl]
  have hn:=(look_mem hl).1
  have:=nodup_len (M:=ids L) (S.nod n hn) (fun k hk=>by
   obtain ⟨y,y1,_⟩:=S.kid n hn k hk
   exact ids_look y1)
  rwa [ids_len] at this
theorem preorder_ok (S : Shp0 L root) (h400 : L.length ≤ 400) : ∀ (f n d : Nat) (x : Int),Reach L root d x → L.length ≤ f + d → f ≤ n → vw_preorder n (mpo L) x = some (pre L f x)
 | 0,n,d,x,hr,hf,_=>by have:=reach_depth S hr;omega
 | f + 1,0,d,x,hr,hf,h=>by omega
 | f + 1,n + 1,d,x,hr,hf,h=>by
  have hk:=kids_len S x
  show vw_preorder_B (vw_preorder n) (mpo L) x = _
  unfold vw_preorder_B
  rw [jn_eq,mpo_getO,bind_some']
  have hfull:=pre_len S (f:=f + 1) hr
  refine loopI (L:=(nd L x).Kids) (fun (s : List Int) i=>(s,(i : Int))) (fun i s=>s = x :: ((nd L x).Kids.take i).flatMap (pre L f)) (fun r=>r = some (pre L (f + 1) x)) (by unfold N0;omega) ?_ ?_ [x] rfl
  ·intro again s i k hk1 hi hs
   refine .inr ⟨x :: ((nd L x).Kids.take (i + 1)).flatMap (pre L f),rfl,?_⟩
   have hkm : k ∈ (nd L x).Kids:=List.mem_of_getElem? hk1
   unfold vw_preorder_L1
   simp only [nz_lt hi,sel_true,idxO_nat,hk1,bind_some']
   rw [preorder_ok S h400 f n (d + 1) k (Reach.s hr hkm) (by omega) (by omega),bind_some']
   have hl : s.length ≤ L.length:=by
    subst hs
    have:=flat_take_len (pre L f) (nd L x).Kids i
    have e : (pre L (f + 1) x).length = 1 + ((nd L x).Kids.flatMap (pre L f)).length:=by show (x :: _).length = _;rw [List.length_cons];omega
    rw [List.length_cons];omega
   have hp:=pre_len S (f:=f) (Reach.s hr hkm)
   rw [appO_eq (by omega),bind_some',wrap_suc hi (by unfold N0;omega),take_suc hk1,hs]
   simp
  ·intro again s hs
   unfold vw_preorder_L1
   simp only [nz_ge (Nat.le_refl _),sel_false]
   rw [hs,List.take_length];rfl
theorem described_ok (S : Shp0 L root) (h400 : L.length ≤ 400) : ∀ (f n d : Nat) (x : Int),Reach L root d x → L.length ≤ f + d → f ≤ n → vw_described n (mpo L) x = some (dsc L f x)
 | 0,n,d,x,hr,hf,_=>by have:=reach_depth S hr;omega
 | f + 1,0,d,x,hr,hf,h=>by omega
 | f + 1,n + 1,d,x,hr,hf,h=>by
  have hk:=kids_len S x
  show vw_described_B (vw_described n) (mpo L) x = _
  unfold vw_described_B
  rw [mpo_getO,bind_some',jn_eq]
  refine loopI (L:=(nd L x).Kids) (fun (s : List View) i=>((i : Int),s)) (fun i s=>s = ((nd L x).Kids.take i).map (dsc L f)) (fun r=>r = some (dsc L (f + 1) x)) (by unfold N0;omega) ?_ ?_ [] rfl
  ·intro again s i k hk1 hi hs
   refine .inr ⟨((nd L x).Kids.take (i + 1)).map (dsc L f),rfl,?_⟩
   have hkm : k ∈ (nd L x).Kids:=List.mem_of_getElem? hk1
   unfold vw_described_L1
   simp only [nz_lt hi,sel_true,idxO_nat,hk1,bind_some']
   rw [described_ok S h400 f n (d + 1) k (Reach.s hr hkm) (by omega) (by omega),bind_some']
   have hl : s.length ≤ L.length:=by subst hs;simp;omega
   rw [appO_eq (by simp;omega),bind_some',wrap_suc hi (by unfold N0;omega),take_suc hk1,hs]
   simp
  ·intro again s hs
   unfold vw_described_L1
   simp only [nz_ge (Nat.le_refl _),sel_false]
   rw [hs,List.take_length];rfl
theorem reverse_ok {l : List Int} (h : l.length ≤ 1073741824) : slices_Reverse_Sl_int_int l = some l.reverse:=by
 unfold slices_Reverse_Sl_int_int
 rw [jn_eq]
 by_cases h0 : l = []
 ·subst h0;rfl
 have hpos : 0 < l.length:=List.length_pos_iff.2 h0
 rw [wrap_id (by omega) (by omega)]
 have key:=loopN (n:=l.length / 2) (B:=slices_Reverse_Sl_int_int_L1 fun s1=>some s1) (fun (m : List Int) i=>((i : Int),(l.length : Int) - 1 - i,m))
  (fun i m=>m.length = l.length ∧ ∀ k,k < l.length → m[k]? = if k < i ∨ l.length - i ≤ k then l[l.length - 1 - k]? else l[k]?) (fun r=>r = some l.reverse) (by unfold N0;omega) ?_ ?_ l ⟨rfl,fun k hk=>by rw [if_neg (by omega)]⟩
 ·have e : ((0 : Nat) : Int) = 0:=rfl
  simp only [e,Int.sub_zero] at key
  exact key
 ·intro again m i hi hm
  have hm1 : i < m.length:=by omega
  have hm2 : l.length - 1 - i < m.length:=by omega
  refine .inr ⟨(m.set i m[l.length - 1 - i]).set (l.length - 1 - i) m[i],⟨by simp [hm.1],fun k hk=>?_⟩,?_⟩
  ·have e1:=hm.2 i (by omega)
   have e2:=hm.2 (l.length - 1 - i) (by omega)
   have e3:=hm.2 k hk
   rw [if_neg (by omega)] at e1 e2
   rw [List.getElem?_eq_getElem hm1] at e1
   rw [List.getElem?_eq_getElem hm2] at e2
   rw [List.getElem?_set,List.getElem?_set,List.length_set]
   by_cases c1 : l.length - 1 - i = k
   ·rw [if_pos c1,if_pos (by omega),if_pos (by omega),e1,show l.length - 1 - k = i by omega]
   ·rw [if_neg c1]
    by_cases c2 : i = k
    ·rw [if_pos c2,if_pos (by omega),if_pos (by omega),e2,← c2]
    ·rw [if_neg c2,e3]
     by_cases c3 : k < i ∨ l.length - i ≤ k
     ·rw [if_pos c3,if_pos (by omega)]
     ·rw [if_neg c3,if_neg (by omega)]
  ·unfold slices_Reverse_Sl_int_int_L1
   have hj : (l.length : Int) - 1 - i = ((l.length - 1 - i : Nat) : Int):=by omega
   simp only [hj]
   rw [show decide ((i : Int) < ((l.length - 1 - i : Nat) : Int)) = true by simp;omega,sel_true]
   simp only [ixO_nat hm1,ixO_nat hm2,bind_some',List.getElem?_eq_getElem hm1,List.getElem?_eq_getElem hm2,List.length_set]
   rw [wrap_suc (n:=l.length) (by omega) (by unfold N0;omega),wrap_id (by omega) (by omega)]
   rw [show ((l.length - 1 - i : Nat) : Int) - 1 = ((l.length - 1 - (i + 1) : Nat) : Int) by omega,show (l.length : Int) - 1 - ((i + 1 : Nat) : Int) = ((l.length - 1 - (i + 1) : Nat) : Int) by omega]
 ·intro again m hm
  unfold slices_Reverse_Sl_int_int_L1
  simp only
  rw [show decide (((l.length / 2 : Nat) : Int) < (l.length : Int) - 1 - ((l.length / 2 : Nat) : Int)) = false by simp;omega,sel_false]
  rw [rev_done hm.1 (fun k hk=>by
   rw [hm.2 k hk]
   by_cases c : k < l.length / 2 ∨ l.length - l.length / 2 ≤ k
   ·rw [if_pos c]
   ·rw [if_neg c,show l.length - 1 - k = k by omega])]
def pst (acc : List Int) (n : Node) (ok : Bool) : (List Int) × Int × Int × Int × Str × (List Attr) × (List Action) × (List Int) × Bool:=(acc,n.ID,n.Parent,n.Kind,n.Key,n.Attrs,n.Actions,n.Kids,ok)
theorem look_zero (S : Shp0 L root) : look L 0 = none:=by
 cases h : look L 0 with
 | none=>rfl
 | some n =>
  have:=look_mem h
  have:=S.pos n this.1
  omega
theorem path_loop (S : Shp0 L root) (h400 : L.length ≤ 400) (k2 : List Int → Option (List Int)) : ∀ (d n : Nat) (x : Int) (acc : List Int),Reach L root d x → d + 2 ≤ n → acc.length + d ≤ 400 →
  loopK (vw_path_L1 (mpo L) k2) n (pst acc (nd L x) true) = k2 (acc ++ (pth L d x).reverse)
 | d,0,_,_,_,h,_=>by omega
 | d,n + 1,x,acc,hr,h,hl=>by
  show vw_path_L1 (mpo L) k2 (loopK (vw_path_L1 (mpo L) k2) n) _ = _
  have hx : (nd L x).ID = x:=by
   obtain ⟨m,m1,m2,m3⟩:=reach_mem S hr
   rw [nd_look m1,m3]
  have hstep : vw_path_L1 (mpo L) k2 (loopK (vw_path_L1 (mpo L) k2) n) (pst acc (nd L x) true) = loopK (vw_path_L1 (mpo L) k2) n (pst (acc ++ [x]) (nd L (up L x)) (look L (up L x)).isSome):=by
   generalize loopK (vw_path_L1 (mpo L) k2) n = again
   unfold vw_path_L1 pst
   simp only [sel_true]
   rw [hx,appO_eq (by simp;omega),bind_some',mpo_getO,bind_some']
   rfl
  rw [hstep]
  cases d with
  | zero =>
   have hx0:=reach_zero hr
   subst hx0
   rw [up_root S,look_zero S]
   obtain ⟨n,rfl⟩ : ∃ m,n = m + 1:=⟨n - 1,by omega⟩
   show vw_path_L1 (mpo L) k2 (loopK (vw_path_L1 (mpo L) k2) n) _ = _
   generalize loopK (vw_path_L1 (mpo L) k2) n = again
   unfold vw_path_L1 pst
   simp only [Option.isSome_none,sel_false]
   rfl
  | succ d =>
   have hu:=(reach_up S hr).1
   obtain ⟨m,m1,_⟩:=reach_mem S hu
   rw [m1,Option.isSome_some,path_loop S h400 k2 d n _ _ hu (by omega) (by simp;omega)]
   congr 1
   show _ = acc ++ (pth L d (up L x) ++ [x]).reverse
   simp
theorem path_ok (S : Shp0 L root) (h400 : L.length ≤ 400) {d : Nat} {x : Int} (hr : Reach L root d x) : vw_path (mpo L) x = some (pth L d x):=by
 have hd:=reach_depth S hr
 obtain ⟨m,m1,_⟩:=reach_mem S hr
 unfold vw_path
 rw [jn_eq,mpo_getO,bind_some',m1]
 refine Eq.trans (path_loop S h400 _ d N0 x [] hr (by unfold N0;omega) (by simp;omega)) ?_
 rw [List.nil_append,reverse_ok (by rw [List.length_reverse,pth_len];omega),bind_some',List.reverse_reverse]
theorem path_none (x : Int) (h : look L x = none) : vw_path (mpo L) x = some []:=by
 unfold vw_path
 rw [jn_eq,mpo_getO,bind_some',h,loopK_first]
 generalize loopK (vw_path_L1 (mpo L) _) (N0 - 1) = again
 unfold vw_path_L1
 simp only [Option.isSome_none,sel_false]
 rfl
end
end Go.Proofs.YtcfegecdlbbeaaaGreatDoor
end
section
namespace Go.Proofs.YtcfegecdlbbeaaaGreatDoor
open Go Go.E2
def pvid (L : List Node) (i : Nat) : Int:=if i = 0 then 0 else match L[i - 1]? with
 | some n=>n.ID
 | none=>0
theorem pvid_suc {L : List Node} {i : Nat} {n : Node} (h : L[i]? = some n) : pvid L (i + 1) = n.ID:=by
 unfold pvid;rw [if_neg (by omega),Nat.add_sub_cancel,h]
def IncN (L : List Node) (next : Int) (m : Nat) : Prop:=∀ i n,i < m → L[i]? = some n → pvid L i < n.ID ∧ n.ID < next
theorem inc_pos {L : List Node} {next : Int} {m : Nat} (h : IncN L next m) : ∀ (i : Nat) (n : Node),i < m → L[i]? = some n → 0 < n.ID
 | 0,n,hi,hn=>(h 0 n hi hn).1
 | i + 1,n,hi,hn=>by
  have h1:=(h (i + 1) n hi hn).1
  obtain ⟨hl,_⟩:=List.getElem?_eq_some_iff.1 hn
  have hp : L[i]? = some L[i]:=List.getElem?_eq_getElem (by omega)
  rw [pvid_suc hp] at h1
  have:=inc_pos h i _ (by omega) hp
  omega
theorem inc_lt {L : List Node} {next : Int} {m : Nat} (h : IncN L next m) : ∀ (j i : Nat) (a b : Node),i < j → j < m → L[i]? = some a → L[j]? = some b → a.ID < b.ID
 | 0,i,a,b,hi,_,_,_=>by omega
 | j + 1,i,a,b,hi,hj,ha,hb=>by
  have h1:=(h (j + 1) b hj hb).1
  obtain ⟨hl,_⟩:=List.getElem?_eq_some_iff.1 hb
  have hp : L[j]? = some L[j]:=List.getElem?_eq_getElem (by omega)
  rw [pvid_suc hp] at h1
  rcases (by omega : i = j ∨ i < j) with e | e
  ·subst e;rw [hp] at ha;cases ha;exact h1
  ·have:=inc_lt h j i a _ e (by omega) ha hp
   omega
structure Shp (t : Tree) : Prop where
 lim : 2 ≤ t.Next ∧ t.Next ≤ 1099511627776 ∧ 1 ≤ t.Nodes.length ∧ t.Nodes.length ≤ 400
 inc : IncN t.Nodes t.Next t.Nodes.length
 par : ∀ n ∈ t.Nodes,n.Parent = 0 ↔ n.ID = t.Root
 rt : ∃ n,look t.Nodes t.Root = some n
 kid : ∀ n ∈ t.Nodes,∀ k ∈ n.Kids,∃ x,look t.Nodes k = some x ∧ x.Parent = n.ID
 nod : ∀ n ∈ t.Nodes,n.Kids.Nodup
 tot : (t.Nodes.flatMap (·.Kids)).length + 1 = t.Nodes.length
 whole : Whole t.Nodes t.Root
theorem inc_uniq {L : List Node} {next : Int} (h : IncN L next L.length) : (∀ n ∈ L,0 < n.ID) ∧ (ids L).Nodup:=by
 constructor
 ·intro n hn
  obtain ⟨i,hi,rfl⟩:=List.mem_iff_getElem.1 hn
  exact inc_pos h i _ hi (List.getElem?_eq_getElem hi)
 ·unfold ids
  rw [List.Nodup,List.pairwise_iff_getElem]
  intro i j hi hj hij
  simp only [List.length_map] at hi hj
  have:=inc_lt h j i _ _ hij hj (List.getElem?_eq_getElem hi) (List.getElem?_eq_getElem hj)
  simp only [List.getElem_map]
  omega
theorem Shp.to0 {t : Tree} (S : Shp t) : Shp0 t.Nodes t.Root:=⟨(inc_uniq S.inc).1,(inc_uniq S.inc).2,S.rt,S.par,S.kid,S.nod⟩
def tr (K : List Int) : List (Int × Bool):=K.map fun k=>(k,true)
theorem tr_get : ∀ (K : List Int) (k : Int),mgetO (tr K) k false = some (decide (k ∈ K),decide (k ∈ K))
 | [],k=>by simp [tr,mgetO,mget1]
 | a :: K,k=>by
  have h:=tr_get K k
  unfold mgetO at h ⊢
  have e0 : mget1 (tr (a :: K)) k = match k == a with
   | true=>some true
   | false=>mget1 (tr K) k:=rfl
  rw [e0]
  by_cases e : k = a
  ·subst e;simp
  ·rw [show (k == a) = false by simp [e]]
   simp only
   rw [h]
   simp [e]
theorem tr_set : ∀ (K : List Int) (k : Int),k ∉ K → msetL (tr K) k true = tr (K ++ [k])
 | [],_,_=>rfl
 | a :: K,k,h=>by
  have h1 : ¬ k = a:=fun e=>h (by simp [e])
  show (match k == a with | true=>(k,true) :: tr K | false=>(a,true) :: msetL (tr K) k true) = (a,true) :: tr (K ++ [k])
  rw [show (k == a) = false by simp [h1]]
  simp only
  rw [tr_set K k (fun e=>h (by simp [e]))]
theorem tr_len (K : List Int) : (tr K).length = K.length:=List.length_map ..
theorem flat_kids {L : List Node} {k : Int} {i : Nat} : k ∈ (L.take i).flatMap (·.Kids) → ∃ (j : Nat) (n : Node),j < i ∧ L[j]? = some n ∧ k ∈ n.Kids:=by
 intro h
 obtain ⟨n,n1,n2⟩:=List.mem_flatMap.1 h
 obtain ⟨j,hj,rfl⟩:=List.mem_iff_getElem.1 n1
 simp only [List.length_take] at hj
 refine ⟨j,(L.take i)[j],by omega,?_,n2⟩
 rw [List.getElem_take]
 exact List.getElem?_eq_getElem (by omega)
def GQ (t : Tree) (r : Option ((List (Int × Node)) × Bool)) : Prop:=∃ m b,r = some (m,b) ∧ (b = true ↔ Shp t) ∧ (b = true → m = mpo t.Nodes)
theorem GQ.bad {t : Tree} (h : ¬ Shp t) (m : List (Int × Node)) : GQ t (some (m,false)):=⟨m,false,rfl,⟨fun e=>Bool.noConfusion e,fun e=>absurd e h⟩,fun e=>Bool.noConfusion e⟩
structure Pre1 (t : Tree) : Prop where
 inc : IncN t.Nodes t.Next t.Nodes.length
 par : ∀ n ∈ t.Nodes,n.Parent = 0 ↔ n.ID = t.Root
 rt : ∃ n,look t.Nodes t.Root = some n
theorem kid_not_seen {t : Tree} (S : Pre1 t) {i : Nat} {n x : Node} {k : Int} (hn : t.Nodes[i]? = some n) (hk : look t.Nodes k = some x) (hp : x.Parent = n.ID)
  (hkid : ∀ j m,j < i → t.Nodes[j]? = some m → ∀ k ∈ m.Kids,∃ x,look t.Nodes k = some x ∧ x.Parent = m.ID) : k ≠ t.Root ∧ k ∉ (t.Nodes.take i).flatMap (·.Kids):=by
 have hl:=(List.getElem?_eq_some_iff.1 hn).1
 have hpos:=inc_pos S.inc i n hl hn
 constructor
 ·intro e
  subst e
  have h1:=look_mem hk
  have:=(S.par x h1.1).2 h1.2
  omega
 ·intro e
  obtain ⟨j,m,j1,j2,j3⟩:=flat_kids e
  obtain ⟨y,y1,y2⟩:=hkid j m j1 j2 k j3
  rw [hk] at y1;cases y1
  have:=inc_lt S.inc i j m n j1 hl j2 hn
  omega
theorem graph_L1_ok {t : Tree} (S : Pre1 t) {i : Nat} {n : Node} (hn : t.Nodes[i]? = some n) (hK : n.Kids.length ≤ 1000000)
  (hkid : ∀ j m,j < i → t.Nodes[j]? = some m → ∀ k ∈ m.Kids,∃ x,look t.Nodes k = some x ∧ x.Parent = m.ID)
  (k17 : List (Int × Bool) → Option ((List (Int × Node)) × Bool)) (K0 : List Int) (hK0 : K0 = t.Root :: (t.Nodes.take i).flatMap (·.Kids)) :
  GQ t (loopK (vw_graph_L1 (mpo t.Nodes) n k17) N0 (0,tr K0)) ∨ (loopK (vw_graph_L1 (mpo t.Nodes) n k17) N0 (0,tr K0) = k17 (tr (K0 ++ n.Kids)) ∧ n.Kids.Nodup ∧ ∀ k ∈ n.Kids,∃ x,look t.Nodes k = some x ∧ x.Parent = n.ID):=by
 have hmem : n ∈ t.Nodes:=List.mem_of_getElem? hn
 refine loopI (L:=n.Kids) (fun (s : List (Int × Bool)) j=>((j : Int),s)) (fun j s=>s = tr (K0 ++ n.Kids.take j) ∧ (n.Kids.take j).Nodup ∧ ∀ k ∈ n.Kids.take j,∃ x,look t.Nodes k = some x ∧ x.Parent = n.ID)
  (fun r=>GQ t r ∨ (r = k17 (tr (K0 ++ n.Kids)) ∧ n.Kids.Nodup ∧ ∀ k ∈ n.Kids,∃ x,look t.Nodes k = some x ∧ x.Parent = n.ID)) (by unfold N0;omega) ?_ ?_ (tr K0) ⟨by simp,by simp,by simp⟩
 ·intro again s j k hk hj ⟨h1,h2,h3⟩
  have hkm : k ∈ n.Kids:=List.mem_of_getElem? hk
  unfold vw_graph_L1
  simp only [nz_lt hj,sel_true,idxO_nat,hk,bind_some',mpo_getO]
  cases hx : look t.Nodes k with
  | none =>
   simp only [Option.isSome_none,Bool.not_false,Bool.true_or,Bool.not_true,gO_false,bind_some',sel_true]
   refine .inl (.inl (GQ.bad (fun S'=>?_) _))
   obtain ⟨y,y1,_⟩:=S'.kid n hmem k hkm
   rw [hx] at y1;cases y1
  | some x =>
   rw [nd_look hx]
   simp only [Option.isSome_some,Bool.not_true,Bool.false_or]
   by_cases hp : x.Parent = n.ID
   ·rw [show (x.Parent != n.ID) = false by simp [hp]]
    simp only [Bool.not_false,gO_true,Bool.false_or]
    rw [h1,tr_get,bind_some']
    have hns:=kid_not_seen S hn hx hp hkid
    by_cases hd : k ∈ n.Kids.take j
    ·rw [show decide (k ∈ K0 ++ n.Kids.take j) = true by simp [hd],sel_true]
     refine .inl (.inl (GQ.bad (fun S'=>?_) _))
     have:=S'.nod n hmem
     rw [← List.take_append_drop j n.Kids,drop_cons' hk] at this
     exact (List.nodup_append.1 this).2.2 k hd k (by simp) rfl
    ·have hnk : k ∉ K0 ++ n.Kids.take j:=by
      intro e
      rcases List.mem_append.1 e with e | e
      ·rw [hK0] at e
       rcases List.mem_cons.1 e with e | e
       ·exact hns.1 e
       ·exact hns.2 e
      ·exact hd e
     rw [show decide (k ∈ K0 ++ n.Kids.take j) = false by simp [hnk],sel_false]
     refine .inr ⟨_,⟨rfl,?_,?_⟩,?_⟩
     ·rw [take_suc hk]
      refine List.nodup_append.2 ⟨h2,by simp,?_⟩
      intro a ha b hb e
      subst e
      rw [List.mem_singleton.1 hb] at ha
      exact hd ha
     ·intro k' hk'
      rw [take_suc hk] at hk'
      rcases List.mem_append.1 hk' with e | e
      ·exact h3 k' e
      ·rw [List.mem_singleton.1 e];exact ⟨x,hx,hp⟩
     ·rw [tr_set _ _ hnk,wrap_suc hj (by unfold N0;omega),take_suc hk,List.append_assoc]
   ·rw [show (x.Parent != n.ID) = true by simp [hp]]
    simp only [Bool.not_true,gO_false,bind_some',Bool.true_or,sel_true]
    refine .inl (.inl (GQ.bad (fun S'=>?_) _))
    obtain ⟨y,y1,y2⟩:=S'.kid n hmem k hkm
    rw [hx] at y1;cases y1
    exact hp y2
 ·intro again s ⟨h1,h2,h3⟩
  rw [List.take_length] at h1 h2 h3
  unfold vw_graph_L1
  simp only [nz_ge (Nat.le_refl _),sel_false]
  exact .inr ⟨by rw [h1],h2,h3⟩
theorem graph_L2_ok {t : Tree} (S : Pre1 t) (hl : t.Nodes.length ≤ 400) (hK : ∀ n ∈ t.Nodes,n.Kids.length ≤ 1000000) (k7 : List (Int × Bool) → Option ((List (Int × Node)) × Bool))
  (hk7 : (∀ n ∈ t.Nodes,n.Kids.Nodup) → (∀ n ∈ t.Nodes,∀ k ∈ n.Kids,∃ x,look t.Nodes k = some x ∧ x.Parent = n.ID) → GQ t (k7 (tr (t.Root :: t.Nodes.flatMap (·.Kids))))) :
  GQ t (loopK (vw_graph_L2 t (mpo t.Nodes) k7) N0 (0,tr [t.Root])):=by
 refine loopI (L:=t.Nodes) (fun (s : List (Int × Bool)) i=>((i : Int),s)) (fun i s=>s = tr (t.Root :: (t.Nodes.take i).flatMap (·.Kids)) ∧ (∀ j m,j < i → t.Nodes[j]? = some m → m.Kids.Nodup) ∧ ∀ j m,j < i → t.Nodes[j]? = some m → ∀ k ∈ m.Kids,∃ x,look t.Nodes k = some x ∧ x.Parent = m.ID)
  (GQ t) (by unfold N0;omega) ?_ ?_ (tr [t.Root]) ⟨by simp,fun j m hj=>by omega,fun j m hj=>by omega⟩
 ·intro again s i n hn hi ⟨h1,h2,h3⟩
  unfold vw_graph_L2
  simp only [nz_lt hi,selT',idxO_nat,hn,bindN,jnN]
  rw [h1]
  rcases graph_L1_ok S hn (hK n (List.mem_of_getElem? hn)) h3 (fun s16=>again (IntKind.i64.wrap ((i : Int) + 1),s16)) _ rfl with h | ⟨h4,h5,h6⟩
  ·exact .inl h
  ·refine .inr ⟨_,⟨rfl,?_,?_⟩,?_⟩
   ·intro j m hj hm
    rcases (by omega : j = i ∨ j < i) with e | e
    ·subst e;rw [hn] at hm;cases hm;exact h5
    ·exact h2 j m e hm
   ·intro j m hj hm
    rcases (by omega : j = i ∨ j < i) with e | e
    ·subst e;rw [hn] at hm;cases hm;exact h6
    ·exact h3 j m e hm
   ·refine h4.trans ?_
    rw [wrap_suc hi (by unfold N0;omega),take_suc hn]
    simp
 ·intro again s ⟨h1,h2,h3⟩
  unfold vw_graph_L2
  simp only [nz_ge (Nat.le_refl _),sel_false]
  rw [h1,List.take_length]
  refine hk7 (fun n hn=>?_) (fun n hn=>?_)
  ·obtain ⟨j,hj,rfl⟩:=List.mem_iff_getElem.1 hn
   exact h2 j _ hj (List.getElem?_eq_getElem hj)
  ·obtain ⟨j,hj,rfl⟩:=List.mem_iff_getElem.1 hn
   exact h3 j _ hj (List.getElem?_eq_getElem hj)
theorem graph_L3_ok {t : Tree} (hl : t.Nodes.length ≤ 400) (k3 : List (Int × Node) → Option ((List (Int × Node)) × Bool))
  (hk3 : IncN t.Nodes t.Next t.Nodes.length → (∀ n ∈ t.Nodes,n.Parent = 0 ↔ n.ID = t.Root) → GQ t (k3 (mpo t.Nodes))) :
  GQ t (loopK (vw_graph_L3 t k3) N0 (0,0,[])):=by
 refine loopI (L:=t.Nodes) (fun (s : Int × List (Int × Node)) i=>(s.1,(i : Int),s.2)) (fun i s=>s = (pvid t.Nodes i,mpo (t.Nodes.take i)) ∧ IncN t.Nodes t.Next i ∧ ∀ j m,j < i → t.Nodes[j]? = some m → (m.Parent = 0 ↔ m.ID = t.Root))
  (GQ t) (by unfold N0;omega) ?_ ?_ (0,[]) ⟨rfl,fun j m hj=>by omega,fun j m hj=>by omega⟩
 ·intro again s i n hn hi ⟨h1,h2,h3⟩
  subst h1
  unfold vw_graph_L3
  simp only [nz_lt hi,sel_true,idxO_nat,hn,bind_some']
  by_cases c1 : pvid t.Nodes i < n.ID ∧ n.ID < t.Next
  ·by_cases c2 : n.Parent = 0 ↔ n.ID = t.Root
   ·have e : (((decide (n.ID ≤ pvid t.Nodes i)) || (decide (n.ID ≥ t.Next))) || ((n.Parent == 0) != (n.ID == t.Root))) = false:=by
     rw [show (n.Parent == 0) = (n.ID == t.Root) from by rw [Bool.eq_iff_iff];simp only [beq_iff_eq];exact c2]
     simp;omega
    rw [e,sel_false]
    have hinc : IncN t.Nodes t.Next (i + 1):=by
     intro j m hj hm
     rcases (by omega : j = i ∨ j < i) with e | e
     ·subst e;rw [hn] at hm;cases hm;exact c1
     ·exact h2 j m e hm
    refine .inr ⟨(pvid t.Nodes (i + 1),mpo (t.Nodes.take (i + 1))),⟨rfl,hinc,?_⟩,?_⟩
    ·intro j m hj hm
     rcases (by omega : j = i ∨ j < i) with e | e
     ·subst e;rw [hn] at hm;cases hm;exact c2
     ·exact h3 j m e hm
    ·rw [pvid_suc hn,wrap_suc hi (by unfold N0;omega),mpo_set,take_suc hn]
     intro hmem
     obtain ⟨m,m1,m2⟩:=List.mem_map.1 hmem
     obtain ⟨j,hj,rfl⟩:=List.mem_iff_getElem.1 m1
     simp only [List.length_take] at hj
     rw [List.getElem_take] at m2
     have:=inc_lt hinc i j _ n (by omega) (by omega) (List.getElem?_eq_getElem (by omega)) hn
     omega
   ·have e : ((n.Parent == 0) != (n.ID == t.Root)) = true:=by
     by_cases c3 : n.Parent = 0
     ·have : ¬ n.ID = t.Root:=fun e=>c2 ⟨fun _=>e,fun _=>c3⟩
      simp [c3,this]
     ·have : n.ID = t.Root:=Classical.byContradiction fun e=>c2 ⟨fun h=>absurd h c3,fun h=>absurd h e⟩
      simp [c3,this]
    rw [e,Bool.or_true,sel_true]
    exact .inl (GQ.bad (fun S=>c2 (S.par n (List.mem_of_getElem? hn))) _)
  ·have e : ((decide (n.ID ≤ pvid t.Nodes i)) || (decide (n.ID ≥ t.Next))) = true:=by simp;omega
   rw [e,Bool.true_or,sel_true]
   exact .inl (GQ.bad (fun S=>c1 (S.inc i n hi hn)) _)
 ·intro again s ⟨h1,h2,h3⟩
  subst h1
  unfold vw_graph_L3
  simp only [nz_ge (Nat.le_refl _),sel_false]
  rw [List.take_length]
  refine hk3 h2 (fun n hn=>?_)
  obtain ⟨j,hj,rfl⟩:=List.mem_iff_getElem.1 hn
  exact h3 j _ hj (List.getElem?_eq_getElem hj)
theorem graph_ok (t : Tree) (hK : ∀ n ∈ t.Nodes,n.Kids.length ≤ 1000000) : GQ t (vw_graph t):=by
 unfold vw_graph
 by_cases c0 : 2 ≤ t.Next ∧ t.Next ≤ 1099511627776 ∧ 1 ≤ t.Nodes.length ∧ t.Nodes.length ≤ 400
 ·have e : ((((decide (t.Next < 2)) || (decide (t.Next > 1099511627776))) || (decide ((t.Nodes.length : Int) < 1))) || (decide ((t.Nodes.length : Int) > 400))) = false:=by simp;omega
  rw [e,sel_false,jn_eq]
  refine graph_L3_ok c0.2.2.2 _ (fun hinc hpar=>?_)
  simp only [mpo_getO,bind_some']
  cases hr : look t.Nodes t.Root with
  | none =>
   simp only [Option.isSome_none,Bool.not_false,sel_true]
   refine GQ.bad (fun S=>?_) _
   obtain ⟨n,hn⟩:=S.rt
   rw [hr] at hn;cases hn
  | some r =>
   simp only [Option.isSome_some,Bool.not_true,sel_false,jn_eq]
   have S : Pre1 t:=⟨hinc,hpar,r,hr⟩
   refine graph_L2_ok S c0.2.2.2 hK _ (fun hnod hkid=>?_)
   rw [tr_len,mpo_len,List.length_cons]
   have S0 : Shp0 t.Nodes t.Root:=⟨(inc_uniq hinc).1,(inc_uniq hinc).2,⟨r,hr⟩,hpar,hkid,hnod⟩
   by_cases ct : (t.Nodes.flatMap (·.Kids)).length + 1 = t.Nodes.length
   ·rw [show ((((t.Nodes.flatMap (·.Kids)).length + 1 : Nat) : Int) != (t.Nodes.length : Int)) = false by rw [bne_eq_false_iff_eq];omega,sel_false]
    rw [preorder_ok S0 c0.2.2.2 t.Nodes.length N0 0 t.Root Reach.z (by omega) (by unfold N0;omega),bind_some']
    refine ⟨_,_,rfl,?_,fun _=>rfl⟩
    simp only [beq_iff_eq]
    constructor
    ·intro h
     exact ⟨c0,hinc,hpar,⟨r,hr⟩,hkid,hnod,ct,by unfold Whole;omega⟩
    ·intro S'
     have:=S'.whole
     unfold Whole at this
     rw [this]
   ·rw [show ((((t.Nodes.flatMap (·.Kids)).length + 1 : Nat) : Int) != (t.Nodes.length : Int)) = true by rw [bne_iff_ne];omega,sel_true]
    exact GQ.bad (fun S'=>ct S'.tot) _
 ·have e : ((((decide (t.Next < 2)) || (decide (t.Next > 1099511627776))) || (decide ((t.Nodes.length : Int) < 1))) || (decide ((t.Nodes.length : Int) > 400))) = true:=by
   simp only [Bool.or_eq_true,decide_eq_true_eq];omega
  rw [e,sel_true]
  exact GQ.bad (fun S=>c0 S.lim) _
end Go.Proofs.YtcfegecdlbbeaaaGreatDoor
end
section
namespace Go.Proofs.YtcfegecdlbbeaaaGreatDoor
open Go Go.E2
theorem sidx_ok {s : Str} {i : Nat} (h : i < s.size) : ∃ b : Int,sidxO s (i : Int) = some b:=by
 obtain ⟨b,_,_,hb⟩:=sidx_bl h
 exact ⟨b,hb⟩
def byt (s : Str) (i : Nat) : Int:=match sidxO s (i : Int) with
 | some b=>b
 | none=>0
theorem byt_eq {s : Str} {i : Nat} (h : i < s.size) : sidxO s (i : Int) = some (byt s i):=by
 obtain ⟨b,hb⟩:=sidx_ok h
 unfold byt;rw [hb]
def ltr (c : Int) : Bool:=((decide (c ≥ 97)) && (decide (c ≤ 122))) || ((decide (c ≥ 65)) && (decide (c ≤ 90)))
def nch (c : Int) : Bool:=ltr c || (decide (48 ≤ c) && decide (c ≤ 57)) || c == 45 || c == 95
def namE (s : Str) : Bool:=decide (1 ≤ s.size ∧ s.size ≤ 24 ∧ ltr (byt s 0) = true ∧ ∀ i,i < s.size → nch (byt s i) = true)
theorem nch_ltr {c : Int} (h : ltr c = true) : nch c = true:=by unfold nch;rw [h];rfl
theorem exName_eq (s : Str) : ex_Name s = some (namE s):=by
 unfold ex_Name
 by_cases h0 : 1 ≤ s.size ∧ s.size ≤ 24
 ·rw [show (((s.size : Int) == 0) || (decide ((s.size : Int) > 24))) = false by rw [Bool.or_eq_false_iff,beq_eq_false_iff_ne,decide_eq_false_iff_not];omega,sel_false,jn_eq]
  refine loopN (n:=s.size) (fun (_ : Unit) i=>(i : Int)) (fun i _=>∀ j,j < i → nch (byt s j) = true ∧ (j = 0 → ltr (byt s j) = true)) (fun r=>r = some (namE s)) (by unfold N0;omega) ?_ ?_ () (fun j hj=>by omega)
  ·intro again _ i hi hp
   unfold ex_Name_L1
   rw [nz_lt hi,sel_true,byt_eq hi,bind_some',wrap_suc hi (by unfold N0;omega)]
   by_cases hg : nch (byt s i) = true ∧ (i = 0 → ltr (byt s i) = true)
   ·refine .inr ⟨(),fun j hj=>?_,?_⟩
    ·rcases (by omega : j = i ∨ j < i) with e | e
     ·subst e;exact hg
     ·exact hp j e
    ·refine sel_f ?_ _ _
     show ((!(ltr (byt s i))) && (((i : Int) == 0) || ((((decide (byt s i < 48)) || (decide (byt s i > 57))) && (byt s i != 45)) && (byt s i != 95)))) = false
     obtain ⟨g1,g2⟩:=hg
     cases hl : ltr (byt s i) with
     | true=>rfl
     | false =>
      rw [hl] at g2
      have h0 : ¬ i = 0:=fun e=>Bool.noConfusion (g2 e)
      unfold nch at g1
      rw [hl] at g1
      simp only [Bool.not_false,Bool.true_and,Bool.or_eq_false_iff,Bool.and_eq_false_iff,beq_eq_false_iff_ne,bne_eq_false_iff_eq,decide_eq_false_iff_not]
      simp only [Bool.false_or,Bool.or_eq_true,Bool.and_eq_true,decide_eq_true_eq,beq_iff_eq] at g1
      omega
   ·refine .inl ?_
    rw [show namE s = false from decide_eq_false (fun h=>hg ⟨h.2.2.2 i hi,fun e=>by subst e;exact h.2.2.1⟩)]
    refine sel_t ?_ _ _
    show ((!(ltr (byt s i))) && (((i : Int) == 0) || ((((decide (byt s i < 48)) || (decide (byt s i > 57))) && (byt s i != 45)) && (byt s i != 95)))) = true
    cases hl : ltr (byt s i) with
    | true=>exact absurd ⟨nch_ltr hl,fun _=>hl⟩ hg
    | false =>
     by_cases h0 : i = 0
     ·subst h0;rfl
     ·have g1 : ¬ nch (byt s i) = true:=fun h=>hg ⟨h,fun e=>absurd e h0⟩
      unfold nch at g1
      rw [hl] at g1
      simp only [Bool.not_false,Bool.true_and,Bool.or_eq_true,Bool.and_eq_true,beq_iff_eq,bne_iff_ne,decide_eq_true_eq]
      simp only [Bool.false_or,Bool.or_eq_true,Bool.and_eq_true,decide_eq_true_eq,beq_iff_eq] at g1
      omega
  ·intro again _ hp
   unfold ex_Name_L1
   rw [nz_ge (Nat.le_refl _),sel_false]
   rw [show namE s = true from decide_eq_true ⟨h0.1,h0.2,(hp 0 (by omega)).2 rfl,fun i hi=>(hp i hi).1⟩]
 ·rw [show (((s.size : Int) == 0) || (decide ((s.size : Int) > 24))) = true by simp only [Bool.or_eq_true,beq_iff_eq,decide_eq_true_eq];omega,sel_true]
  rw [show namE s = false from decide_eq_false (fun h=>h0 ⟨h.1,h.2.1⟩)]
theorem rName_eq (s : Str) : r11_Name s = some (namE s):=by
 unfold r11_Name r11_letter
 by_cases h0 : 1 ≤ s.size ∧ s.size ≤ 24
 ·rw [show ((decide ((s.size : Int) < 1)) || (decide ((s.size : Int) > 24))) = false by simp;omega]
  have hb : sidxO s 0 = some (byt s 0):=byt_eq (i:=0) (by omega)
  rw [Bool.not_false,gO_true,hb,bind_some',gO_true,bind_some',Bool.false_or]
  show sel (!(ltr (byt s 0))) _ _ = _
  cases hl : ltr (byt s 0) with
  | false =>
   rw [Bool.not_false,sel_true,show namE s = false from decide_eq_false (fun h=>by rw [hl] at h;exact Bool.noConfusion h.2.2.1)]
  | true =>
   rw [Bool.not_true,sel_false,jn_eq]
   refine loopNF (n:=s.size) (fun (_ : Unit) i=>(i : Int)) (fun i _=>∀ j,j < i → nch (byt s j) = true) (fun r=>r = some (namE s)) ?_ ?_ N0 1 () (by omega) (by unfold N0;omega) (fun j hj=>by rw [show j = 0 by omega];exact nch_ltr hl)
   ·intro again _ i hi hp
    unfold r11_Name_L1 r11_letter
    rw [nz_lt hi,sel_true,byt_eq hi,bind_some',bind_some',wrap_suc hi (by unfold N0;omega)]
    have key : ∀ (F : Int → Int → Int → Int → Option Bool),((gO (!(ltr (byt s i))) (some (byt s i))).bind fun x11=>(gO ((!(ltr (byt s i))) && !(decide (x11 < 48))) (some (byt s i))).bind fun x12=>(gO ((!(ltr (byt s i))) && ((decide (x11 < 48)) || (decide (x12 > 57)))) (some (byt s i))).bind fun x13=>(gO (((!(ltr (byt s i))) && ((decide (x11 < 48)) || (decide (x12 > 57)))) && (x13 != 45)) (some (byt s i))).bind fun x14=>F x11 x12 x13 x14) = F (if ltr (byt s i) then default else byt s i) (if ltr (byt s i) then default else if byt s i < 48 then default else byt s i) (if ltr (byt s i) then default else if byt s i < 48 ∨ byt s i > 57 then byt s i else default) (if ltr (byt s i) then default else if (byt s i < 48 ∨ byt s i > 57) ∧ byt s i ≠ 45 then byt s i else default):=by
     intro F
     cases hl2 : ltr (byt s i) with
     | true=>simp
     | false =>
      by_cases c1 : byt s i < 48
      ·by_cases c3 : byt s i = 45
       ·simp [c3]
       ·have c3' : (byt s i != 45) = true:=by simp [c3]
        simp [c1,c3,c3']
      ·by_cases c2 : byt s i > 57
       ·by_cases c3 : byt s i = 45
        ·simp [c3]
        ·have c3' : (byt s i != 45) = true:=by simp [c3]
         simp [c1,c2,c3,c3']
       ·simp [c1,c2]
    by_cases hg : nch (byt s i) = true
    ·refine .inr ⟨(),fun j hj=>?_,?_⟩
     ·rcases (by omega : j = i ∨ j < i) with e | e
      ·subst e;exact hg
      ·exact hp j e
     ·refine (key _).trans (sel_f ?_ _ _)
      show ((((!(ltr (byt s i))) && _) && _) && _) = false
      cases hl2 : ltr (byt s i) with
      | true=>rfl
      | false =>
       unfold nch at hg
       rw [hl2] at hg
       simp only [Bool.false_or,Bool.or_eq_true,Bool.and_eq_true,decide_eq_true_eq,beq_iff_eq] at hg
       by_cases c1 : byt s i < 48
       ·by_cases c3 : byt s i = 45
        ·simp [c3]
        ·omega
       ·by_cases c2 : byt s i > 57
        ·have : byt s i = 95:=by omega
         simp [this]
        ·simp [c1,c2]
    ·refine .inl ?_
     rw [show namE s = false from decide_eq_false (fun h=>hg (h.2.2.2 i hi))]
     refine (key _).trans (sel_t ?_ _ _)
     show ((((!(ltr (byt s i))) && _) && _) && _) = true
     cases hl2 : ltr (byt s i) with
     | true=>exact absurd (nch_ltr hl2) hg
     | false =>
      unfold nch at hg
      rw [hl2] at hg
      simp only [Bool.false_or,Bool.or_eq_true,Bool.and_eq_true,decide_eq_true_eq,beq_iff_eq] at hg
      have c3 : ¬ byt s i = 45:=by omega
      have c4 : ¬ byt s i = 95:=by omega
      by_cases c1 : byt s i < 48
      ·simp [c1,c3,c4]
      ·have c2 : byt s i > 57:=by omega
       simp [c1,c2,c3,c4]
   ·intro again _ hp
    unfold r11_Name_L1
    rw [nz_ge (Nat.le_refl _),sel_false]
    rw [show namE s = true from decide_eq_true ⟨h0.1,h0.2,hl,fun i hi=>hp i hi⟩]
 ·rw [show ((decide ((s.size : Int) < 1)) || (decide ((s.size : Int) > 24))) = true by simp only [Bool.or_eq_true,decide_eq_true_eq];omega]
  rw [show namE s = false from decide_eq_false (fun h=>h0 ⟨h.1,h.2.1⟩)]
  rfl
end Go.Proofs.YtcfegecdlbbeaaaGreatDoor
end
section
namespace Go.Proofs.YtcfegecdlbbeaaaGreatDoor
open Go Go.E2
def keyE (s : Str) : Bool:=decide (s.size ≤ 24 ∧ ∀ i,i < s.size → nch (byt s i) = true)
theorem nch_not (c : Int) : ((((((decide (c < 97)) || (decide (c > 122))) && ((decide (c < 65)) || (decide (c > 90)))) && ((decide (c < 48)) || (decide (c > 57)))) && (c != 45)) && (c != 95)) = !(nch c):=by
 rw [Bool.eq_iff_iff]
 unfold nch ltr
 simp only [Bool.not_eq_true',Bool.or_eq_true,Bool.and_eq_true,Bool.or_eq_false_iff,Bool.and_eq_false_iff,decide_eq_true_eq,decide_eq_false_iff_not,beq_eq_false_iff_ne,bne_iff_ne]
 omega
theorem key_ok {s : Str} (h : s.size < N0) : vw_Key s = some (keyE s):=by
 unfold vw_Key
 rw [jn_eq]
 refine loopN (n:=s.size) (fun (_ : Unit) i=>(i : Int)) (fun i _=>∀ j,j < i → nch (byt s j) = true) (fun r=>r = some (keyE s)) h ?_ ?_ () (fun j hj=>by omega)
 ·intro again _ i hi hp
  unfold vw_Key_L1
  rw [nz_lt hi,sel_true,byt_eq hi,bind_some',wrap_suc hi h,nch_not]
  cases hg : nch (byt s i) with
  | true =>
   refine .inr ⟨(),fun j hj=>?_,rfl⟩
   rcases (by omega : j = i ∨ j < i) with e | e
   ·subst e;exact hg
   ·exact hp j e
  | false =>
   refine .inl ?_
   rw [show keyE s = false from decide_eq_false (fun h=>by have:=h.2 i hi;rw [hg] at this;cases this)]
   rfl
 ·intro again _ hp
  unfold vw_Key_L1
  rw [nz_ge (Nat.le_refl _),sel_false]
  show some (decide ((s.size : Int) ≤ 24)) = some (decide (s.size ≤ 24 ∧ ∀ i,i < s.size → nch (byt s i) = true))
  rw [Option.some.injEq,decide_eq_decide]
  exact ⟨fun h=>⟨by omega,hp⟩,fun h=>by omega⟩
theorem rkey_ok {s : Str} (h : s.size < N0) : r14_Key s = some (keyE s):=by
 unfold r14_Key
 rw [show r13_Key s = vw_Key s from rfl,key_ok h];rfl
def chE (v : AValue) : Int:=match ex_Check v with
 | some e=>e
 | none=>0
theorem chE_x (v : AValue) : ex_Check v = some (chE v):=by
 obtain ⟨e,h,_⟩:=Check_eq v
 unfold chE;rw [h]
theorem chE_r (v : AValue) : r11_Check v = some (chE v):=by
 obtain ⟨e,h,h'⟩:=Check_eq v
 unfold chE;rw [h,h']
def prv {α : Type} (l : List α) (i : Nat) : Option α:=if i = 0 then none else l[i - 1]?
theorem prv_suc {α : Type} {l : List α} {i : Nat} {x : α} (h : l[i]? = some x) : prv l (i + 1) = some x:=by
 unfold prv;rw [if_neg (by omega),Nat.add_sub_cancel,h]
def nle (o : Option Str) (s : Str) : Bool:=match o with
 | none=>false
 | some t=>!(Op.bytesLess t.toList s.toList)
def atF : Option Attr → List Attr → Int
 | _,[]=>0
 | p,a :: r=>if namE a.Name = false then 4 else if nle (p.map (·.Name)) a.Name = true then 10 else if chE a.Value ≠ 0 then chE a.Value else atF (some a) r
def vaF : List AValue → Int
 | []=>0
 | v :: r=>if chE v ≠ 0 then chE v else vaF r
def acF : Option Action → List Action → Int
 | _,[]=>0
 | p,a :: r=>if (namE a.Event && namE a.Handler) = false then 4 else if nle (p.map (·.Event)) a.Event = true then 10 else if a.Instance.size > 400 ∨ a.Args.length > 100 then 2 else if vaF a.Args ≠ 0 then vaF a.Args else acF (some a) r
theorem atF_cons (p : Option Attr) (a : Attr) (r : List Attr) : atF p (a :: r) = if namE a.Name = false then 4 else if nle (p.map (·.Name)) a.Name = true then 10 else if chE a.Value ≠ 0 then chE a.Value else atF (some a) r:=rfl
theorem vaF_cons (v : AValue) (r : List AValue) : vaF (v :: r) = if chE v ≠ 0 then chE v else vaF r:=rfl
theorem acF_cons (p : Option Action) (a : Action) (r : List Action) : acF p (a :: r) = if (namE a.Event && namE a.Handler) = false then 4 else if nle (p.map (·.Event)) a.Event = true then 10 else if a.Instance.size > 400 ∨ a.Args.length > 100 then 2 else if vaF a.Args ≠ 0 then vaF a.Args else acF (some a) r:=rfl
theorem prv_at {α : Type} {l : List α} {i : Nat} (hi : i < l.length) (h0 : ¬ i = 0) : ∃ x,prv l i = some x ∧ idxO l (IntKind.i64.wrap ((i : Int) - 1)) = some x ∨ l.length ≥ N0:=by
 rcases Nat.lt_or_ge l.length N0 with h | h
 ·refine ⟨l[i - 1],.inl ⟨?_,?_⟩⟩
  ·unfold prv;rw [if_neg h0,List.getElem?_eq_getElem]
  ·unfold N0 at h
   rw [wrap_id (by omega) (by omega),show (i : Int) - 1 = ((i - 1 : Nat) : Int) by omega,idxO_nat,List.getElem?_eq_getElem]
 ·exact ⟨l[i],.inr h⟩
theorem prv_cmp {α R : Type} [Inhabited α] {l : List α} {i : Nat} (hi : i < l.length) (hn : l.length < N0) (nm : α → Str) (s : Str) (A B : Option R) :
  ((gO (decide ((i : Int) > 0)) (idxO l (IntKind.i64.wrap ((i : Int) - 1)))).bind fun x9=>sel ((decide ((i : Int) > 0)) && (!(Op.bytesLess (nm x9).toList s.toList))) A B) = sel (nle ((prv l i).map nm) s) A B:=by
 by_cases h0 : i = 0
 ·subst h0;rfl
 ·rw [show decide ((i : Int) > 0) = true from decide_eq_true (by omega),gO_true]
  obtain ⟨x,⟨h1,h2⟩ | h⟩:=prv_at hi h0
  ·rw [h1,h2];rfl
  ·omega
theorem attributes_ok {l : List Attr} (hn : l.length < N0) : vw_attributes l = some (atF none l):=by
 unfold vw_attributes
 rw [jn_eq]
 refine loopI (L:=l) (fun (_ : Unit) i=>(i : Int)) (fun i _=>atF none l = atF (prv l i) (l.drop i)) (fun r=>r = some (atF none l)) hn ?_ ?_ () rfl
 ·intro again _ i a ha hi hp
  rw [drop_cons' ha] at hp
  unfold vw_attributes_L1
  rw [nz_lt hi,sel_true,idxO_nat,ha,bind_some',exName_eq,bind_some',wrap_suc hi hn]
  rw [atF_cons] at hp
  cases hb : namE a.Name with
  | false=>rw [if_pos hb] at hp;rw [hp];exact .inl rfl
  | true =>
   rw [if_neg (by rw [hb];exact Bool.noConfusion)] at hp
   rw [Bool.not_true,sel_false,prv_cmp hi hn Attr.Name a.Name]
   cases hc : nle ((prv l i).map Attr.Name) a.Name with
   | true=>rw [if_pos hc] at hp;rw [hp];exact .inl rfl
   | false =>
    rw [if_neg (by rw [hc];exact Bool.noConfusion)] at hp
    rw [sel_false,chE_x,bind_some']
    by_cases he : chE a.Value = 0
    ·rw [if_neg (by simp [he])] at hp
     rw [show (chE a.Value != 0) = false by simp [he],sel_false]
     exact .inr ⟨(),by rw [prv_suc ha];exact hp,rfl⟩
    ·rw [if_pos he] at hp
     rw [show (chE a.Value != 0) = true by simp [he],sel_true,hp]
     exact .inl rfl
 ·intro again _ hp
  rw [List.drop_length] at hp
  unfold vw_attributes_L1
  rw [nz_ge (Nat.le_refl _),sel_false,hp]
  unfold atF;rfl
theorem values_ok {a : Action} (hn : a.Args.length < N0) (k16 : Unit → Option Int) : loopK (vw_actions_L1 a k16) N0 0 = if vaF a.Args = 0 then k16 () else some (vaF a.Args):=by
 refine loopI (L:=a.Args) (fun (_ : Unit) i=>(i : Int)) (fun i _=>vaF a.Args = vaF (a.Args.drop i)) (fun r=>r = if vaF a.Args = 0 then k16 () else some (vaF a.Args)) hn ?_ ?_ () rfl
 ·intro again _ i v hv hi hp
  rw [drop_cons' hv] at hp
  unfold vw_actions_L1
  rw [nz_lt hi,sel_true,idxO_nat,hv,bind_some',chE_x,bind_some',wrap_suc hi hn]
  rw [vaF_cons] at hp
  by_cases he : chE v = 0
  ·rw [if_neg (by simp [he])] at hp
   rw [show (chE v != 0) = false by simp [he],sel_false]
   exact .inr ⟨(),hp,rfl⟩
  ·rw [if_pos he] at hp
   rw [show (chE v != 0) = true by simp [he],sel_true,hp,if_neg he]
   exact .inl rfl
 ·intro again _ hp
  rw [List.drop_length] at hp
  unfold vw_actions_L1
  rw [nz_ge (Nat.le_refl _),sel_false,hp]
  unfold vaF;rfl
theorem actions_ok {l : List Action} (hn : l.length < N0) : vw_actions l = some (acF none l) := by
  unfold vw_actions
  rw [jn_eq]
  refine loopI (L := l) (fun (_ : Unit) i => (i : Int)) (fun i _ => acF none l = acF (prv l i) (l.drop i)) (fun r => r = some (acF none l)) hn ?_ ?_ () rfl
  · intro again _ i a ha hi hp
    rw [drop_cons' ha] at hp
    unfold vw_actions_L2
    rw [nz_lt hi, sel_true, jn_eq, idxO_nat, ha, bind_some', exName_eq, bind_some', exName_eq, wrap_suc hi hn]
    rw [acF_cons] at hp
    have e : (gO (!(!(namE a.Event))) (some (namE a.Handler))).bind (fun x10 => sel ((!(namE a.Event)) || (!x10)) (some (4 : Int)) ((gO (decide ((i : Int) > 0)) (idxO l (IntKind.i64.wrap ((i : Int) - 1)))).bind fun x12 => sel ((decide ((i : Int) > 0)) && (!(Op.bytesLess x12.Event.toList a.Event.toList))) (some 10) (sel ((decide ((a.Instance.size : Int) > 400)) || (decide ((a.Args.length : Int) > 100))) (some 2) (jn (fun (_s15 : Unit) => again ((i + 1 : Nat) : Int)) fun k16 => loopK (vw_actions_L1 a k16) N0 0)))) =
        sel (!(namE a.Event && namE a.Handler)) (some 4) (sel (nle ((prv l i).map Action.Event) a.Event) (some 10) (sel ((decide ((a.Instance.size : Int) > 400)) || (decide ((a.Args.length : Int) > 100))) (some 2) (jn (fun (_s15 : Unit) => again ((i + 1 : Nat) : Int)) fun k16 => loopK (vw_actions_L1 a k16) N0 0))) := by
      rw [← prv_cmp hi hn Action.Event a.Event]
      cases namE a.Event <;> cases namE a.Handler <;> rfl
    rw [e]
    cases hb : (namE a.Event && namE a.Handler) with
    | false => rw [if_pos hb] at hp; rw [hp]; exact .inl rfl
    | true =>
      rw [if_neg (by rw [hb]; exact Bool.noConfusion)] at hp
      rw [Bool.not_true, sel_false]
      cases hc : nle ((prv l i).map Action.Event) a.Event with
      | true => rw [if_pos hc] at hp; rw [hp]; exact .inl rfl
      | false =>
        rw [if_neg (by rw [hc]; exact Bool.noConfusion)] at hp
        rw [sel_false]
        by_cases hd : a.Instance.size > 400 ∨ a.Args.length > 100
        · rw [if_pos hd] at hp
          rw [show ((decide ((a.Instance.size : Int) > 400)) || (decide ((a.Args.length : Int) > 100))) = true by simp only [Bool.or_eq_true, decide_eq_true_eq]; omega, hp]
          exact .inl rfl
        · rw [if_neg hd] at hp
          rw [show ((decide ((a.Instance.size : Int) > 400)) || (decide ((a.Args.length : Int) > 100))) = false by simp only [Bool.or_eq_false_iff, decide_eq_false_iff_not]; omega, sel_false, jn_eq, values_ok (by unfold N0; omega)]
          by_cases he : vaF a.Args = 0
          · rw [if_neg (by simp [he])] at hp
            rw [if_pos he]
            exact .inr ⟨(), by rw [prv_suc ha]; exact hp, rfl⟩
          · rw [if_pos he] at hp
            rw [if_neg he, hp]
            exact .inl rfl
  · intro again _ hp
    rw [List.drop_length] at hp
    unfold vw_actions_L2
    rw [nz_ge (Nat.le_refl _), sel_false, hp]
    unfold acF; rfl
def dupF : List Str → List View → Bool
 | _,[]=>false
 | seen,k :: r=>if k.Key ≠ ByteArray.mk #[] ∧ k.Key ∈ seen then true else dupF (seen ++ [k.Key]) r
theorem dupF_cons (seen : List Str) (k : View) (r : List View) : dupF seen (k :: r) = if k.Key ≠ ByteArray.mk #[] ∧ k.Key ∈ seen then true else dupF (seen ++ [k.Key]) r:=rfl
theorem mget1_set {K V : Type} [BEq K] [LawfulBEq K] : ∀ (m : List (K × V)) (k k' : K) (v : V),mget1 (msetL m k v) k' = match k' == k with
  | true=>some v
  | false=>mget1 m k'
 | [],k,k',v=>rfl
 | (a,u) :: m,k,k',v=>by
  unfold msetL
  cases h : k == a with
  | true =>
   obtain rfl:=eq_of_beq h
   show (match k' == k with | true=>some v | false=>mget1 m k') = match k' == k with | true=>some v | false=>(match k' == k with | true=>some u | false=>mget1 m k')
   cases k' == k <;> rfl
  | false =>
   show (match k' == a with | true=>some u | false=>mget1 (msetL m k v) k') = match k' == k with | true=>some v | false=>(match k' == a with | true=>some u | false=>mget1 m k')
   rw [mget1_set m k k' v]
   cases h1 : k' == a with
   | true =>
    obtain rfl:=eq_of_beq h1
    have : (k' == k) = false:=by
     rw [Bool.eq_false_iff] at h ⊢
     exact fun e=>h (by rw [eq_of_beq e];exact beq_self_eq_true _)
    rw [this]
   | false=>rfl
theorem kd_loop {R : Type} {v : View} (h100 : v.Kids.length ≤ 100) (bad : Option R) (k12 : Unit → Option R) (B : ((Int × List (Str × Bool)) → Option R) → (Int × List (Str × Bool)) → Option R)
  (hB : B = fun again22 s21=>sel (decide (s21.1 < (v.Kids.length : Int))) ((idxO v.Kids s21.1).bind fun x24=>(gO (!(x24.Key.toList == (ByteArray.mk #[]).toList)) (mgetO s21.2 x24.Key false)).bind fun x25=>sel ((!(x24.Key.toList == (ByteArray.mk #[]).toList)) && x25.1) bad (again22 (IntKind.i64.wrap (s21.1 + 1),msetL s21.2 x24.Key true))) (k12 ())) :
  loopK B N0 (0,([] : List (Str × Bool))) = if dupF [] v.Kids = true then bad else k12 ():=by
 refine loopI (L:=v.Kids) (fun (m : List (Str × Bool)) i=>((i : Int),m)) (fun i m=>dupF [] v.Kids = dupF ((v.Kids.take i).map (·.Key)) (v.Kids.drop i) ∧ ∀ k,mget1 m k = if k ∈ (v.Kids.take i).map (·.Key) then some true else none)
  (fun r=>r = if dupF [] v.Kids = true then bad else k12 ()) (by unfold N0;omega) ?_ ?_ [] ⟨rfl,fun k=>rfl⟩
 ·intro again m i x hx hi ⟨h1,h2⟩
  subst hB
  rw [drop_cons' hx] at h1
  rw [dupF_cons] at h1
  have e0 : ∀ (s : Str),(mgetO m s false) = some (decide (s ∈ (v.Kids.take i).map (·.Key)),decide (s ∈ (v.Kids.take i).map (·.Key))):=by
   intro s
   unfold mgetO
   rw [h2 s]
   by_cases h : s ∈ (v.Kids.take i).map (·.Key)
   ·rw [if_pos h,decide_eq_true h]
   ·rw [if_neg h,decide_eq_false h]
  simp only [nz_lt hi,selT',idxO_nat,hx,bindN,bs_eq,e0]
  rw [wrap_suc hi (by unfold N0;omega)]
  have e1 : ∀ (A B : Option R),((gO (!(decide (x.Key = ByteArray.mk #[]))) (some (decide (x.Key ∈ (v.Kids.take i).map (·.Key)),decide (x.Key ∈ (v.Kids.take i).map (·.Key))))).bind fun x25=>sel ((!(decide (x.Key = ByteArray.mk #[]))) && x25.1) A B) = if x.Key ≠ ByteArray.mk #[] ∧ x.Key ∈ (v.Kids.take i).map (·.Key) then A else B:=by
   intro A B
   by_cases c1 : x.Key = ByteArray.mk #[]
   ·rw [if_neg (by simp [c1]),decide_eq_true c1];rfl
   ·rw [decide_eq_false c1,Bool.not_false,gO_true,bind_some',Bool.true_and]
    by_cases c2 : x.Key ∈ (v.Kids.take i).map (·.Key)
    ·rw [if_pos ⟨c1,c2⟩,decide_eq_true c2];rfl
    ·rw [if_neg (fun h=>c2 h.2),decide_eq_false c2];rfl
  rw [e1]
  by_cases c : x.Key ≠ ByteArray.mk #[] ∧ x.Key ∈ (v.Kids.take i).map (·.Key)
  ·rw [if_pos c] at h1
   rw [if_pos c,if_pos h1]
   exact .inl rfl
  ·rw [if_neg c] at h1
   rw [if_neg c]
   refine .inr ⟨_,⟨?_,?_⟩,rfl⟩
   ·rw [h1,take_suc hx];simp
   ·intro k
    rw [mget1_set,h2 k,take_suc hx,List.map_append]
    by_cases e : k = x.Key
    ·subst e;simp
    ·rw [show (k == x.Key) = false by simp [e]]
     by_cases e2 : k ∈ (v.Kids.take i).map (·.Key)
     ·rw [if_pos e2,if_pos (List.mem_append_left _ e2)]
     ·rw [if_neg e2,if_neg (by
       intro h
       rcases List.mem_append.1 h with h | h
       ·exact e2 h
       ·simp at h;exact e h)]
 ·intro again m ⟨h1,h2⟩
  subst hB
  rw [List.drop_length] at h1
  simp only [nz_ge (Nat.le_refl _),selF']
  rw [h1]
  unfold dupF;rfl
def kdF (g : View → Int → Int × Int) : List View → Int → Int × Int
 | [],m=>(0,m)
 | k :: r,m=>if (g k m).1 ≠ 0 then g k m else kdF g r (g k m).2
def valB (g : View → Int → Int × Int) (v : View) (d m : Int) : Int × Int :=
 if d > 16 then (8,m + 1) else if m + 1 > 400 then (2,m + 1) else if v.Kind < 1 ∨ v.Kind > 13 then (9,m + 1) else if keyE v.Key = false then (4,m + 1)
 else if v.Attrs.length > 24 ∨ v.Actions.length > 24 ∨ v.Kids.length > 100 then (2,m + 1) else if atF none v.Attrs ≠ 0 then (atF none v.Attrs,m + 1) else if acF none v.Actions ≠ 0 then (acF none v.Actions,m + 1)
 else if dupF [] v.Kids = true then (6,m + 1) else kdF g v.Kids (m + 1)
def valF : Nat → View → Int → Int → Int × Int
 | 0,_,_,m=>(0,m)
 | f + 1,v,d,m=>valB (fun k m=>valF f k (d + 1) m) v d m
mutual
def View.sm : View → Prop
 | ⟨_,key,_,_,kids⟩=>key.size < N0 ∧ View.smL kids
def View.smL : List View → Prop
 | []=>True
 | x :: r=>View.sm x ∧ View.smL r
end
theorem View.smL_eq : ∀ l,View.smL l ↔ ∀ a ∈ l,View.sm a
 | []=>by unfold View.smL;simp
 | x :: r=>by unfold View.smL;rw [View.smL_eq r];simp
theorem View.sm_eq (v : View) : View.sm v ↔ v.Key.size < N0 ∧ ∀ a ∈ v.Kids,View.sm a:=by
 cases v
 conv=>lhs;unfold View.sm
 rw [View.smL_eq]
theorem kdF_cons (g : View → Int → Int × Int) (k : View) (r : List View) (m : Int) : kdF g (k :: r) m = if (g k m).1 ≠ 0 then g k m else kdF g r (g k m).2:=rfl
theorem vkids_ok {v : View} {d : Int} {se : View → Int → Int → Option (Int × Int)} {g : View → Int → Int × Int} (h100 : v.Kids.length ≤ 100) (hd : -100 ≤ d ∧ d ≤ 100)
  (hs : ∀ k ∈ v.Kids,∀ m,0 ≤ m → m ≤ 400 → se k (d + 1) m = some (g k m) ∧ ((g k m).1 = 0 → 0 ≤ (g k m).2 ∧ (g k m).2 ≤ 400)) {m : Int} (h0 : 0 ≤ m) (h1 : m ≤ 400) :
  loopK (vw_validate_L1 se v d fun s13=>some (0,s13)) N0 (0,m) = some (kdF g v.Kids m) ∧ ((kdF g v.Kids m).1 = 0 → 0 ≤ (kdF g v.Kids m).2 ∧ (kdF g v.Kids m).2 ≤ 400):=by
 refine loopI (L:=v.Kids) (fun (m : Int) i=>((i : Int),m)) (fun i m'=>kdF g v.Kids m = kdF g (v.Kids.drop i) m' ∧ 0 ≤ m' ∧ m' ≤ 400) (fun r=>r = some (kdF g v.Kids m) ∧ ((kdF g v.Kids m).1 = 0 → 0 ≤ (kdF g v.Kids m).2 ∧ (kdF g v.Kids m).2 ≤ 400)) (by unfold N0;omega) ?_ ?_ m ⟨rfl,h0,h1⟩
 ·intro again m' i k hk hi ⟨hp,hp0,hp1⟩
  rw [drop_cons' hk] at hp
  rw [kdF_cons] at hp
  obtain ⟨e1,e2⟩:=hs k (List.mem_of_getElem? hk) m' hp0 hp1
  unfold vw_validate_L1
  simp only
  rw [nz_lt hi,sel_true,idxO_nat,hk,bind_some',wrap_id (x:=d + 1) (by omega) (by omega),e1,bind_some',wrap_suc hi (by unfold N0;omega)]
  by_cases he : (g k m').1 = 0
  ·rw [if_neg (by simp [he])] at hp
   rw [show ((g k m').1 != 0) = false by simp [he],sel_false]
   exact .inr ⟨(g k m').2,⟨hp,e2 he⟩,rfl⟩
  ·rw [if_pos he] at hp
   rw [show ((g k m').1 != 0) = true by simp [he],sel_true,hp]
   exact .inl ⟨rfl,fun h=>absurd h he⟩
 ·intro again m' ⟨hp,hp0,hp1⟩
  rw [List.drop_length] at hp
  unfold vw_validate_L1
  simp only
  rw [nz_ge (Nat.le_refl _),sel_false,hp]
  exact ⟨rfl,fun _=>⟨hp0,hp1⟩⟩
theorem validate_ok : ∀ (f n : Nat) (v : View) (d m : Int),v.sm → 18 ≤ f + d → 1 ≤ d → d ≤ 17 → f ≤ n → 0 ≤ m → m ≤ 400 → vw_validate n v d m = some (valF f v d m) ∧ ((valF f v d m).1 = 0 → 0 ≤ (valF f v d m).2 ∧ (valF f v d m).2 ≤ 400)
 | 0,n,v,d,m,_,h,_,hd,_,_,_=>by omega
 | f + 1,0,v,d,m,_,_,_,_,h,_,_=>by omega
 | f + 1,n + 1,v,d,m,hv,hf,hd,hd7,hn,h0,h1=>by
  rw [View.sm_eq] at hv
  show vw_validate_B (vw_validate n) v d m = some (valB (fun k m=>valF f k (d + 1) m) v d m) ∧ ((valB (fun k m=>valF f k (d + 1) m) v d m).1 = 0 → _ ≤ (valB (fun k m=>valF f k (d + 1) m) v d m).2 ∧ (valB (fun k m=>valF f k (d + 1) m) v d m).2 ≤ 400)
  unfold vw_validate_B valB
  rw [wrap_id (x:=m + 1) (by omega) (by omega)]
  by_cases c1 : d > 16
  ·rw [if_pos c1,decide_eq_true c1];exact ⟨rfl,fun h=>by cases h⟩
  rw [if_neg c1,decide_eq_false c1,sel_false]
  by_cases c2 : m + 1 > 400
  ·rw [if_pos c2,decide_eq_true c2];exact ⟨rfl,fun h=>by cases h⟩
  rw [if_neg c2,decide_eq_false c2,sel_false]
  by_cases c3 : v.Kind < 1 ∨ v.Kind > 13
  ·rw [if_pos c3,show ((decide (v.Kind < 1)) || (decide (v.Kind > 13))) = true by simp only [Bool.or_eq_true,decide_eq_true_eq];exact c3];exact ⟨rfl,fun h=>by cases h⟩
  rw [if_neg c3,show ((decide (v.Kind < 1)) || (decide (v.Kind > 13))) = false by simp only [Bool.or_eq_false_iff,decide_eq_false_iff_not];omega,sel_false,key_ok hv.1,bind_some']
  cases c4 : keyE v.Key with
  | false=>rw [if_pos rfl];exact ⟨rfl,fun h=>by cases h⟩
  | true =>
   rw [if_neg (by exact Bool.noConfusion),Bool.not_true,sel_false]
   by_cases c5 : v.Attrs.length > 24 ∨ v.Actions.length > 24 ∨ v.Kids.length > 100
   ·rw [if_pos c5,show (((decide ((v.Attrs.length : Int) > 24)) || (decide ((v.Actions.length : Int) > 24))) || (decide ((v.Kids.length : Int) > 100))) = true by simp only [Bool.or_eq_true,decide_eq_true_eq];omega];exact ⟨rfl,fun h=>by cases h⟩
   rw [if_neg c5,show (((decide ((v.Attrs.length : Int) > 24)) || (decide ((v.Actions.length : Int) > 24))) || (decide ((v.Kids.length : Int) > 100))) = false by simp only [Bool.or_eq_false_iff,decide_eq_false_iff_not];omega,sel_false]
   rw [attributes_ok (by unfold N0;omega),bind_some']
   by_cases c6 : atF none v.Attrs = 0
   ·rw [if_neg (by simp [c6]),show (atF none v.Attrs != 0) = false by simp [c6],sel_false,actions_ok (by unfold N0;omega),bind_some']
    by_cases c7 : acF none v.Actions = 0
    ·rw [if_neg (by simp [c7]),show (acF none v.Actions != 0) = false by simp [c7],sel_false,jn_eq,jn_eq]
     rw [kd_loop (v:=v) (by omega) (some (6,m + 1)) (fun _=>loopK (vw_validate_L1 (vw_validate n) v d fun s13=>some (0,s13)) N0 (0,m + 1)) _ (by
      funext again s
      unfold vw_validate_L2
      rw [wrap_id (x:=m + 1) (by omega) (by omega)])]
     by_cases c8 : dupF [] v.Kids = true
     ·rw [if_pos c8,if_pos c8];exact ⟨rfl,fun h=>by cases h⟩
     ·rw [if_neg c8,if_neg c8]
      exact vkids_ok (by omega) (by omega) (fun k hk m' h0' h1'=>validate_ok f n k (d + 1) m' (hv.2 k hk) (by omega) (by omega) (by omega) (by omega) h0' h1') (m:=m + 1) (by omega) (by omega)
    ·rw [if_pos c7,show (acF none v.Actions != 0) = true by simp [c7],sel_true];exact ⟨rfl,fun h=>absurd h c7⟩
   ·rw [if_pos c6,show (atF none v.Attrs != 0) = true by simp [c6],sel_true];exact ⟨rfl,fun h=>absurd h c6⟩
def errV (v : View) : Int:=(valF 17 v 1 0).1
theorem Validate_ok {v : View} (h : v.sm) : vw_Validate v = some (errV v):=by
 unfold vw_Validate
 rw [(validate_ok 17 N0 v 1 0 h (by omega) (by omega) (by omega) (by unfold N0;omega) (by omega) (by omega)).1]
 rfl
end Go.Proofs.YtcfegecdlbbeaaaGreatDoor
end
section
namespace Go.Proofs.YtcfegecdlbbeaaaGreatDoor
open Go Go.E2
theorem ble : ∀ (a b : List UInt8),(Op.bytesLess b a || b == a) = !(Op.bytesLess a b)
 | [],[]=>rfl
 | [],_ :: _=>rfl
 | _ :: _,[]=>rfl
 | x :: a,y :: b=>by
  unfold Op.bytesLess
  have ih:=ble a b
  rw [show ((y :: b) == (x :: a)) = ((y == x) && (b == a)) from rfl]
  rcases Nat.lt_trichotomy x.toNat y.toNat with h | h | h
  ·have h1 : x < y:=h
   have h2 : ¬ y < x:=fun e=>by have e : y.toNat < x.toNat:=e;omega
   have h3 : (y == x) = false:=by
    rw [beq_eq_false_iff_ne];intro e;subst e;omega
   simp [h1,h2,h3]
  ·have h0 : x = y:=UInt8.toNat_inj.1 h
   subst h0
   have h1 : ¬ x < x:=fun e=>by have e : x.toNat < x.toNat:=e;omega
   simp only [h1,decide_false,beq_self_eq_true,Bool.true_and,Bool.false_or]
   exact ih
  ·have h1 : y < x:=h
   have h2 : ¬ x < y:=fun e=>by have e : x.toNat < y.toNat:=e;omega
   have h3 : (x == y) = false:=by
    rw [beq_eq_false_iff_ne];intro e;subst e;omega
   simp [h1,h2,h3]
theorem rprv_cmp {α R : Type} [Inhabited α] {l : List α} {i : Nat} {x : α} (hx : l[i]? = some x) (hi : i < l.length) (hn : l.length < N0) (nm : α → Str) (A B : Option R) :
  ((gO (decide ((i : Int) > 0)) (idxO l (i : Int))).bind fun x8=>(gO (decide ((i : Int) > 0)) (idxO l (IntKind.i64.wrap ((i : Int) - 1)))).bind fun x9=>sel ((decide ((i : Int) > 0)) && (Op.bytesLess (nm x8).toList (nm x9).toList || (nm x8).toList == (nm x9).toList)) A B) = sel (nle ((prv l i).map nm) (nm x)) A B:=by
 by_cases h0 : i = 0
 ·subst h0;rfl
 ·rw [show decide ((i : Int) > 0) = true from decide_eq_true (by omega),gO_true,gO_true,idxO_nat,hx,bind_some']
  obtain ⟨y,⟨h1,h2⟩ | h⟩:=prv_at hi h0
  ·rw [h1,h2,bind_some',ble];rfl
  ·omega
theorem rprv_cmp1 {α R : Type} [Inhabited α] {l : List α} {i : Nat} {x : α} (hi : i < l.length) (hn : l.length < N0) (nm : α → Str) (A B : Option R) :
  ((gO (decide ((i : Int) > 0)) (idxO l (IntKind.i64.wrap ((i : Int) - 1)))).bind fun x9=>sel ((decide ((i : Int) > 0)) && (Op.bytesLess (nm x).toList (nm x9).toList || (nm x).toList == (nm x9).toList)) A B) = sel (nle ((prv l i).map nm) (nm x)) A B:=by
 by_cases h0 : i = 0
 ·subst h0;rfl
 ·rw [show decide ((i : Int) > 0) = true from decide_eq_true (by omega),gO_true]
  obtain ⟨y,⟨h1,h2⟩ | h⟩:=prv_at hi h0
  ·rw [h1,h2,bind_some',ble];rfl
  ·omega
theorem rattr_loop {v : View} {m : Int} (hm : IntKind.i64.wrap (m + 1) = m + 1) (hn : v.Attrs.length < N0) (k8 : Unit → Option (Int × Int)) : loopK (r14_validate_L6 v m k8) N0 0 = if atF none v.Attrs = 0 then k8 () else some (m + 1,atF none v.Attrs):=by
 refine loopI (L:=v.Attrs) (fun (_ : Unit) i=>(i : Int)) (fun i _=>atF none v.Attrs = atF (prv v.Attrs i) (v.Attrs.drop i)) (fun r=>r = if atF none v.Attrs = 0 then k8 () else some (m + 1,atF none v.Attrs)) hn ?_ ?_ () rfl
 ·intro again _ i a ha hi hp
  rw [drop_cons' ha,atF_cons] at hp
  unfold r14_validate_L6
  rw [nz_lt hi,sel_true,idxO_nat,ha,bind_some',rName_eq,bind_some',wrap_suc hi hn,hm]
  cases hb : namE a.Name with
  | false=>rw [if_pos hb] at hp;rw [hp];exact .inl rfl
  | true =>
   rw [if_neg (by rw [hb];exact Bool.noConfusion)] at hp
   have ha' : idxO v.Attrs (i : Int) = some a:=by rw [idxO_nat];exact ha
   rw [Bool.not_true,sel_false,← ha',rprv_cmp ha hi hn Attr.Name,ha']
   cases hc : nle ((prv v.Attrs i).map Attr.Name) a.Name with
   | true=>rw [if_pos hc] at hp;rw [hp];exact .inl rfl
   | false =>
    rw [if_neg (by rw [hc];exact Bool.noConfusion)] at hp
    rw [sel_false,bind_some',chE_r,bind_some']
    by_cases he : chE a.Value = 0
    ·rw [if_neg (by simp [he])] at hp
     rw [show (chE a.Value != 0) = false by simp [he],sel_false]
     exact .inr ⟨(),by rw [prv_suc ha];exact hp,rfl⟩
    ·rw [if_pos he] at hp
     rw [show (chE a.Value != 0) = true by simp [he],sel_true,hp,if_neg he]
     exact .inl rfl
 ·intro again _ hp
  rw [List.drop_length] at hp
  unfold r14_validate_L6
  rw [nz_ge (Nat.le_refl _),sel_false,hp]
  unfold atF;rfl
theorem rvalues_ok {m : Int} (hm : IntKind.i64.wrap (m + 1) = m + 1) {a : Action} (hn : a.Args.length < N0) (k : Unit → Option (Int × Int)) : loopK (r14_validate_L4 m a k) N0 0 = if vaF a.Args = 0 then k () else some (m + 1,vaF a.Args):=by
 refine loopI (L:=a.Args) (fun (_ : Unit) i=>(i : Int)) (fun i _=>vaF a.Args = vaF (a.Args.drop i)) (fun r=>r = if vaF a.Args = 0 then k () else some (m + 1,vaF a.Args)) hn ?_ ?_ () rfl
 ·intro again _ i v hv hi hp
  rw [drop_cons' hv,vaF_cons] at hp
  unfold r14_validate_L4
  rw [nz_lt hi,sel_true,idxO_nat,hv,bind_some',chE_r,bind_some',wrap_suc hi hn,hm]
  by_cases he : chE v = 0
  ·rw [if_neg (by simp [he])] at hp
   rw [show (chE v != 0) = false by simp [he],sel_false]
   exact .inr ⟨(),hp,rfl⟩
  ·rw [if_pos he] at hp
   rw [show (chE v != 0) = true by simp [he],sel_true,hp,if_neg he]
   exact .inl rfl
 ·intro again _ hp
  rw [List.drop_length] at hp
  unfold r14_validate_L4
  rw [nz_ge (Nat.le_refl _),sel_false,hp]
  unfold vaF;rfl
theorem ract_loop {v : View} {m : Int} (hm : IntKind.i64.wrap (m + 1) = m + 1) (hn : v.Actions.length < N0) (k10 : Unit → Option (Int × Int)) : loopK (r14_validate_L5 v m k10) N0 0 = if acF none v.Actions = 0 then k10 () else some (m + 1, acF none v.Actions) := by
  refine loopI (L := v.Actions) (fun (_ : Unit) i => (i : Int)) (fun i _ => acF none v.Actions = acF (prv v.Actions i) (v.Actions.drop i)) (fun r => r = if acF none v.Actions = 0 then k10 () else some (m + 1, acF none v.Actions)) hn ?_ ?_ () rfl
  · intro again _ i a ha hi hp
    rw [drop_cons' ha, acF_cons] at hp
    unfold r14_validate_L5
    rw [nz_lt hi, sel_true, jn_eq, idxO_nat, ha, bind_some', rName_eq, bind_some', rName_eq, wrap_suc hi hn, hm]
    have e : (gO (!(!(namE a.Event))) (some (namE a.Handler))).bind (fun x10 => sel ((!(namE a.Event)) || (!x10)) (some ((m + 1 : Int), (4 : Int))) ((gO (decide ((i : Int) > 0)) (idxO v.Actions (IntKind.i64.wrap ((i : Int) - 1)))).bind fun x12 => sel ((decide ((i : Int) > 0)) && (Op.bytesLess a.Event.toList x12.Event.toList || a.Event.toList == x12.Event.toList)) (some (m + 1, 10)) (sel ((decide ((a.Instance.size : Int) > 400)) || (decide ((a.Args.length : Int) > 100))) (some (m + 1, 2)) (jn (fun (_s15 : Unit) => again ((i + 1 : Nat) : Int)) fun k16 => loopK (r14_validate_L4 m a k16) N0 0)))) =
        sel (!(namE a.Event && namE a.Handler)) (some (m + 1, 4)) (sel (nle ((prv v.Actions i).map Action.Event) a.Event) (some (m + 1, 10)) (sel ((decide ((a.Instance.size : Int) > 400)) || (decide ((a.Args.length : Int) > 100))) (some (m + 1, 2)) (jn (fun (_s15 : Unit) => again ((i + 1 : Nat) : Int)) fun k16 => loopK (r14_validate_L4 m a k16) N0 0))) := by
      rw [← rprv_cmp1 (x := a) hi hn Action.Event]
      cases namE a.Event <;> cases namE a.Handler <;> rfl
    rw [e]
    cases hb : (namE a.Event && namE a.Handler) with
    | false => rw [if_pos hb] at hp; rw [hp]; exact .inl rfl
    | true =>
      rw [if_neg (by rw [hb]; exact Bool.noConfusion)] at hp
      rw [Bool.not_true, sel_false]
      cases hc : nle ((prv v.Actions i).map Action.Event) a.Event with
      | true => rw [if_pos hc] at hp; rw [hp]; exact .inl rfl
      | false =>
        rw [if_neg (by rw [hc]; exact Bool.noConfusion)] at hp
        rw [sel_false]
        by_cases hd : a.Instance.size > 400 ∨ a.Args.length > 100
        · rw [if_pos hd] at hp
          rw [show ((decide ((a.Instance.size : Int) > 400)) || (decide ((a.Args.length : Int) > 100))) = true by simp only [Bool.or_eq_true, decide_eq_true_eq]; omega, hp]
          exact .inl rfl
        · rw [if_neg hd] at hp
          rw [show ((decide ((a.Instance.size : Int) > 400)) || (decide ((a.Args.length : Int) > 100))) = false by simp only [Bool.or_eq_false_iff, decide_eq_false_iff_not]; omega, sel_false, jn_eq, rvalues_ok hm (by unfold N0; omega)]
          by_cases he : vaF a.Args = 0
          · rw [if_neg (by simp [he])] at hp
            rw [if_pos he]
            exact .inr ⟨(), by rw [prv_suc ha]; exact hp, rfl⟩
          · rw [if_pos he] at hp
            rw [if_neg he, hp, if_neg he]
            exact .inl rfl
  · intro again _ hp
    rw [List.drop_length] at hp
    unfold r14_validate_L5
    rw [nz_ge (Nat.le_refl _), sel_false, hp]
    unfold acF; rfl
theorem rdup1 {v : View} {m : Int} (hm : IntKind.i64.wrap (m + 1) = m + 1) (h100 : v.Kids.length ≤ 100) {i : Nat} {x : View} (hx : v.Kids[i]? = some x) (hi : i < v.Kids.length) (k27 : Unit → Option (Int × Int)) :
  loopK (r14_validate_L2 v m (i : Int) k27) N0 0 = if x.Key ≠ ByteArray.mk #[] ∧ x.Key ∈ (v.Kids.take i).map (·.Key) then some (m + 1,6) else k27 ():=by
 refine loopN (n:=i) (fun (_ : Unit) j=>(j : Int)) (fun j _=>¬ (x.Key ≠ ByteArray.mk #[] ∧ x.Key ∈ (v.Kids.take j).map (·.Key))) (fun r=>r = if x.Key ≠ ByteArray.mk #[] ∧ x.Key ∈ (v.Kids.take i).map (·.Key) then some (m + 1,6) else k27 ()) (by unfold N0;omega) ?_ ?_ () (by simp)
 ·intro again _ j hj hp
  have hy : v.Kids[j]? = some v.Kids[j]:=List.getElem?_eq_getElem (by omega)
  unfold r14_validate_L2
  simp only [nz_lt hj,selT',idxO_nat,hx,hy,bindN,bs_eq]
  rw [wrap_suc hj (by unfold N0;omega),hm]
  by_cases c1 : x.Key = ByteArray.mk #[]
  ·rw [decide_eq_true c1]
   exact .inr ⟨(),fun h=>h.1 c1,rfl⟩
  ·rw [decide_eq_false c1,Bool.not_false,gO_true,bind_some',gO_true,bind_some',Bool.true_and]
   by_cases c2 : x.Key = v.Kids[j].Key
   ·rw [decide_eq_true c2,if_pos ⟨c1,List.mem_map.2 ⟨v.Kids[j],List.mem_take_iff_getElem.2 ⟨j,by omega,rfl⟩,c2.symm⟩⟩]
    exact .inl rfl
   ·rw [decide_eq_false c2]
    refine .inr ⟨(),fun h=>?_,rfl⟩
    rw [take_suc hy,List.map_append] at h
    rcases List.mem_append.1 h.2 with h' | h'
    ·exact hp ⟨c1,h'⟩
    ·simp at h';exact c2 h'
 ·intro again _ hp
  unfold r14_validate_L2
  rw [nz_ge (Nat.le_refl _),sel_false,if_neg hp]
theorem rdup_loop {v : View} {m : Int} (hm : IntKind.i64.wrap (m + 1) = m + 1) (h100 : v.Kids.length ≤ 100) (k12 : Unit → Option (Int × Int)) :
  loopK (r14_validate_L3 v m k12) N0 0 = if dupF [] v.Kids = true then some (m + 1,6) else k12 ():=by
 refine loopI (L:=v.Kids) (fun (_ : Unit) i=>(i : Int)) (fun i _=>dupF [] v.Kids = dupF ((v.Kids.take i).map (·.Key)) (v.Kids.drop i)) (fun r=>r = if dupF [] v.Kids = true then some (m + 1,6) else k12 ()) (by unfold N0;omega) ?_ ?_ () rfl
 ·intro again _ i x hx hi h1
  rw [drop_cons' hx,dupF_cons] at h1
  unfold r14_validate_L3
  rw [nz_lt hi,sel_true,jn_eq,jn_eq,rdup1 hm h100 hx hi,wrap_suc hi (by unfold N0;omega)]
  by_cases c : x.Key ≠ ByteArray.mk #[] ∧ x.Key ∈ (v.Kids.take i).map (·.Key)
  ·rw [if_pos c] at h1
   rw [if_pos c,if_pos h1]
   exact .inl rfl
  ·rw [if_neg c] at h1
   rw [if_neg c]
   refine .inr ⟨(),?_,rfl⟩
   rw [h1,take_suc hx];simp
 ·intro again _ h1
  rw [List.drop_length] at h1
  unfold r14_validate_L3
  rw [nz_ge (Nat.le_refl _),sel_false,h1]
  unfold dupF;rfl
theorem rkids_ok {v : View} {d : Int} {sr : View → Int → Int → Option (Int × Int)} {g : View → Int → Int × Int} (h100 : v.Kids.length ≤ 100) (hd : -100 ≤ d ∧ d ≤ 100)
  (hs : ∀ k ∈ v.Kids,∀ m,0 ≤ m → m ≤ 400 → sr k (d + 1) m = some ((g k m).2,(g k m).1) ∧ ((g k m).1 = 0 → 0 ≤ (g k m).2 ∧ (g k m).2 ≤ 400)) {m : Int} (h0 : 0 ≤ m) (h1 : m ≤ 400) :
  loopK (r14_validate_L1 sr v d fun s13=>some (s13,0)) N0 (m,0) = some ((kdF g v.Kids m).2,(kdF g v.Kids m).1):=by
 refine loopI (L:=v.Kids) (fun (m : Int) i=>(m,(i : Int))) (fun i m'=>kdF g v.Kids m = kdF g (v.Kids.drop i) m' ∧ 0 ≤ m' ∧ m' ≤ 400) (fun r=>r = some ((kdF g v.Kids m).2,(kdF g v.Kids m).1)) (by unfold N0;omega) ?_ ?_ m ⟨rfl,h0,h1⟩
 ·intro again m' i k hk hi ⟨hp,hp0,hp1⟩
  rw [drop_cons' hk,kdF_cons] at hp
  obtain ⟨e1,e2⟩:=hs k (List.mem_of_getElem? hk) m' hp0 hp1
  unfold r14_validate_L1
  simp only
  rw [nz_lt hi,sel_true,idxO_nat,hk,bind_some',wrap_id (x:=d + 1) (by omega) (by omega),e1,bind_some',wrap_suc hi (by unfold N0;omega)]
  by_cases he : (g k m').1 = 0
  ·rw [if_neg (by simp [he])] at hp
   rw [show ((g k m').1 != 0) = false by simp [he],sel_false]
   exact .inr ⟨(g k m').2,⟨hp,e2 he⟩,rfl⟩
  ·rw [if_pos he] at hp
   rw [show ((g k m').1 != 0) = true by simp [he],sel_true,hp]
   exact .inl rfl
 ·intro again m' ⟨hp,hp0,hp1⟩
  rw [List.drop_length] at hp
  unfold r14_validate_L1
  simp only
  rw [nz_ge (Nat.le_refl _),sel_false,hp]
  rfl
theorem rvalidate_ok : ∀ (f n : Nat) (v : View) (d m : Int),v.sm → 18 ≤ f + d → 1 ≤ d → d ≤ 17 → f ≤ n → 0 ≤ m → m ≤ 400 → r14_validate n v d m = some ((valF f v d m).2,(valF f v d m).1)
 | 0,n,v,d,m,_,h,_,hd,_,_,_=>by omega
 | f + 1,0,v,d,m,_,_,_,_,h,_,_=>by omega
 | f + 1,n + 1,v,d,m,hv,hf,hd,hd7,hn,h0,h1=>by
  have hv0:=hv
  rw [View.sm_eq] at hv
  show r14_validate_B (r14_validate n) v d m = some ((valB (fun k m=>valF f k (d + 1) m) v d m).2,(valB (fun k m=>valF f k (d + 1) m) v d m).1)
  unfold r14_validate_B valB
  have hm:=wrap_id (x:=m + 1) (by omega) (by omega)
  rw [hm]
  by_cases c1 : d > 16
  ·rw [if_pos c1,decide_eq_true c1];rfl
  rw [if_neg c1,decide_eq_false c1,sel_false]
  by_cases c2 : m + 1 > 400
  ·rw [if_pos c2,decide_eq_true c2];rfl
  rw [if_neg c2,decide_eq_false c2,sel_false]
  by_cases c3 : v.Kind < 1 ∨ v.Kind > 13
  ·rw [if_pos c3,show ((decide (v.Kind < 1)) || (decide (v.Kind > 13))) = true by simp only [Bool.or_eq_true,decide_eq_true_eq];exact c3];rfl
  rw [if_neg c3,show ((decide (v.Kind < 1)) || (decide (v.Kind > 13))) = false by simp only [Bool.or_eq_false_iff,decide_eq_false_iff_not];omega,sel_false,rkey_ok hv.1,bind_some']
  cases c4 : keyE v.Key with
  | false=>rw [if_pos rfl];rfl
  | true =>
   rw [if_neg (by exact Bool.noConfusion),Bool.not_true,sel_false]
   by_cases c5 : v.Attrs.length > 24 ∨ v.Actions.length > 24 ∨ v.Kids.length > 100
   ·rw [if_pos c5,show (((decide ((v.Attrs.length : Int) > 24)) || (decide ((v.Actions.length : Int) > 24))) || (decide ((v.Kids.length : Int) > 100))) = true by simp only [Bool.or_eq_true,decide_eq_true_eq];omega];rfl
   rw [if_neg c5,show (((decide ((v.Attrs.length : Int) > 24)) || (decide ((v.Actions.length : Int) > 24))) || (decide ((v.Kids.length : Int) > 100))) = false by simp only [Bool.or_eq_false_iff,decide_eq_false_iff_not];omega,sel_false]
   rw [jn_eq,rattr_loop hm (by unfold N0;omega)]
   by_cases c6 : atF none v.Attrs = 0
   ·rw [if_pos c6,if_neg (by simp [c6]),jn_eq,ract_loop hm (by unfold N0;omega)]
    by_cases c7 : acF none v.Actions = 0
    ·rw [if_pos c7,if_neg (by simp [c7]),jn_eq,rdup_loop hm (by omega)]
     by_cases c8 : dupF [] v.Kids = true
     ·rw [if_pos c8,if_pos c8]
     ·rw [if_neg c8,if_neg c8,jn_eq]
      exact rkids_ok (by omega) (by omega) (fun k hk m' h0' h1'=>⟨rvalidate_ok f n k (d + 1) m' (hv.2 k hk) (by omega) (by omega) (by omega) (by omega) h0' h1',(validate_ok f f k (d + 1) m' (hv.2 k hk) (by omega) (by omega) (by omega) (by omega) h0' h1').2⟩) (m:=m + 1) (by omega) (by omega)
    ·rw [if_neg c7,if_pos c7]
   ·rw [if_neg c6,if_pos c6]
theorem rValidate_ok {v : View} (h : v.sm) : r14_Validate v = some (errV v):=by
 unfold r14_Validate
 rw [rvalidate_ok 17 N0 v 1 0 h (by omega) (by omega) (by omega) (by unfold N0;omega) (by omega) (by omega)]
 rfl
end Go.Proofs.YtcfegecdlbbeaaaGreatDoor
end
section
namespace Go.Proofs.YtcfegecdlbbeaaaGreatDoor
open Go Go.E2
theorem Index_ok (t : Tree) (x : Int) (hl : t.Nodes.length < N0) : (∃ (i : Nat) (n : Node),r14_Index t x = some (i : Int) ∧ t.Nodes[i]? = some n ∧ look t.Nodes x = some n) ∨ (r14_Index t x = some (-1) ∧ look t.Nodes x = none):=by
 unfold r14_Index
 rw [jn_eq]
 refine loopI (L:=t.Nodes) (fun (_ : Unit) i=>(i : Int)) (fun i _=>look t.Nodes x = look (t.Nodes.drop i) x) (fun r=>(∃ (i : Nat) (n : Node),r = some (i : Int) ∧ t.Nodes[i]? = some n ∧ look t.Nodes x = some n) ∨ (r = some (-1) ∧ look t.Nodes x = none)) hl ?_ ?_ () rfl
 ·intro again _ i n hn hi hp
  rw [drop_cons' hn] at hp
  have hp : look t.Nodes x = if x = n.ID then some n else look (t.Nodes.drop (i + 1)) x:=hp
  unfold r14_Index_L1
  rw [nz_lt hi,sel_true,idxO_nat,hn,bind_some',wrap_suc hi hl]
  by_cases c : x = n.ID
  ·rw [if_pos c] at hp
   rw [show (n.ID == x) = true by simp [c],sel_true]
   exact .inl (.inl ⟨i,n,rfl,hn,hp⟩)
  ·rw [if_neg c] at hp
   rw [show (n.ID == x) = false by rw [beq_eq_false_iff_ne];exact fun e=>c e.symm,sel_false]
   exact .inr ⟨(),hp,rfl⟩
 ·intro again _ hp
  rw [List.drop_length] at hp
  unfold r14_Index_L1
  rw [nz_ge (Nat.le_refl _),sel_false]
  exact .inr ⟨rfl,hp⟩
theorem Node_ok (t : Tree) (x : Int) (hl : t.Nodes.length < N0) : r14_Node t x = some (nd t.Nodes x):=by
 unfold r14_Node
 rcases Index_ok t x hl with ⟨i,n,h1,h2,h3⟩ | ⟨h1,h2⟩
 ·rw [h1,bind_some',show decide ((i : Int) < 0) = false from decide_eq_false (by omega),sel_false,idxO_nat,h2,nd_look h3];rfl
 ·rw [h1,nd_none h2];rfl
section
variable {t : Tree}
theorem rorder_ok (S : Shp0 t.Nodes t.Root) (h400 : t.Nodes.length ≤ 400) : ∀ (f n d : Nat) (x : Int) (l : List Int),Reach t.Nodes t.Root d x → t.Nodes.length ≤ f + d → f ≤ n → l.length + (pre t.Nodes f x).length ≤ 1000 → r14_order n t x l = some (l ++ pre t.Nodes f x)
 | 0,n,d,x,l,hr,hf,_,_=>by have:=reach_depth S hr;omega
 | f + 1,0,d,x,l,hr,hf,h,_=>by omega
 | f + 1,n + 1,d,x,l,hr,hf,h,hlen=>by
  have hk:=kids_len S x
  have e : (pre t.Nodes (f + 1) x).length = 1 + ((nd t.Nodes x).Kids.flatMap (pre t.Nodes f)).length:=by show (x :: _).length = _;rw [List.length_cons];omega
  show r14_order_B (r14_order n) t x l = _
  unfold r14_order_B
  rw [appO_eq (by simp;omega),bind_some',Node_ok t x (by unfold N0;omega),bind_some',jn_eq]
  refine loopI (L:=(nd t.Nodes x).Kids) (fun (s : List Int) i=>(s,(i : Int))) (fun i s=>s = l ++ x :: ((nd t.Nodes x).Kids.take i).flatMap (pre t.Nodes f)) (fun r=>r = some (l ++ pre t.Nodes (f + 1) x)) (by unfold N0;omega) ?_ ?_ (l ++ [x]) rfl
  ·intro again s i k hk1 hi hs
   refine .inr ⟨l ++ x :: ((nd t.Nodes x).Kids.take (i + 1)).flatMap (pre t.Nodes f),rfl,?_⟩
   have hkm : k ∈ (nd t.Nodes x).Kids:=List.mem_of_getElem? hk1
   unfold r14_order_L1
   simp only [nz_lt hi,sel_true,idxO_nat,hk1,bind_some']
   have hl : s.length + (pre t.Nodes f k).length ≤ 1000:=by
    subst hs
    have:=flat_take_len (pre t.Nodes f) (nd t.Nodes x).Kids (i + 1)
    rw [take_suc hk1,List.flatMap_append,List.length_append,List.flatMap_cons,List.flatMap_nil,List.append_nil] at this
    rw [List.length_append,List.length_cons];omega
   rw [rorder_ok S h400 f n (d + 1) k s (Reach.s hr hkm) (by omega) (by omega) hl,bind_some',wrap_suc hi (by unfold N0;omega),take_suc hk1,hs]
   simp
  ·intro again s hs
   unfold r14_order_L1
   simp only [nz_ge (Nat.le_refl _),sel_false]
   rw [hs,List.take_length];rfl
theorem rdescribe_ok (S : Shp0 t.Nodes t.Root) (h400 : t.Nodes.length ≤ 400) : ∀ (f n d : Nat) (x : Int),Reach t.Nodes t.Root d x → t.Nodes.length ≤ f + d → f ≤ n → r14_describe n t x = some (dsc t.Nodes f x)
 | 0,n,d,x,hr,hf,_=>by have:=reach_depth S hr;omega
 | f + 1,0,d,x,hr,hf,h=>by omega
 | f + 1,n + 1,d,x,hr,hf,h=>by
  have hk:=kids_len S x
  show r14_describe_B (r14_describe n) t x = _
  unfold r14_describe_B
  rw [Node_ok t x (by unfold N0;omega),bind_some',jn_eq]
  refine loopI (L:=(nd t.Nodes x).Kids) (fun (s : List View) i=>((i : Int),s)) (fun i s=>s = ((nd t.Nodes x).Kids.take i).map (dsc t.Nodes f)) (fun r=>r = some (dsc t.Nodes (f + 1) x)) (by unfold N0;omega) ?_ ?_ [] rfl
  ·intro again s i k hk1 hi hs
   refine .inr ⟨((nd t.Nodes x).Kids.take (i + 1)).map (dsc t.Nodes f),rfl,?_⟩
   have hkm : k ∈ (nd t.Nodes x).Kids:=List.mem_of_getElem? hk1
   unfold r14_describe_L1
   simp only [nz_lt hi,sel_true,idxO_nat,hk1,bind_some']
   rw [rdescribe_ok S h400 f n (d + 1) k (Reach.s hr hkm) (by omega) (by omega),bind_some']
   have hl : s.length ≤ t.Nodes.length:=by subst hs;simp;omega
   rw [appO_eq (by simp;omega),bind_some',wrap_suc hi (by unfold N0;omega),take_suc hk1,hs]
   simp
  ·intro again s hs
   unfold r14_describe_L1
   simp only [nz_ge (Nat.le_refl _),sel_false]
   rw [hs,List.take_length];rfl
def RQ (t : Tree) (r : Option Bool) : Prop:=∃ b,r = some b ∧ (b = true ↔ Shp t)
theorem RQ.bad (h : ¬ Shp t) : RQ t (some false):=⟨false,rfl,⟨fun e=>Bool.noConfusion e,fun e=>absurd e h⟩⟩
theorem shaped_L4_ok (hl : t.Nodes.length ≤ 400) (k3 : Unit → Option Bool) (hk3 : IncN t.Nodes t.Next t.Nodes.length → RQ t (k3 ())) : RQ t (loopK (r14_shaped_L4 t k3) N0 (0,0)):=by
 refine loopI (L:=t.Nodes) (fun (s : Int) i=>(s,(i : Int))) (fun i s=>s = pvid t.Nodes i ∧ IncN t.Nodes t.Next i) (RQ t) (by unfold N0;omega) ?_ ?_ 0 ⟨rfl,fun j m hj=>by omega⟩
 ·intro again s i n hn hi ⟨h1,h2⟩
  subst h1
  unfold r14_shaped_L4
  simp only [nz_lt hi,selT',idxO_nat,hn,bindN]
  by_cases c1 : pvid t.Nodes i < n.ID
  ·rw [show decide (n.ID ≤ pvid t.Nodes i) = false from decide_eq_false (by omega),Bool.not_false,gO_true,bind_some',Bool.false_or]
   by_cases c2 : n.ID < t.Next
   ·rw [show decide (n.ID ≥ t.Next) = false from decide_eq_false (by omega),sel_false]
    refine .inr ⟨pvid t.Nodes (i + 1),⟨rfl,fun j m hj hm=>?_⟩,?_⟩
    ·rcases (by omega : j = i ∨ j < i) with e | e
     ·subst e;rw [hn] at hm;cases hm;exact ⟨c1,c2⟩
     ·exact h2 j m e hm
    ·rw [pvid_suc hn,wrap_suc hi (by unfold N0;omega)]
   ·rw [show decide (n.ID ≥ t.Next) = true from decide_eq_true (by omega),sel_true]
    exact .inl (RQ.bad fun S=>c2 (S.inc i n hi hn).2)
  ·rw [show decide (n.ID ≤ pvid t.Nodes i) = true from decide_eq_true (by omega)]
   exact .inl (RQ.bad fun S=>c1 (S.inc i n hi hn).1)
 ·intro again s ⟨h1,h2⟩
  unfold r14_shaped_L4
  simp only [nz_ge (Nat.le_refl _),sel_false]
  exact hk3 h2
theorem shaped_L1_ok {n : Node} {p : Int} {k : Nat} {x : Int} (hK : n.Kids.length ≤ 400) (hx : n.Kids[k]? = some x) (hk : k < n.Kids.length) (k30 : Unit → Option Bool) :
  loopK (r14_shaped_L1 n (p,(k : Int)) k30) N0 0 = if x ∈ n.Kids.take k then some false else k30 ():=by
 refine loopN (n:=k) (fun (_ : Unit) j=>(j : Int)) (fun j _=>x ∉ n.Kids.take j) (fun r=>r = if x ∈ n.Kids.take k then some false else k30 ()) (by unfold N0;omega) ?_ ?_ () (by simp)
 ·intro again _ j hj hp
  have hy : n.Kids[j]? = some n.Kids[j]:=List.getElem?_eq_getElem (by omega)
  unfold r14_shaped_L1
  simp only [nz_lt hj,selT',idxO_nat,hx,hy,bindN]
  rw [wrap_suc hj (by unfold N0;omega)]
  by_cases c : n.Kids[j] = x
  ·rw [show (n.Kids[j] == x) = true by simp [c],sel_true,if_pos (List.mem_take_iff_getElem.2 ⟨j,by omega,c⟩)]
   exact .inl rfl
  ·rw [show (n.Kids[j] == x) = false by simp [c],sel_false]
   refine .inr ⟨(),fun h=>?_,rfl⟩
   rw [take_suc hy] at h
   rcases List.mem_append.1 h with h | h
   ·exact hp h
   ·exact c (List.mem_singleton.1 h).symm
 ·intro again _ hp
  unfold r14_shaped_L1
  rw [nz_ge (Nat.le_refl _),sel_false,if_neg hp]
theorem shaped_L2_ok {n : Node} (hmem : n ∈ t.Nodes) (hl : t.Nodes.length ≤ 400) (hK : n.Kids.length ≤ 400) {p : Nat} (hp : p ≤ 400 * 400) (k19 : Int → Option Bool) :
  RQ t (loopK (r14_shaped_L2 t n k19) N0 ((p : Int),0)) ∨ (loopK (r14_shaped_L2 t n k19) N0 ((p : Int),0) = k19 ((p + n.Kids.length : Nat) : Int) ∧ n.Kids.Nodup ∧ ∀ k ∈ n.Kids,∃ x,look t.Nodes k = some x ∧ x.Parent = n.ID):=by
 refine loopI (L:=n.Kids) (fun (q : Nat) j=>((q : Int),(j : Int))) (fun j q=>q = p + j ∧ (n.Kids.take j).Nodup ∧ ∀ k ∈ n.Kids.take j,∃ x,look t.Nodes k = some x ∧ x.Parent = n.ID)
  (fun r=>RQ t r ∨ (r = k19 ((p + n.Kids.length : Nat) : Int) ∧ n.Kids.Nodup ∧ ∀ k ∈ n.Kids,∃ x,look t.Nodes k = some x ∧ x.Parent = n.ID)) (by unfold N0;omega) ?_ ?_ p ⟨rfl,by simp,by simp⟩
 ·intro again q j k hk hj ⟨h1,h2,h3⟩
  have hkm : k ∈ n.Kids:=List.mem_of_getElem? hk
  unfold r14_shaped_L2
  simp only [nz_lt hj,selT',idxO_nat,hk,bindN,jnN]
  rcases Index_ok t k (by unfold N0;omega) with ⟨i,y,e1,e2,e3⟩ | ⟨e1,e2⟩
  ·rw [e1,bind_some',show decide ((i : Int) < 0) = false from decide_eq_false (by omega),Bool.not_false,gO_true,idxO_nat,e2,bind_some',Bool.false_or]
   by_cases c : y.Parent = n.ID
   ·rw [show (y.Parent != n.ID) = false by simp [c],sel_false,shaped_L1_ok hK hk hj]
    by_cases c2 : k ∈ n.Kids.take j
    ·rw [if_pos c2]
     refine .inl (.inl (RQ.bad fun S'=>?_))
     have:=S'.nod n hmem
     rw [← List.take_append_drop j n.Kids,drop_cons' hk] at this
     exact (List.nodup_append.1 this).2.2 k c2 k (by simp) rfl
    ·rw [if_neg c2]
     refine .inr ⟨q + 1,⟨by omega,?_,?_⟩,?_⟩
     ·rw [take_suc hk]
      refine List.nodup_append.2 ⟨h2,by simp,?_⟩
      intro a ha b hb e
      subst e
      rw [List.mem_singleton.1 hb] at ha
      exact c2 ha
     ·intro k' hk'
      rw [take_suc hk] at hk'
      rcases List.mem_append.1 hk' with e | e
      ·exact h3 k' e
      ·rw [List.mem_singleton.1 e];exact ⟨y,e3,c⟩
     ·rw [wrap_suc hj (by unfold N0;omega),wrap_id (by omega) (by omega)]
      rfl
   ·rw [show (y.Parent != n.ID) = true by simp [c],sel_true]
    refine .inl (.inl (RQ.bad fun S'=>?_))
    obtain ⟨z,y1,y2⟩:=S'.kid n hmem k hkm
    rw [e3] at y1;cases y1
    exact c y2
  ·rw [e1,bind_some']
   refine .inl (.inl (RQ.bad fun S'=>?_))
   obtain ⟨y,y1,_⟩:=S'.kid n hmem k hkm
   rw [e2] at y1;cases y1
 ·intro again q ⟨h1,h2,h3⟩
  rw [List.take_length] at h2 h3
  unfold r14_shaped_L2
  simp only [nz_ge (Nat.le_refl _),selF']
  exact .inr ⟨by rw [h1],h2,h3⟩
theorem shaped_L3_ok (hinc : IncN t.Nodes t.Next t.Nodes.length) {ri : Nat} {rn : Node} (hr1 : t.Nodes[ri]? = some rn) (hr2 : look t.Nodes t.Root = some rn) (hl : t.Nodes.length ≤ 400) (k7 : Int → Option Bool)
  (hk7 : (∀ n ∈ t.Nodes,n.Parent = 0 ↔ n.ID = t.Root) → (∀ n ∈ t.Nodes,n.Kids.Nodup) → (∀ n ∈ t.Nodes,∀ k ∈ n.Kids,∃ x,look t.Nodes k = some x ∧ x.Parent = n.ID) → (∀ n ∈ t.Nodes,n.Kids.length ≤ 400) → RQ t (k7 ((t.Nodes.flatMap (·.Kids)).length : Int))) :
  RQ t (loopK (r14_shaped_L3 t (ri : Int) k7) N0 (0,0)):=by
 refine loopI (L:=t.Nodes) (fun (q : Nat) j=>((q : Int),(j : Int))) (fun i q=>q = ((t.Nodes.take i).flatMap (·.Kids)).length ∧ q ≤ 400 * i ∧ ∀ j m,j < i → t.Nodes[j]? = some m → (m.Parent = 0 ↔ m.ID = t.Root) ∧ m.Kids.Nodup ∧ m.Kids.length ≤ 400 ∧ ∀ k ∈ m.Kids,∃ x,look t.Nodes k = some x ∧ x.Parent = m.ID)
  (RQ t) (by unfold N0;omega) ?_ ?_ 0 ⟨rfl,by omega,fun j m hj=>by omega⟩
 ·intro again q i n hn hi ⟨h1,h2,h3⟩
  have hmem:=List.mem_of_getElem? hn
  unfold r14_shaped_L3
  simp only [nz_lt hi,selT',idxO_nat,hn,bindN,jnN]
  have hri : ((i : Int) == (ri : Int)) = (n.ID == t.Root):=by
   rw [Bool.eq_iff_iff]
   simp only [beq_iff_eq]
   have hrl:=(List.getElem?_eq_some_iff.1 hr1).1
   have hrid:=(look_mem hr2).2
   constructor
   ·intro e
    have : i = ri:=by omega
    subst this
    rw [hn] at hr1;cases hr1
    exact hrid
   ·intro e
    rcases Nat.lt_trichotomy i ri with h | h | h
    ·have:=inc_lt hinc ri i n rn h hrl hn hr1;omega
    ·rw [h]
    ·have:=inc_lt hinc i ri rn n h hi hr1 hn;omega
  rw [hri]
  by_cases c2 : n.Parent = 0 ↔ n.ID = t.Root
  ·rw [show ((n.Parent == 0) != (n.ID == t.Root)) = false from by rw [bne_eq_false_iff_eq,Bool.eq_iff_iff];simp only [beq_iff_eq];exact c2,sel_false]
   by_cases c3 : n.Kids.length ≤ t.Nodes.length
   ·rw [show decide ((n.Kids.length : Int) > (t.Nodes.length : Int)) = false from decide_eq_false (by omega),sel_false]
    rcases shaped_L2_ok hmem hl (by omega) (p:=q) (by omega) (fun s18=>again (s18,IntKind.i64.wrap ((i : Int) + 1))) with h | ⟨h4,h5,h6⟩
    ·exact .inl h
    ·refine .inr ⟨q + n.Kids.length,⟨?_,by omega,?_⟩,?_⟩
     ·rw [take_suc hn,List.flatMap_append,List.length_append,← h1];simp
     ·intro j m hj hm
      rcases (by omega : j = i ∨ j < i) with e | e
      ·subst e;rw [hn] at hm;cases hm;exact ⟨c2,h5,by omega,h6⟩
      ·exact h3 j m e hm
     ·refine h4.trans ?_
      rw [wrap_suc hi (by unfold N0;omega)]
   ·rw [show decide ((n.Kids.length : Int) > (t.Nodes.length : Int)) = true from decide_eq_true (by omega),sel_true]
    refine .inl (RQ.bad fun S=>c3 ?_)
    have:=kids_len S.to0 n.ID
    rwa [nd_look (look_of S.to0.uniq hmem)] at this
  ·rw [show ((n.Parent == 0) != (n.ID == t.Root)) = true from by rw [bne_iff_ne,ne_eq,Bool.eq_iff_iff];simp only [beq_iff_eq];exact c2,sel_true]
   exact .inl (RQ.bad fun S=>c2 (S.par n hmem))
 ·intro again q ⟨h1,h2,h3⟩
  rw [List.take_length] at h1
  unfold r14_shaped_L3
  simp only [nz_ge (Nat.le_refl _),selF']
  rw [h1]
  have key : ∀ n ∈ t.Nodes,(n.Parent = 0 ↔ n.ID = t.Root) ∧ n.Kids.Nodup ∧ n.Kids.length ≤ 400 ∧ ∀ k ∈ n.Kids,∃ x,look t.Nodes k = some x ∧ x.Parent = n.ID:=fun n hn=>by
   obtain ⟨j,hj,e⟩:=List.mem_iff_getElem.1 hn
   exact h3 j n hj (by rw [List.getElem?_eq_getElem hj,e])
  exact hk7 (fun n hn=>(key n hn).1) (fun n hn=>(key n hn).2.1) (fun n hn=>(key n hn).2.2.2) (fun n hn=>(key n hn).2.2.1)
theorem shaped_ok (t : Tree) : RQ t (r14_shaped t):=by
 unfold r14_shaped
 by_cases c0 : 2 ≤ t.Next ∧ t.Next ≤ 1099511627776 ∧ 1 ≤ t.Nodes.length ∧ t.Nodes.length ≤ 400
 ·have e : ((((decide (t.Next < 2)) || (decide (t.Next > 1099511627776))) || (decide ((t.Nodes.length : Int) < 1))) || (decide ((t.Nodes.length : Int) > 400))) = false:=by simp;omega
  rw [e,sel_false,jn_eq]
  refine shaped_L4_ok c0.2.2.2 _ (fun hinc=>?_)
  rcases Index_ok t t.Root (by unfold N0;omega) with ⟨i,y,e1,e2,e3⟩ | ⟨e1,e2⟩
  ·simp only [e1,bindN,jnN]
   rw [show decide ((i : Int) < 0) = false from decide_eq_false (by omega),sel_false]
   refine shaped_L3_ok hinc e2 e3 c0.2.2.2 _ (fun hpar hnod hkid hK=>?_)
   have S0 : Shp0 t.Nodes t.Root:=⟨(inc_uniq hinc).1,(inc_uniq hinc).2,⟨y,e3⟩,hpar,hkid,hnod⟩
   rw [wrap_id (by omega) (by omega)]
   by_cases ct : (t.Nodes.flatMap (·.Kids)).length + 1 = t.Nodes.length
   ·rw [show (((t.Nodes.flatMap (·.Kids)).length : Int) != (t.Nodes.length : Int) - 1) = false by rw [bne_eq_false_iff_eq];omega,sel_false]
    have hpl:=pre_len S0 (f:=t.Nodes.length) Reach.z
    rw [rorder_ok S0 c0.2.2.2 t.Nodes.length N0 0 t.Root [] Reach.z (by omega) (by unfold N0;omega) (by simp only [List.length_nil];omega),bind_some',List.nil_append]
    refine ⟨_,rfl,?_⟩
    simp only [beq_iff_eq]
    constructor
    ·intro h
     exact ⟨c0,hinc,hpar,⟨y,e3⟩,hkid,hnod,ct,by unfold Whole;omega⟩
    ·intro S'
     have:=S'.whole
     unfold Whole at this
     rw [this]
   ·rw [show (((t.Nodes.flatMap (·.Kids)).length : Int) != (t.Nodes.length : Int) - 1) = true by rw [bne_iff_ne];omega,sel_true]
    exact RQ.bad fun S'=>ct S'.tot
  ·simp only [e1,bindN]
   refine RQ.bad fun S=>?_
   obtain ⟨n,hn⟩:=S.rt
   rw [e2] at hn;cases hn
 ·have e : ((((decide (t.Next < 2)) || (decide (t.Next > 1099511627776))) || (decide ((t.Nodes.length : Int) < 1))) || (decide ((t.Nodes.length : Int) > 400))) = true:=by
   simp only [Bool.or_eq_true,decide_eq_true_eq];omega
  rw [e,sel_true]
  exact RQ.bad fun S=>c0 S.lim
end
end Go.Proofs.YtcfegecdlbbeaaaGreatDoor
end
section
namespace Go.Proofs.YtcfegecdlbbeaaaGreatDoor
open Go Go.E2
mutual
def AValue.wt : AValue → Nat
 | ⟨_,_,_,l⟩=>1 + AValue.wtL l
def AValue.wtL : List AValue → Nat
 | []=>0
 | x :: r=>AValue.wt x + AValue.wtL r
end
theorem AValue.wt_eq (v : AValue) : v.wt = 1 + AValue.wtL v.L:=by cases v;unfold AValue.wt;rfl
theorem AValue.wtL_nil : AValue.wtL [] = 0:=by unfold AValue.wtL;rfl
theorem AValue.wtL_cons (x : AValue) (r : List AValue) : AValue.wtL (x :: r) = x.wt + AValue.wtL r:=by
 conv=>lhs;unfold AValue.wtL
theorem AValue.wt_pos (v : AValue) : 1 ≤ v.wt:=by rw [AValue.wt_eq];omega
theorem AValue.wtL_len : ∀ l : List AValue,l.length ≤ AValue.wtL l
 | []=>by simp
 | x :: r=>by
  have:=AValue.wtL_len r
  have:=x.wt_pos
  rw [AValue.wtL_cons];simp;omega
theorem AValue.wtL_mem : ∀ {l : List AValue} {x : AValue},x ∈ l → x.wt ≤ AValue.wtL l
 | [],x,h=>by cases h
 | y :: r,x,h=>by
  rw [AValue.wtL_cons]
  rcases List.mem_cons.1 h with e | e
  ·subst e;omega
  ·have:=AValue.wtL_mem e;omega
theorem copy_ok : ∀ n : Nat,(∀ v : AValue,2 * v.wt ≤ n → v.wt < 1000000 → vw_value n v = some v) ∧ (∀ l : List AValue,2 * AValue.wtL l + 1 ≤ n → AValue.wtL l < 1000000 → vw_values n l = some l):=by
 intro n
 induction n with
 | zero=>exact ⟨fun v h=>by have:=v.wt_pos;omega,fun l h=>by omega⟩
 | succ n ih =>
  refine ⟨fun v h hb=>?_,fun l h hb=>?_⟩
  ·show vw_value_B (vw_value n) (vw_values n) v = some v
   unfold vw_value_B
   have hw:=v.wt_eq
   rw [ih.2 v.L (by omega) (by omega)]
   cases v;rfl
  ·show vw_values_B (vw_value n) (vw_values n) l = some l
   unfold vw_values_B
   rw [jn_eq]
   have hlen:=AValue.wtL_len l
   have key : ∀ (m i : Nat),l.length - i < m → i ≤ l.length → loopK (vw_values_L1 (vw_value n) l fun s=>some s) m (l.take i,(i : Int)) = some l:=by
    intro m
    induction m with
    | zero=>intro i h;omega
    | succ m ihm =>
     intro i hm hi
     show vw_values_L1 (vw_value n) l (fun s=>some s) (loopK _ m) (l.take i,(i : Int)) = some l
     generalize loopK (vw_values_L1 (vw_value n) l fun s=>some s) m = again at ihm ⊢
     unfold vw_values_L1
     dsimp only
     by_cases hl : i < l.length
     ·have hx:=AValue.wtL_mem (List.getElem_mem hl)
      rw [nz_lt hl,sel_true,idxO_at hl,bind_some',ih.1 l[i] (by omega) (by omega),bind_some',appO_eq (by simp;omega),bind_some',wrap_id (by omega) (by omega)]
      have e : l.take i ++ [l[i]] = l.take (i + 1):=by rw [List.take_add_one,List.getElem?_eq_getElem hl];rfl
      rw [e]
      exact ihm (i + 1) (by omega) (by omega)
     ·rw [nz_ge (by omega),sel_false,List.take_of_length_le (by omega)]
   have:=key N0 0 (by unfold N0;omega) (by omega)
   simpa using this
theorem copy_big {v : AValue} (h : v.wt < 1000000) : vw_value N0 v = some v:=(copy_ok N0).1 v (by unfold N0;omega) h
def AttrsOk (l : List Attr) : Prop:=l.length ≤ 1000 ∧ ∀ a ∈ l,a.Value.wt < 1000000
end Go.Proofs.YtcfegecdlbbeaaaGreatDoor
end
section
namespace Go.Proofs.YtcfegecdlbbeaaaGreatDoor
open Go Go.E2
theorem eqLoop {α : Type} {a b : List α} {B : (Int → Option Bool) → Int → Option Bool} (hl : a.length = b.length) (hn : a.length < N0)
  (hc : ∀ again (i : Nat) x y,i < a.length → a[i]? = some x → b[i]? = some y → (x = y → B again (i : Int) = again ((i + 1 : Nat) : Int)) ∧ (x ≠ y → B again (i : Int) = some false))
  (he : ∀ again,B again (a.length : Int) = some true) : ∃ d,loopK B N0 0 = some d ∧ (d = true ↔ a = b):=by
 refine loopI (L:=a) (fun (_ : Unit) i=>(i : Int)) (fun i _=>a.take i = b.take i) (fun r=>∃ d,r = some d ∧ (d = true ↔ a = b)) hn ?_ ?_ () rfl
 ·intro again _ i x hx hi hp
  have hy : b[i]? = some b[i]:=List.getElem?_eq_getElem (by omega)
  obtain ⟨h1,h2⟩:=hc again i x b[i] hi hx hy
  by_cases c : x = b[i]
  ·refine .inr ⟨(),?_,h1 c⟩
   rw [take_suc hx,take_suc hy,hp,c]
  ·refine .inl ⟨false,h2 c,⟨fun e=>Bool.noConfusion e,fun e=>?_⟩⟩
   subst e
   rw [hy] at hx
   exact absurd (Option.some.inj hx).symm c
 ·intro again _ hp
  refine ⟨true,he again,⟨fun _=>?_,fun _=>rfl⟩⟩
  rw [List.take_length,hl,List.take_length] at hp
  exact hp
theorem AValue.ext' {v w : AValue} (h1 : v.Kind = w.Kind) (h2 : v.N = w.N) (h3 : v.S = w.S) (h4 : v.L = w.L) : v = w:=by
 cases v;cases w;simp_all
theorem View.ext' {v w : View} (h1 : v.Kind = w.Kind) (h2 : v.Key = w.Key) (h3 : v.Attrs = w.Attrs) (h4 : v.Actions = w.Actions) (h5 : v.Kids = w.Kids) : v = w:=by
 cases v;cases w;simp_all
theorem rsame_ok : ∀ (n : Nat) (v w : AValue),v.wt ≤ n → v.wt < 1000000 → ∃ c,r11_Same n v w = some c ∧ (c = true ↔ v = w)
 | 0,v,w,h,_=>by have:=v.wt_pos;omega
 | n + 1,v,w,h,hb=>by
  show ∃ c,r11_Same_B (r11_Same n) (r11_SameValues n) v w = some c ∧ _
  unfold r11_Same_B
  have hw:=v.wt_eq
  have hlen:=AValue.wtL_len v.L
  by_cases c1 : v.Kind = w.Kind ∧ v.N = w.N ∧ v.S = w.S ∧ v.L.length = w.L.length
  ·obtain ⟨d1,d2,d3,d4⟩:=c1
   rw [show ((((v.Kind != w.Kind) || (v.N != w.N)) || (!(v.S.toList == w.S.toList))) || ((v.L.length : Int) != (w.L.length : Int))) = false by simp [d1,d2,d3,d4],sel_false,jn_eq]
   obtain ⟨d,e1,e2⟩:=eqLoop (a:=v.L) (b:=w.L) (B:=r11_Same_L1 (r11_Same n) v w fun _=>some true) d4 (by unfold N0;omega) (fun again i x y hi hx hy=>by
    have hm:=AValue.wtL_mem (List.mem_of_getElem? hx)
    obtain ⟨c,c1,c2⟩:=rsame_ok n x y (by omega) (by omega)
    unfold r11_Same_L1
    rw [nz_lt hi,sel_true,idxO_nat,hx,bind_some',idxO_nat,hy,bind_some',c1,bind_some',wrap_suc hi (by unfold N0;omega)]
    constructor
    ·intro e;rw [c2.2 e];rfl
    ·intro e
     have : c = false:=by cases c with
      | false=>rfl
      | true=>exact absurd (c2.1 rfl) e
     rw [this];rfl) (fun again=>by
    unfold r11_Same_L1
    rw [nz_ge (Nat.le_refl _),sel_false])
   exact ⟨d,e1,e2.trans ⟨fun e=>AValue.ext' d1 d2 d3 e,fun e=>by rw [e]⟩⟩
  ·refine ⟨false,sel_t ?_ _ _,⟨fun e=>Bool.noConfusion e,fun e=>absurd (by subst e;exact ⟨rfl,rfl,rfl,rfl⟩) c1⟩⟩
   rw [bs_eq]
   simp only [Bool.or_eq_true,bne_iff_ne,ne_eq,Bool.not_eq_true',decide_eq_false_iff_not]
   by_cases d1 : v.Kind = w.Kind
   ·by_cases d2 : v.N = w.N
    ·by_cases d3 : v.S = w.S
     ·exact .inr (fun d4=>c1 ⟨d1,d2,d3,by omega⟩)
     ·exact .inl (.inr d3)
    ·exact .inl (.inl (.inr d2))
   ·exact .inl (.inl (.inl d1))
theorem rsameL_ok {a b : List AValue} (h : AValue.wtL a < 1000000) : ∃ c,r11_SameValues N0 a b = some c ∧ (c = true ↔ a = b):=by
 have hN : N0 = (N0 - 1) + 1:=by unfold N0;omega
 rw [hN]
 show ∃ c,r11_SameValues_B (r11_Same (N0 - 1)) (r11_SameValues (N0 - 1)) a b = some c ∧ _
 unfold r11_SameValues_B
 have hlen:=AValue.wtL_len a
 by_cases c1 : a.length = b.length
 ·rw [show ((a.length : Int) != (b.length : Int)) = false by simp [c1],sel_false,jn_eq]
  exact eqLoop (a:=a) (b:=b) c1 (by unfold N0;omega) (fun again i x y hi hx hy=>by
   have hm:=AValue.wtL_mem (List.mem_of_getElem? hx)
   obtain ⟨c,c1,c2⟩:=rsame_ok (N0 - 1) x y (by unfold N0;omega) (by omega)
   unfold r11_SameValues_L1
   rw [nz_lt hi,sel_true,idxO_nat,hx,bind_some',idxO_nat,hy,bind_some',c1,bind_some',wrap_suc hi (by unfold N0;omega)]
   constructor
   ·intro e;rw [c2.2 e];rfl
   ·intro e
    have : c = false:=by cases c with
     | false=>rfl
     | true=>exact absurd (c2.1 rfl) e
    rw [this];rfl) (fun again=>by
   unfold r11_SameValues_L1
   rw [nz_ge (Nat.le_refl _),sel_false])
 ·exact ⟨false,sel_t (by rw [bne_iff_ne];omega) _ _,⟨fun e=>Bool.noConfusion e,fun e=>absurd (by rw [e]) c1⟩⟩
def ActsOk (l : List Action) : Prop:=l.length ≤ 1000 ∧ ∀ a ∈ l,AValue.wtL a.Args < 1000000
theorem rsameA_ok {a b : List Attr} (h : AttrsOk a) : ∃ c,r14_SameAttrs a b = some c ∧ (c = true ↔ a = b):=by
 unfold r14_SameAttrs
 have h0:=h.1
 by_cases c1 : a.length = b.length
 ·rw [show ((a.length : Int) != (b.length : Int)) = false by simp [c1],sel_false,jn_eq]
  exact eqLoop (a:=a) (b:=b) c1 (by unfold N0;omega) (fun again i x y hi hx hy=>by
   obtain ⟨c,c1,c2⟩:=rsame_ok N0 x.Value y.Value (by have:=h.2 x (List.mem_of_getElem? hx);unfold N0;omega) (h.2 x (List.mem_of_getElem? hx))
   unfold r14_SameAttrs_L1
   simp only [nz_lt hi,selT',idxO_nat,hx,hy,bindN,bs_eq]
   rw [wrap_suc hi (by unfold N0;omega)]
   obtain ⟨xn,xv⟩:=x
   obtain ⟨yn,yv⟩:=y
   simp only [Attr.mk.injEq] at c2 ⊢
   by_cases d : xn = yn
   ·subst d
    simp only [decide_true,Bool.not_true,Bool.not_false,gO_true,bind_some',Bool.false_or,true_and]
    rw [c1,bind_some']
    constructor
    ·intro e;rw [c2.2 e];rfl
    ·intro e
     have : c = false:=by cases c with
      | false=>rfl
      | true=>exact absurd (by rw [c2.1 rfl]) e
     rw [this];rfl
   ·simp [d]) (fun again=>by
   unfold r14_SameAttrs_L1
   rw [nz_ge (Nat.le_refl _),sel_false])
 ·exact ⟨false,sel_t (by rw [bne_iff_ne];omega) _ _,⟨fun e=>Bool.noConfusion e,fun e=>absurd (by rw [e]) c1⟩⟩
theorem rsameC_ok {a b : List Action} (h : ActsOk a) : ∃ c,r14_SameActions a b = some c ∧ (c = true ↔ a = b):=by
 unfold r14_SameActions
 have h0:=h.1
 by_cases c1 : a.length = b.length
 ·rw [show ((a.length : Int) != (b.length : Int)) = false by simp [c1],sel_false,jn_eq]
  exact eqLoop (a:=a) (b:=b) c1 (by unfold N0;omega) (fun again i x y hi hx hy=>by
   obtain ⟨c,c1,c2⟩:=rsameL_ok (a:=x.Args) (b:=y.Args) (h.2 x (List.mem_of_getElem? hx))
   unfold r14_SameActions_L1
   simp only [nz_lt hi,selT',idxO_nat,hx,hy,bindN,bs_eq]
   rw [wrap_suc hi (by unfold N0;omega)]
   obtain ⟨x1,x2,x3,x4⟩:=x
   obtain ⟨y1,y2,y3,y4⟩:=y
   simp only [Action.mk.injEq] at c1 c2 ⊢
   by_cases d1 : x1 = y1
   ·subst d1
    simp only [decide_true,Bool.not_true,Bool.not_false,gO_true,bind_some',Bool.false_or,true_and]
    by_cases d2 : x2 = y2
    ·subst d2
     simp only [decide_true,Bool.not_true,Bool.not_false,gO_true,bind_some',Bool.false_or,true_and]
     by_cases d3 : x3 = y3
     ·subst d3
      simp only [decide_true,Bool.not_true,Bool.not_false,gO_true,bind_some',Bool.false_or,true_and]
      rw [c1,bind_some']
      constructor
      ·intro e;rw [c2.2 e];rfl
      ·intro e
       have : c = false:=by cases c with
        | false=>rfl
        | true=>exact absurd (by rw [c2.1 rfl]) e
       rw [this];rfl
     ·simp [d3]
    ·simp [d2]
   ·simp [d1]) (fun again=>by
   unfold r14_SameActions_L1
   rw [nz_ge (Nat.le_refl _),sel_false])
 ·exact ⟨false,sel_t (by rw [bne_iff_ne];omega) _ _,⟨fun e=>Bool.noConfusion e,fun e=>absurd (by rw [e]) c1⟩⟩
mutual
def View.dp : View → Nat
 | ⟨_,_,_,_,kids⟩=>1 + View.dpL kids
def View.dpL : List View → Nat
 | []=>0
 | x :: r=>max (View.dp x) (View.dpL r)
end
mutual
def View.bd : View → Prop
 | ⟨_,_,las,cs,kids⟩=>AttrsOk las ∧ ActsOk cs ∧ kids.length ≤ 1000000 ∧ View.bdL kids
def View.bdL : List View → Prop
 | []=>True
 | x :: r=>View.bd x ∧ View.bdL r
end
theorem View.dp_eq (v : View) : v.dp = 1 + View.dpL v.Kids:=by cases v;conv=>lhs;unfold View.dp
theorem View.dpL_mem : ∀ {l : List View} {x : View},x ∈ l → x.dp ≤ View.dpL l
 | [],_,h=>by cases h
 | y :: r,x,h=>by
  unfold View.dpL
  rcases List.mem_cons.1 h with e | e
  ·subst e;omega
  ·have:=View.dpL_mem e;omega
theorem View.dpL_le : ∀ {l : List View} {n : Nat},(∀ x ∈ l,x.dp ≤ n) → View.dpL l ≤ n
 | [],_,_=>by unfold View.dpL;omega
 | y :: r,n,h=>by
  unfold View.dpL
  have h1:=h y (by simp)
  have:=View.dpL_le (l:=r) (n:=n) (fun x hx=>h x (by simp [hx]))
  omega
theorem View.bdL_eq : ∀ l,View.bdL l ↔ ∀ a ∈ l,View.bd a
 | []=>by unfold View.bdL;simp
 | x :: r=>by unfold View.bdL;rw [View.bdL_eq r];simp
theorem View.bd_eq (v : View) : View.bd v ↔ AttrsOk v.Attrs ∧ ActsOk v.Actions ∧ v.Kids.length ≤ 1000000 ∧ ∀ a ∈ v.Kids,View.bd a:=by
 cases v
 conv=>lhs;unfold View.bd
 rw [View.bdL_eq]
theorem rsameV_ok : ∀ (n : Nat) (v w : View),v.dp ≤ n → v.bd → ∃ c,r14_Same n v w = some c ∧ (c = true ↔ v = w)
 | 0,v,w,h,_=>by rw [View.dp_eq] at h;omega
 | n + 1,v,w,h,hb=>by
  rw [View.bd_eq] at hb
  obtain ⟨b1,b2,b3,b4⟩:=hb
  show ∃ c,r14_Same_B (r14_Same n) v w = some c ∧ _
  unfold r14_Same_B
  rw [View.dp_eq] at h
  obtain ⟨x1,p1,q1⟩:=rsameA_ok (b:=w.Attrs) b1
  obtain ⟨x2,p2,q2⟩:=rsameC_ok (b:=w.Actions) b2
  rw [bs_eq]
  by_cases c1 : v.Kind = w.Kind ∧ v.Key = w.Key
  ·rw [show ((v.Kind != w.Kind) || (!(decide (v.Key = w.Key)))) = false by simp [c1.1,c1.2],Bool.not_false,gO_true,p1,bind_some',Bool.false_or]
   by_cases c2 : v.Attrs = w.Attrs
   ·rw [q1.2 c2,Bool.not_true,Bool.not_false,gO_true,p2,bind_some',Bool.false_or]
    by_cases c3 : v.Actions = w.Actions
    ·rw [q2.2 c3,Bool.not_true,Bool.false_or]
     by_cases c4 : v.Kids.length = w.Kids.length
     ·rw [show ((v.Kids.length : Int) != (w.Kids.length : Int)) = false by simp [c4],sel_false,jn_eq]
      obtain ⟨d,e1,e2⟩:=eqLoop (a:=v.Kids) (b:=w.Kids) (B:=r14_Same_L1 (r14_Same n) v w fun _=>some true) c4 (by unfold N0;omega) (fun again i x y hi hx hy=>by
       have hm:=View.dpL_mem (List.mem_of_getElem? hx)
       obtain ⟨c,c1,c2⟩:=rsameV_ok n x y (by omega) (b4 x (List.mem_of_getElem? hx))
       unfold r14_Same_L1
       rw [nz_lt hi,sel_true,idxO_nat,hx,bind_some',idxO_nat,hy,bind_some',c1,bind_some',wrap_suc hi (by unfold N0;omega)]
       constructor
       ·intro e;rw [c2.2 e];rfl
       ·intro e
        have : c = false:=by cases c with
         | false=>rfl
         | true=>exact absurd (c2.1 rfl) e
        rw [this];rfl) (fun again=>by
       unfold r14_Same_L1
       rw [nz_ge (Nat.le_refl _),sel_false])
      exact ⟨d,e1,e2.trans ⟨fun e=>View.ext' c1.1 c1.2 c2 c3 e,fun e=>by rw [e]⟩⟩
     ·exact ⟨false,sel_t (by rw [bne_iff_ne];omega) _ _,⟨fun e=>Bool.noConfusion e,fun e=>absurd (by rw [e]) c4⟩⟩
    ·have : x2 = false:=by cases x2 with
      | false=>rfl
      | true=>exact absurd (q2.1 rfl) c3
     rw [this]
     exact ⟨false,rfl,⟨fun e=>Bool.noConfusion e,fun e=>absurd (by rw [e]) c3⟩⟩
   ·have : x1 = false:=by cases x1 with
     | false=>rfl
     | true=>exact absurd (q1.1 rfl) c2
    rw [this]
    exact ⟨false,rfl,⟨fun e=>Bool.noConfusion e,fun e=>absurd (by rw [e]) c2⟩⟩
  ·rw [show ((v.Kind != w.Kind) || (!(decide (v.Key = w.Key)))) = true by
    simp only [Bool.or_eq_true,bne_iff_ne,ne_eq,Bool.not_eq_true',decide_eq_false_iff_not]
    by_cases d1 : v.Kind = w.Kind
    ·exact .inr fun d2=>c1 ⟨d1,d2⟩
    ·exact .inl d1]
   exact ⟨false,rfl,⟨fun e=>Bool.noConfusion e,fun e=>absurd (by subst e;exact ⟨rfl,rfl⟩) c1⟩⟩
theorem copied_ok {las : List Attr} {cs : List Action} (h1 : AttrsOk las) (h2 : ActsOk cs) : vw_copied las cs = some (las,cs):=by
 unfold vw_copied
 rw [jn_eq]
 have a0:=h1.1
 have c0:=h2.1
 refine loopI (L:=las) (fun (s : List Attr) i=>(s,(i : Int))) (fun i s=>s = las.take i) (fun r=>r = some (las,cs)) (by unfold N0;omega) ?_ ?_ [] rfl
 ·intro again s i x hx hi hs
  refine .inr ⟨las.take (i + 1),rfl,?_⟩
  unfold vw_copied_L2
  simp only [nz_lt hi,sel_true,idxO_nat,hx,bind_some']
  rw [copy_big (h1.2 x (List.mem_of_getElem? hx)),bind_some',appO_eq (by rw [hs];simp;omega),bind_some',wrap_suc hi (by unfold N0;omega),hs,take_suc hx]
 ·intro again s hs
  unfold vw_copied_L2
  simp only [nz_ge (Nat.le_refl _),selF',jnN]
  rw [hs,List.take_length]
  refine loopI (L:=cs) (fun (s : List Action) i=>(s,(i : Int))) (fun i s=>s = cs.take i) (fun r=>r = some (las,cs)) (by unfold N0;omega) ?_ ?_ [] rfl
  ·intro again s i x hx hi hs
   refine .inr ⟨cs.take (i + 1),rfl,?_⟩
   unfold vw_copied_L1
   simp only [nz_lt hi,sel_true,idxO_nat,hx,bind_some']
   have hw:=h2.2 x (List.mem_of_getElem? hx)
   rw [(copy_ok N0).2 x.Args (by unfold N0;omega) hw,bind_some',appO_eq (by rw [hs];simp;omega),bind_some',wrap_suc hi (by unfold N0;omega),hs,take_suc hx]
  ·intro again s hs
   unfold vw_copied_L1
   simp only [nz_ge (Nat.le_refl _),sel_false]
   rw [hs,List.take_length]
theorem own_ok : ∀ (n : Nat) (v : View),v.dp ≤ n → v.bd → vw_own n v = some v
 | 0,v,h,_=>by rw [View.dp_eq] at h;omega
 | n + 1,v,h,hb=>by
  rw [View.bd_eq] at hb
  obtain ⟨b1,b2,b3,b4⟩:=hb
  rw [View.dp_eq] at h
  show vw_own_B (vw_own n) v = some v
  unfold vw_own_B
  rw [copied_ok b1 b2,bind_some',jn_eq]
  refine loopI (L:=v.Kids) (fun (s : List View) i=>(s,(i : Int))) (fun i s=>s = v.Kids.take i) (fun r=>r = some v) (by unfold N0;omega) ?_ ?_ [] rfl
  ·intro again s i x hx hi hs
   refine .inr ⟨v.Kids.take (i + 1),rfl,?_⟩
   have hm:=View.dpL_mem (List.mem_of_getElem? hx)
   unfold vw_own_L1
   simp only [nz_lt hi,sel_true,idxO_nat,hx,bind_some']
   rw [own_ok n x (by omega) (b4 x (List.mem_of_getElem? hx)),bind_some',appO_eq (by rw [hs];simp;omega),bind_some',wrap_suc hi (by unfold N0;omega),hs,take_suc hx]
  ·intro again s hs
   unfold vw_own_L1
   simp only [nz_ge (Nat.le_refl _),sel_false]
   rw [hs,List.take_length]
   cases v;rfl
end Go.Proofs.YtcfegecdlbbeaaaGreatDoor
end
section
namespace Go.Proofs.YtcfegecdlbbeaaaGreatDoor
open Go Go.E2
def NB (n : Node) : Prop:=AttrsOk n.Attrs ∧ ActsOk n.Actions ∧ n.Kids.length ≤ 1000000 ∧ n.Key.size < N0
def TB (t : Tree) : Prop:=∀ n ∈ t.Nodes,NB n
theorem zN_NB : NB zN:=⟨⟨by unfold zN;simp,by unfold zN;simp⟩,⟨by unfold zN;simp,by unfold zN;simp⟩,by unfold zN;simp,by unfold zN;show (0 : Nat) < N0;unfold N0;omega⟩
theorem nd_NB {L : List Node} (h : ∀ n ∈ L,NB n) (x : Int) : NB (nd L x):=by
 cases hl : look L x with
 | none=>rw [nd_none hl];exact zN_NB
 | some n=>rw [nd_look hl];exact h n (look_mem hl).1
def zV : View:=View.mk 0 ByteArray.empty ([] : List Attr) ([] : List Action) ([] : List View)
theorem zV_bd : zV.bd:=by rw [View.bd_eq];exact ⟨⟨by unfold zV;simp,by unfold zV;simp⟩,⟨by unfold zV;simp,by unfold zV;simp⟩,by unfold zV;simp,by unfold zV;simp⟩
theorem zV_sm : zV.sm:=by rw [View.sm_eq];exact ⟨by unfold zV;show (0 : Nat) < N0;unfold N0;omega,by unfold zV;simp⟩
theorem zV_dp : zV.dp = 1:=by rw [View.dp_eq];unfold zV View.dpL;rfl
theorem dsc_bd {L : List Node} (h : ∀ n ∈ L,NB n) : ∀ (f : Nat) (x : Int),(dsc L f x).bd
 | 0,x=>zV_bd
 | f + 1,x=>by
  obtain ⟨h1,h2,h3,_⟩:=nd_NB h x
  rw [View.bd_eq]
  refine ⟨h1,h2,by show (List.map _ _).length ≤ _;rw [List.length_map];exact h3,fun a ha=>?_⟩
  obtain ⟨k,_,rfl⟩:=List.mem_map.1 ha
  exact dsc_bd h f k
theorem dsc_sm {L : List Node} (h : ∀ n ∈ L,NB n) : ∀ (f : Nat) (x : Int),(dsc L f x).sm
 | 0,x=>zV_sm
 | f + 1,x=>by
  obtain ⟨_,_,_,h4⟩:=nd_NB h x
  rw [View.sm_eq]
  refine ⟨h4,fun a ha=>?_⟩
  obtain ⟨k,_,rfl⟩:=List.mem_map.1 ha
  exact dsc_sm h f k
theorem dsc_dp {L : List Node} : ∀ (f : Nat) (x : Int),(dsc L f x).dp ≤ f + 1
 | 0,x=>by show zV.dp ≤ _;rw [zV_dp];omega
 | f + 1,x=>by
  rw [View.dp_eq]
  have : View.dpL (dsc L (f + 1) x).Kids ≤ f + 1:=View.dpL_le (fun a ha=>by
   obtain ⟨k,_,rfl⟩:=List.mem_map.1 ha
   exact dsc_dp f k)
  omega
def dscT (t : Tree) : View:=dsc t.Nodes t.Nodes.length t.Root
theorem dscT_bd {t : Tree} (h : TB t) : (dscT t).bd:=dsc_bd h _ _
theorem dscT_sm {t : Tree} (h : TB t) : (dscT t).sm:=dsc_sm h _ _
theorem dscT_dp (t : Tree) : (dscT t).dp ≤ t.Nodes.length + 1:=dsc_dp _ _
theorem examine_ok {t : Tree} (h : TB t) : (¬ Shp t ∧ vw_examine t = some ([],zV,12) ∧ r14_shaped t = some false) ∨ (Shp t ∧ vw_examine t = some (mpo t.Nodes,dscT t,errV (dscT t)) ∧ r14_shaped t = some true ∧ r14_describe N0 t t.Root = some (dscT t)):=by
 obtain ⟨m,b,g1,g2,g3⟩:=graph_ok t (fun n hn=>(h n hn).2.2.1)
 obtain ⟨c,s1,s2⟩:=shaped_ok t
 have e : c = b:=by
  cases b <;> cases c
  ·rfl
  ·exact absurd (g2.2 (s2.1 rfl)) (by simp)
  ·exact absurd (s2.2 (g2.1 rfl)) (by simp)
  ·rfl
 subst e
 unfold vw_examine
 rw [g1,bind_some']
 cases c with
 | false=>exact .inl ⟨fun S=>Bool.noConfusion (g2.2 S),rfl,s1⟩
 | true =>
  have S:=g2.1 rfl
  have hl:=S.lim.2.2.2
  refine .inr ⟨S,?_,s1,?_⟩
  ·rw [g3 rfl,Bool.not_true,sel_false,described_ok S.to0 hl t.Nodes.length N0 0 t.Root Reach.z (by omega) (by unfold N0;omega),bind_some']
   show (vw_Validate (dscT t)).bind _ = _
   rw [Validate_ok (dscT_sm h)];rfl
  ·exact rdescribe_ok S.to0 hl t.Nodes.length N0 0 t.Root Reach.z (by omega) (by unfold N0;omega)
theorem tree_ok {t : Tree} (h : TB t) : ∃ e,vw_Check t = some e ∧ r14_Check t = some e ∧
  ((e = 0 ∧ Shp t ∧ errV (dscT t) = 0 ∧ vw_valid t = some (mpo t.Nodes,true) ∧ vw_Describe t = some (dscT t,0) ∧ r14_Describe t = some (dscT t,0)) ∨ (e ≠ 0 ∧ ∃ m,vw_valid t = some (m,false) ∧ vw_Describe t = some (zV,e) ∧ r14_Describe t = some (zV,e))):=by
 unfold vw_Check vw_valid vw_Describe r14_Describe
 rcases examine_ok h with ⟨_,h1,h2⟩ | ⟨S,h1,h2,h3⟩
 ·refine ⟨12,by rw [h1];rfl,by unfold r14_Check;rw [h2];rfl,.inr ⟨by omega,[],by rw [h1];rfl,by rw [h1];rfl,by unfold r14_Check;rw [h2];rfl⟩⟩
 ·have hc : r14_Check t = some (errV (dscT t)):=by
   unfold r14_Check
   rw [h2,bind_some',Bool.not_true,sel_false,h3,bind_some',rValidate_ok (dscT_sm h)];rfl
  refine ⟨errV (dscT t),by rw [h1];rfl,hc,?_⟩
  by_cases he : errV (dscT t) = 0
  ·refine .inl ⟨he,S,he,?_,?_,?_⟩
   ·rw [h1,bind_some'];simp [he]
   ·rw [h1,bind_some']
    show sel (errV (dscT t) != 0) _ _ = _
    have hl:=S.lim.2.2.2
    rw [show (errV (dscT t) != 0) = false by simp [he],sel_false]
    show (vw_own N0 (dscT t)).bind _ = _
    rw [own_ok N0 _ (by have:=dscT_dp t;unfold N0;omega) (dscT_bd h)];rfl
   ·rw [hc,bind_some',show (errV (dscT t) != 0) = false by simp [he],sel_false,h3];rfl
  ·refine .inr ⟨he,mpo t.Nodes,?_,?_,?_⟩
   ·rw [h1,bind_some'];simp [he]
   ·rw [h1,bind_some']
    show sel (errV (dscT t) != 0) _ _ = _
    rw [show (errV (dscT t) != 0) = true by simp [he],sel_true];rfl
   ·rw [hc,bind_some',show (errV (dscT t) != 0) = true by simp [he],sel_true];rfl
theorem order_same {t : Tree} (h : TB t) : ∃ l,vw_Order t = some l ∧ r14_Order t = some l ∧ l.length ≤ 400 ∧ (vw_Check t = some 0 → l = pre t.Nodes t.Nodes.length t.Root):=by
 obtain ⟨e,h1,h2,⟨he,S,_,h3,_⟩ | ⟨he,m,h3,_⟩⟩:=tree_ok h
 ·have hl:=S.lim.2.2.2
  have hpl:=pre_len S.to0 (f:=t.Nodes.length) Reach.z
  unfold vw_Order r14_Order
  refine ⟨pre t.Nodes t.Nodes.length t.Root,?_,?_,by omega,fun _=>rfl⟩
  ·rw [h3,bind_some',Bool.not_true,sel_false,preorder_ok S.to0 hl t.Nodes.length N0 0 t.Root Reach.z (by omega) (by unfold N0;omega)];rfl
  ·rw [h2,bind_some',he,show ((0 : Int) != 0) = false from rfl,sel_false,rorder_ok S.to0 hl t.Nodes.length N0 0 t.Root [] Reach.z (by omega) (by unfold N0;omega) (by simp only [List.length_nil];omega)];rfl
 ·unfold vw_Order r14_Order
  refine ⟨[],by rw [h3];rfl,?_,by simp,fun e0=>by rw [h1] at e0;exact absurd (Option.some.inj e0) he⟩
  rw [h2,bind_some',show (e != 0) = true by simp [he]];rfl
theorem rpath_ok {t : Tree} (S : Shp0 t.Nodes t.Root) (h400 : t.Nodes.length ≤ 400) : ∀ (d n : Nat) (x : Int), Reach t.Nodes t.Root d x → d < n → r14_path n t x = some (pth t.Nodes d x)
  | d, 0, x, _, h => by omega
  | d, n + 1, x, hr, h => by
    show r14_path_B (r14_path n) t x = _
    unfold r14_path_B
    rw [Node_ok t x (by unfold N0; omega), bind_some']
    cases d with
    | zero =>
      have := reach_zero hr
      subst this
      rw [show ((nd t.Nodes t.Root).Parent == 0) = true by rw [beq_iff_eq]; exact up_root S]
      rfl
    | succ d =>
      have hu := (reach_up S hr).1
      have hp := reach_pos S hu
      have hd := reach_depth S hr
      rw [show ((nd t.Nodes x).Parent == 0) = false by rw [beq_eq_false_iff_ne]; have : up t.Nodes x ≠ 0 := by omega
                                                       exact this, sel_false]
      show (r14_path n t (up t.Nodes x)).bind _ = _
      rw [rpath_ok S h400 d n _ hu (by omega), bind_some', appO_eq (by rw [pth_len]; simp; omega)]
      rfl
theorem path_same {t : Tree} (h : TB t) (a : Int) : ∃ l,vw_Path t a = some l ∧ r14_Path t a = some l ∧ l.length ≤ 400 ∧ ((vw_Check t = some 0 ∧ ∃ d,Reach t.Nodes t.Root d a ∧ l = pth t.Nodes d a) ∨ ((vw_Check t ≠ some 0 ∨ look t.Nodes a = none) ∧ l = [])):=by
 obtain ⟨e,h1,h2,⟨he,S,_,h3,_⟩ | ⟨he,m,h3,_⟩⟩:=tree_ok h
 ·subst he
  have hl:=S.lim.2.2.2
  unfold vw_Path r14_Path
  rw [h3,bind_some',Bool.not_true,sel_false,h2,bind_some',show ((0 : Int) != 0) = false from rfl,Bool.not_false,gO_true]
  rcases Index_ok t a (by unfold N0;omega) with ⟨i,n,e1,e2,e3⟩ | ⟨e1,e2⟩
  ·obtain ⟨d,hd⟩:=whole_reach S.to0 S.whole (ids_look e3)
   have hdl:=reach_depth S.to0 hd
   refine ⟨pth t.Nodes d a,by rw [path_ok S.to0 hl hd];rfl,?_,by rw [pth_len];omega,.inl ⟨h1,d,hd,rfl⟩⟩
   rw [e1,bind_some',show decide ((i : Int) < 0) = false from decide_eq_false (by omega),Bool.false_or,sel_false,rpath_ok S.to0 hl d N0 a hd (by unfold N0;omega)];rfl
  ·refine ⟨[],by rw [path_none a e2];rfl,?_,by simp,.inr ⟨.inr e2,rfl⟩⟩
   rw [e1];rfl
 ·unfold vw_Path r14_Path
  refine ⟨[],by rw [h3];rfl,?_,by simp,.inr ⟨.inl (by rw [h1];intro e0;exact he (Option.some.inj e0)),rfl⟩⟩
  rw [h2,bind_some',show (e != 0) = true by simp [he]];rfl
theorem common_loop (x y : List Int) (k : Int → Option Int) (h : x.length < N0) : ∃ r,loopK (r14_Common_L1 x y k) N0 (0,0) = k r ∧ loopK (vw_Common_L1 x y k) N0 (0,0) = k r:=by
 have e : vw_Common_L1 x y k = r14_Common_L1 x y k:=by
  funext again s
  unfold vw_Common_L1 r14_Common_L1
  have : decide (s.2 < mnI (x.length : Int) (y.length : Int)) = ((decide (s.2 < (x.length : Int))) && (decide (s.2 < (y.length : Int)))):=by
   rw [Bool.eq_iff_iff,Bool.and_eq_true]
   simp only [decide_eq_true_eq]
   unfold mnI
   split <;> omega
  rw [this]
 rw [e]
 have key : ∃ r,loopK (r14_Common_L1 x y k) N0 (0,0) = k r:=by
  refine loopN (n:=x.length) (fun (s : Int) i=>(s,(i : Int))) (fun i _=>True) (fun r=>∃ c,r = k c) h ?_ ?_ 0 trivial
  ·intro again s i hi _
   unfold r14_Common_L1
   by_cases hy : i < y.length
   ·have ex : x[i]? = some x[i]:=List.getElem?_eq_getElem hi
    have ey : y[i]? = some y[i]:=List.getElem?_eq_getElem hy
    simp only [nz_lt hi,nz_lt hy,Bool.and_true,gO_true,idxO_nat,ex,ey,bindN,Bool.true_and]
    rw [wrap_suc hi h]
    cases x[i] == y[i] with
    | true=>exact .inr ⟨x[i],trivial,rfl⟩
    | false=>exact .inl ⟨s,rfl⟩
   ·simp only [nz_lt hi,nz_ge (show y.length ≤ i by omega),Bool.and_false,gO_false,bindN,Bool.false_and,selF']
    exact .inl ⟨s,rfl⟩
  ·intro again s _
   unfold r14_Common_L1
   simp only [nz_ge (Nat.le_refl _),Bool.false_and,gO_false,bindN,selF']
   exact ⟨s,rfl⟩
 obtain ⟨r,hr⟩:=key
 exact ⟨r,hr,hr⟩
theorem common_same {t : Tree} (h : TB t) (a b : Int) : ∃ c,vw_Common t a b = some c ∧ r14_Common t a b = some c:=by
 obtain ⟨x,p1,p2,p3,_⟩:=path_same h a
 obtain ⟨y,q1,q2,q3,_⟩:=path_same h b
 unfold vw_Common r14_Common
 rw [p2,q2,bind_some',bind_some',jn_eq]
 obtain ⟨e,h1,h2,⟨he,S,_,h3,_⟩ | ⟨he,m,h3,_⟩⟩:=tree_ok h
 ·have hv : ∀ z l,vw_Path t z = some l → vw_path (mpo t.Nodes) z = some l:=by
   intro z l hz
   unfold vw_Path at hz
   rw [h3,bind_some',Bool.not_true,sel_false] at hz
   obtain ⟨w,w1,w2⟩:=bind_some hz
   rw [w1];exact w2
  rw [h3,bind_some',Bool.not_true,sel_false,hv a x p1,hv b y q1,bind_some',bind_some',jn_eq]
  obtain ⟨r,e1,e2⟩:=common_loop x y (fun s=>some s) (by unfold N0;omega)
  exact ⟨r,e2,e1⟩
 ·have hx : x = []:=by
   unfold vw_Path at p1
   rw [h3] at p1
   exact (Option.some.inj p1).symm
  subst hx
  refine ⟨0,by rw [h3];rfl,?_⟩
  rw [loopK_first]
  generalize loopK (r14_Common_L1 [] y fun s3=>some s3) (N0 - 1) = again
  unfold r14_Common_L1
  rfl
end Go.Proofs.YtcfegecdlbbeaaaGreatDoor
end
section
namespace Go.Proofs.YtcfegecdlbbeaaaGreatDoor
open Go Go.E2
structure OkV (v : View) : Prop where
 kind : 1 ≤ v.Kind ∧ v.Kind ≤ 13
 key : keyE v.Key = true
 atts : v.Attrs.length ≤ 24
 acts : v.Actions.length ≤ 24
 kids : v.Kids.length ≤ 100
 atf : atF none v.Attrs = 0
 acf : acF none v.Actions = 0
 dup : dupF [] v.Kids = false
theorem val_parts {f : Nat} {v : View} {d m : Int} (h : (valF (f + 1) v d m).1 = 0) : d ≤ 16 ∧ m + 1 ≤ 400 ∧ OkV v ∧ (kdF (fun k m=>valF f k (d + 1) m) v.Kids (m + 1)).1 = 0:=by
 change (valB (fun k m=>valF f k (d + 1) m) v d m).1 = 0 at h
 unfold valB at h
 by_cases c1 : d > 16
 ·rw [if_pos c1] at h;cases h
 rw [if_neg c1] at h
 by_cases c2 : m + 1 > 400
 ·rw [if_pos c2] at h;cases h
 rw [if_neg c2] at h
 by_cases c3 : v.Kind < 1 ∨ v.Kind > 13
 ·rw [if_pos c3] at h;cases h
 rw [if_neg c3] at h
 cases c4 : keyE v.Key with
 | false=>rw [c4,if_pos rfl] at h;cases h
 | true =>
  rw [c4,if_neg (by exact Bool.noConfusion)] at h
  by_cases c5 : v.Attrs.length > 24 ∨ v.Actions.length > 24 ∨ v.Kids.length > 100
  ·rw [if_pos c5] at h;cases h
  rw [if_neg c5] at h
  by_cases c6 : atF none v.Attrs = 0
  ·rw [if_neg (by simp [c6])] at h
   by_cases c7 : acF none v.Actions = 0
   ·rw [if_neg (by simp [c7])] at h
    cases c8 : dupF [] v.Kids with
    | true=>rw [c8,if_pos rfl] at h;cases h
    | false =>
     rw [c8,if_neg (by exact Bool.noConfusion)] at h
     exact ⟨by omega,by omega,⟨by omega,c4,by omega,by omega,by omega,c6,c7,c8⟩,h⟩
   ·rw [if_pos c7] at h;exact absurd h c7
  ·rw [if_pos c6] at h;exact absurd h c6
theorem kd_each {g : View → Int → Int × Int} : ∀ {l : List View} {m : Int},(kdF g l m).1 = 0 → ∀ k ∈ l,∃ m',(g k m').1 = 0
 | [],m,_,k,hk=>by cases hk
 | x :: r,m,h,k,hk=>by
  rw [kdF_cons] at h
  by_cases c : (g x m).1 = 0
  ·rw [if_neg (by simp [c])] at h
   rcases List.mem_cons.1 hk with e | e
   ·subst e;exact ⟨m,c⟩
   ·exact kd_each h k e
  ·rw [if_pos c] at h;exact absurd h c
theorem reach_valid {t : Tree} (S : Shp t) (he : errV (dscT t) = 0) : ∀ {d : Nat} {x : Int},Reach t.Nodes t.Root d x → d ≤ 15 ∧ ∃ m,(valF (17 - d) (dsc t.Nodes (t.Nodes.length - d) x) (1 + (d : Int)) m).1 = 0
 | 0,x,hr=>by
  have:=reach_zero hr
  subst this
  exact ⟨by omega,0,he⟩
 | d + 1,x,hr=>by
  obtain ⟨h1,h2⟩:=reach_up S.to0 hr
  obtain ⟨h3,m,h4⟩:=reach_valid S he h1
  have hd:=reach_depth S.to0 hr
  rw [show 17 - d = (16 - d) + 1 by omega,show t.Nodes.length - d = (t.Nodes.length - (d + 1)) + 1 by omega] at h4
  obtain ⟨_,_,_,h5⟩:=val_parts h4
  obtain ⟨m',h6⟩:=kd_each h5 (dsc t.Nodes (t.Nodes.length - (d + 1)) x) (List.mem_map.2 ⟨x,h2,rfl⟩)
  have e : 1 + ((d + 1 : Nat) : Int) = 1 + (d : Int) + 1:=by omega
  refine ⟨?_,m',?_⟩
  ·by_cases c : d = 15
   ·subst c
    rw [show 16 - 15 = 0 + 1 by omega] at h6
    have:=(val_parts h6).1
    omega
   ·omega
  ·rw [e,show 17 - (d + 1) = 16 - d by omega];exact h6
theorem good_node {t : Tree} (S : Shp t) (he : errV (dscT t) = 0) {d : Nat} {x : Int} (hr : Reach t.Nodes t.Root d x) : d ≤ 15 ∧ OkV (View.mk (nd t.Nodes x).Kind (nd t.Nodes x).Key (nd t.Nodes x).Attrs (nd t.Nodes x).Actions ((nd t.Nodes x).Kids.map (dsc t.Nodes (t.Nodes.length - (d + 1))))):=by
 obtain ⟨h1,m,h2⟩:=reach_valid S he hr
 have hd:=reach_depth S.to0 hr
 rw [show 17 - d = (16 - d) + 1 by omega,show t.Nodes.length - d = (t.Nodes.length - (d + 1)) + 1 by omega] at h2
 exact ⟨h1,(val_parts h2).2.2.1⟩
theorem kids100 {t : Tree} (S : Shp t) (he : errV (dscT t) = 0) {d : Nat} {x : Int} (hr : Reach t.Nodes t.Root d x) : (nd t.Nodes x).Kids.length ≤ 100:=by
 have h : ((nd t.Nodes x).Kids.map (dsc t.Nodes (t.Nodes.length - (d + 1)))).length ≤ 100:=(good_node S he hr).2.kids
 rwa [List.length_map] at h
theorem key24 {t : Tree} (S : Shp t) (he : errV (dscT t) = 0) {d : Nat} {x : Int} (hr : Reach t.Nodes t.Root d x) : (nd t.Nodes x).Key.size ≤ 24:=by
 have h : keyE (nd t.Nodes x).Key = true:=(good_node S he hr).2.key
 exact (of_decide_eq_true h).1
def decChk (i : Nat) : Bool:=match r11_Decimal N0 (i : Int),strconv_Itoa (i : Int) with
 | some a,some b=>a.data == b.data && decide (a.size ≤ 2)
 | _,_=>false
theorem decChk_all : ((List.range 100).all decChk) = true:=by decide +kernel
theorem dec_ok {i : Int} (h0 : 0 ≤ i) (h1 : i < 100) : ∃ s,r11_Decimal N0 i = some s ∧ strconv_Itoa i = some s ∧ s.size ≤ 2:=by
 obtain ⟨n,rfl⟩ : ∃ n : Nat,i = n:=⟨i.toNat,by omega⟩
 have:=List.all_eq_true.1 decChk_all n (List.mem_range.2 (by omega))
 unfold decChk at this
 split at this
 ·rename_i a b ha hb
  simp only [Bool.and_eq_true,decide_eq_true_eq] at this
  have e : a = b:=by
   have:=eq_of_beq this.1
   cases a;cases b;simp_all
  subst e
  exact ⟨a,ha,hb,this.2⟩
 ·cases this
def cntF (p : Int → Bool) (x : Int) : List Int → Nat
 | []=>0
 | k :: r=>if k = x then 0 else (if p k = true then 1 else 0) + cntF p x r
theorem cntF_cons (p : Int → Bool) (x k : Int) (r : List Int) : cntF p x (k :: r) = if k = x then 0 else (if p k = true then 1 else 0) + cntF p x r:=rfl
theorem cntF_lt (p : Int → Bool) (x : Int) : ∀ {l : List Int},x ∈ l → cntF p x l < l.length
 | k :: r,h=>by
  rw [cntF_cons,List.length_cons]
  by_cases c : k = x
  ·rw [if_pos c];omega
  ·rw [if_neg c]
   have:=cntF_lt p x (l:=r) (by
    rcases List.mem_cons.1 h with e | e
    ·exact absurd e.symm c
    ·exact e)
   split <;> omega
def alike (L : List Node) (n : Node) (k : Int) : Bool:=((nd L k).Key.toList == (ByteArray.mk #[]).toList) && ((nd L k).Kind == n.Kind)
theorem vcount {L : List Node} {b : Bool} {x : Int} {n y : Node} {c1 c2 : Bool} (hK : y.Kids.length ≤ 1000000) (k : Int → Option Str) :
  loopK (vw_PathName_L1 (mpo L,b) x (n,c1) k (y,c2)) N0 (0,0) = k (cntF (alike L n) x y.Kids : Int):=by
 refine loopI (L:=y.Kids) (fun (s : Nat) i=>((s : Int),(i : Int))) (fun i s=>s + cntF (alike L n) x (y.Kids.drop i) = cntF (alike L n) x y.Kids ∧ s ≤ i) (fun r=>r = k (cntF (alike L n) x y.Kids : Int)) (by unfold N0;omega) ?_ ?_ 0 ⟨by simp,Nat.le_refl _⟩
 ·intro again s i z hz hi ⟨h1,h2⟩
  rw [drop_cons' hz,cntF_cons] at h1
  unfold vw_PathName_L1
  simp only [nz_lt hi,selT',idxO_nat,hz,bindN,jnN,mpo_getO]
  by_cases c : z = x
  ·rw [if_pos c] at h1
   rw [show (z == x) = true by simp [c],sel_true,← h1]
   exact .inl rfl
  ·rw [if_neg c] at h1
   rw [show (z == x) = false by simp [c],sel_false,wrap_suc hi (by unfold N0;omega)]
   cases hp : alike L n z with
   | true =>
    rw [if_pos hp] at h1
    unfold alike at hp
    rw [hp,sel_true,wrap_id (by omega) (by omega)]
    exact .inr ⟨s + 1,⟨by omega,by omega⟩,rfl⟩
   | false =>
    rw [if_neg (by rw [hp];exact Bool.noConfusion)] at h1
    unfold alike at hp
    rw [hp,sel_false]
    exact .inr ⟨s,⟨by omega,by omega⟩,rfl⟩
 ·intro again s ⟨h1,h2⟩
  rw [List.drop_length] at h1
  unfold vw_PathName_L1
  simp only [nz_ge (Nat.le_refl _),selF']
  rw [← h1];rfl
theorem rcount {t : Tree} {n y : Node} {x : Int} (hx : n.ID = x) (hl : t.Nodes.length ≤ 400) (hK : y.Kids.length ≤ 1000000) (k : Int → Option Str) :
  loopK (r14_PathName_L1 t n k y) N0 (0,0) = k (cntF (alike t.Nodes n) x y.Kids : Int):=by
 refine loopI (L:=y.Kids) (fun (s : Nat) i=>((s : Int),(i : Int))) (fun i s=>s + cntF (alike t.Nodes n) x (y.Kids.drop i) = cntF (alike t.Nodes n) x y.Kids ∧ s ≤ i) (fun r=>r = k (cntF (alike t.Nodes n) x y.Kids : Int)) (by unfold N0;omega) ?_ ?_ 0 ⟨by simp,Nat.le_refl _⟩
 ·intro again s i z hz hi ⟨h1,h2⟩
  rw [drop_cons' hz,cntF_cons] at h1
  unfold r14_PathName_L1
  simp only [nz_lt hi,idxO_nat,hz,bindN,jnN,gO_true,Bool.true_and,hx]
  by_cases c : z = x
  ·rw [if_pos c] at h1
   rw [show (z != x) = false by simp [c],sel_false,← h1]
   exact .inl rfl
  ·rw [if_neg c] at h1
   rw [show (z != x) = true by simp [c],sel_true,Node_ok t z (by unfold N0;omega),bind_some',wrap_suc hi (by unfold N0;omega)]
   cases hp : alike t.Nodes n z with
   | true =>
    rw [if_pos hp] at h1
    unfold alike at hp
    rw [hp,sel_true,wrap_id (by omega) (by omega)]
    exact .inr ⟨s + 1,⟨by omega,by omega⟩,rfl⟩
   | false =>
    rw [if_neg (by rw [hp];exact Bool.noConfusion)] at h1
    unfold alike at hp
    rw [hp,sel_false]
    exact .inr ⟨s,⟨by omega,by omega⟩,rfl⟩
 ·intro again s ⟨h1,h2⟩
  rw [List.drop_length] at h1
  unfold r14_PathName_L1
  simp only [nz_ge (Nat.le_refl _),gO_false,bindN,Bool.false_and,selF']
  rw [← h1];rfl
theorem catO_eq {s u : Str} (h : s.size + u.size ≤ 1000000) : catO s u = some (s ++ u):=if_pos (by omega)
def seg (L : List Node) (x : Int) : Option Str :=
 if (nd L x).Key = ByteArray.mk #[] then (strconv_Itoa (nd L x).Kind).bind fun a=>(strconv_Itoa (cntF (alike L (nd L x)) x (nd L (up L x)).Kids : Int)).bind fun b=>some (ByteArray.mk #[47,35] ++ a ++ ByteArray.mk #[46] ++ b)
 else some (ByteArray.mk #[47] ++ (nd L x).Key)
theorem pth_get {L : List Node} {root : Int} (S : Shp0 L root) : ∀ {d : Nat} {x : Int},Reach L root d x → ∀ i y,(pth L d x)[i]? = some y → i ≤ d ∧ Reach L root i y ∧ (0 < i → (pth L d x)[i - 1]? = some (up L y))
 | 0,x,hr,i,y,h=>by
  change [x][i]? = some y at h
  obtain ⟨hi,e⟩:=List.getElem?_eq_some_iff.1 h
  simp at hi;subst hi
  simp at e;subst e
  exact ⟨Nat.le_refl _,hr,fun h=>by omega⟩
 | d + 1,x,hr,i,y,h=>by
  have hu:=(reach_up S hr).1
  unfold pth at h ⊢
  by_cases c : i < (pth L d (up L x)).length
  ·rw [List.getElem?_append_left c] at h
   obtain ⟨h1,h2,h3⟩:=pth_get S hu i y h
   exact ⟨by omega,h2,fun h0=>by rw [List.getElem?_append_left (by omega)];exact h3 h0⟩
  ·rw [List.getElem?_append_right (by omega)] at h
   rw [pth_len] at c h
   obtain ⟨hi,e⟩:=List.getElem?_eq_some_iff.1 h
   simp at hi
   have hi' : i = d + 1:=by omega
   subst hi'
   simp at e;subst e
   exact ⟨Nat.le_refl _,hr,fun _=>by
    rw [List.getElem?_append_left (by rw [pth_len];omega),Nat.add_sub_cancel]
    exact pth_last d _⟩
theorem seg_ok {t : Tree} (S : Shp t) (he : errV (dscT t) = 0) {d : Nat} {x : Int} (hr : Reach t.Nodes t.Root d x) : ∃ s,seg t.Nodes x = some s ∧ s.size ≤ 100 ∧
  ((nd t.Nodes x).Key = ByteArray.mk #[] → ∃ a b,strconv_Itoa (nd t.Nodes x).Kind = some a ∧ r11_Decimal N0 (nd t.Nodes x).Kind = some a ∧ strconv_Itoa (cntF (alike t.Nodes (nd t.Nodes x)) x (nd t.Nodes (up t.Nodes x)).Kids : Int) = some b ∧ r11_Decimal N0 (cntF (alike t.Nodes (nd t.Nodes x)) x (nd t.Nodes (up t.Nodes x)).Kids : Int) = some b ∧ a.size ≤ 2 ∧ b.size ≤ 2 ∧ s = ByteArray.mk #[47,35] ++ a ++ ByteArray.mk #[46] ++ b) ∧
  ((nd t.Nodes x).Key ≠ ByteArray.mk #[] → s = ByteArray.mk #[47] ++ (nd t.Nodes x).Key):=by
 have hk:=key24 S he hr
 by_cases c : (nd t.Nodes x).Key = ByteArray.mk #[]
 ·have hkind : 1 ≤ (nd t.Nodes x).Kind ∧ (nd t.Nodes x).Kind ≤ 13:=(good_node S he hr).2.kind
  have hcnt : (cntF (alike t.Nodes (nd t.Nodes x)) x (nd t.Nodes (up t.Nodes x)).Kids) < 100:=by
   cases d with
   | zero =>
    have:=reach_zero hr
    subst this
    rw [up_root S.to0,nd_none (look_zero S.to0)]
    exact Nat.zero_lt_succ _
   | succ d =>
    obtain ⟨h1,h2⟩:=reach_up S.to0 hr
    have:=cntF_lt (alike t.Nodes (nd t.Nodes x)) x h2
    have:=kids100 S he h1
    omega
  obtain ⟨a,a1,a2,a3⟩:=dec_ok (i:=(nd t.Nodes x).Kind) (by omega) (by omega)
  obtain ⟨b,b1,b2,b3⟩:=dec_ok (i:=(cntF (alike t.Nodes (nd t.Nodes x)) x (nd t.Nodes (up t.Nodes x)).Kids : Int)) (by omega) (by omega)
  refine ⟨_,by unfold seg;rw [if_pos c,a2,bind_some',b2,bind_some'],?_,fun _=>⟨a,b,a2,a1,b2,b1,a3,b3,rfl⟩,fun h=>absurd c h⟩
  simp only [ByteArray.size_append]
  show 2 + a.size + 1 + b.size ≤ 100
  omega
 ·refine ⟨_,by unfold seg;rw [if_neg c],?_,fun h=>absurd h c,fun _=>rfl⟩
  simp only [ByteArray.size_append]
  show 1 + _ ≤ 100
  omega
def segsR (L : List Node) (s : Str) : List Int → Str
 | []=>s
 | x :: r=>segsR L (s ++ (match seg L x with
  | some s=>s
  | none=>ByteArray.mk #[])) r
theorem segsR_snoc (L : List Node) : ∀ (l : List Int) (s : Str) (x : Int),segsR L s (l ++ [x]) = segsR L s l ++ (match seg L x with
  | some s=>s
  | none=>ByteArray.mk #[])
 | [],_,_=>rfl
 | _y :: l,_s,x=>segsR_snoc L l _ x
theorem name_loops {t : Tree} (S : Shp t) (he : errV (dscT t) = 0) {d : Nat} {x : Int} (hr : Reach t.Nodes t.Root d x) (k : Str → Option Str) :
  loopK (vw_PathName_L2 (mpo t.Nodes,true) k (pth t.Nodes d x)) N0 (ByteArray.mk #[],0) = k (segsR t.Nodes (ByteArray.mk #[]) (pth t.Nodes d x)) ∧
  loopK (r14_PathName_L2 t (pth t.Nodes d x) k) N0 (ByteArray.mk #[],0) = k (segsR t.Nodes (ByteArray.mk #[]) (pth t.Nodes d x)):=by
 have hl:=S.lim.2.2.2
 have hd:=reach_depth S.to0 hr
 have hlen : (pth t.Nodes d x).length < N0:=by rw [pth_len];unfold N0;omega
 constructor
 ·refine loopI (L:=pth t.Nodes d x) (fun (s : Str) i=>(s,(i : Int))) (fun i s=>s = segsR t.Nodes (ByteArray.mk #[]) ((pth t.Nodes d x).take i) ∧ s.size ≤ 100 * i) (fun r=>r = k (segsR t.Nodes (ByteArray.mk #[]) (pth t.Nodes d x))) hlen ?_ ?_ _ ⟨rfl,Nat.le_refl _⟩
  ·intro again s i y hy hi ⟨h1,h2⟩
   have hi4 : i < 400:=by rw [pth_len] at hi;omega
   obtain ⟨_,hry,_⟩:=pth_get S.to0 hr i y hy
   obtain ⟨z,z1,z2,z3,z4⟩:=seg_ok S he hry
   refine .inr ⟨s ++ z,⟨?_,by rw [ByteArray.size_append];omega⟩,?_⟩
   ·rw [take_suc hy,segsR_snoc,z1,h1]
   ·unfold vw_PathName_L2
    simp only [nz_lt hi,selT',idxO_nat,hy,bindN,jnN,mpo_getO,bs_eq]
    rw [wrap_suc hi hlen]
    by_cases c : (nd t.Nodes y).Key = ByteArray.mk #[]
    ·obtain ⟨a,b,a1,_,b1,_,a3,b3,e⟩:=z3 c
     rw [decide_eq_true c,Bool.not_true,sel_false]
     have hK : (nd t.Nodes (nd t.Nodes y).Parent).Kids.length ≤ 1000000:=by have:=kids_len S.to0 (nd t.Nodes y).Parent;omega
     rw [vcount hK]
     rw [a1,bind_some',catO_eq (by show 2 + a.size ≤ _;omega),bind_some',catO_eq (by rw [ByteArray.size_append];show 2 + a.size + 1 ≤ _;omega),bind_some']
     have b1' : strconv_Itoa (cntF (alike t.Nodes (nd t.Nodes y)) y (nd t.Nodes (nd t.Nodes y).Parent).Kids : Int) = some b:=b1
     rw [b1',bind_some',catO_eq (by simp only [ByteArray.size_append];show 2 + a.size + 1 + b.size ≤ _;omega),bind_some',← e,catO_eq (by omega)]
     rfl
    ·rw [decide_eq_false c,Bool.not_false,sel_true,catO_eq (by have:=key24 S he hry;show 1 + _ ≤ _;omega),bind_some',← z4 c,catO_eq (by omega)]
     rfl
  ·intro again s ⟨h1,h2⟩
   rw [List.take_length] at h1
   unfold vw_PathName_L2
   simp only [nz_ge (Nat.le_refl _),selF']
   rw [h1]
 ·refine loopI (L:=pth t.Nodes d x) (fun (s : Str) i=>(s,(i : Int))) (fun i s=>s = segsR t.Nodes (ByteArray.mk #[]) ((pth t.Nodes d x).take i) ∧ s.size ≤ 100 * i) (fun r=>r = k (segsR t.Nodes (ByteArray.mk #[]) (pth t.Nodes d x))) hlen ?_ ?_ _ ⟨rfl,Nat.le_refl _⟩
  ·intro again s i y hy hi ⟨h1,h2⟩
   have hi4 : i < 400:=by rw [pth_len] at hi;omega
   obtain ⟨_,hry,hup⟩:=pth_get S.to0 hr i y hy
   obtain ⟨z,z1,z2,z3,z4⟩:=seg_ok S he hry
   have hyID : (nd t.Nodes y).ID = y:=by
    obtain ⟨n,n1,n2,n3⟩:=reach_mem S.to0 hry
    rw [nd_look n1,n3]
   refine .inr ⟨s ++ z,⟨?_,by rw [ByteArray.size_append];omega⟩,?_⟩
   ·rw [take_suc hy,segsR_snoc,z1,h1]
   ·unfold r14_PathName_L2
    simp only [nz_lt hi,selT',idxO_nat,hy,bindN,jnN,bs_eq,Node_ok t y (show t.Nodes.length < N0 by unfold N0;omega)]
    rw [wrap_suc hi hlen]
    by_cases c : (nd t.Nodes y).Key = ByteArray.mk #[]
    ·obtain ⟨a,b,_,a1,_,b1,a3,b3,e⟩:=z3 c
     rw [decide_eq_true c,Bool.not_true,sel_false]
     have hcnt : ∀ (k' : Int → Option Str),sel (decide ((i : Int) > 0)) ((idxO (pth t.Nodes d x) (IntKind.i64.wrap ((i : Int) - 1))).bind fun x23=>(r14_Node t x23).bind fun x24=>loopK (r14_PathName_L1 t (nd t.Nodes y) k' x24) N0 (0,0)) (k' 0) = k' (cntF (alike t.Nodes (nd t.Nodes y)) y (nd t.Nodes (up t.Nodes y)).Kids : Int):=by
      intro k'
      by_cases c0 : i = 0
      ·subst c0
       have:=reach_zero hry
       subst this
       rw [up_root S.to0,nd_none (look_zero S.to0)]
       rfl
      ·rw [decide_eq_true (by omega : (i : Int) > 0),sel_true,wrap_id (by omega) (by omega),show (i : Int) - 1 = ((i - 1 : Nat) : Int) by omega,idxO_nat,hup (by omega),bind_some',Node_ok t _ (by unfold N0;omega),bind_some']
       exact rcount hyID hl (by have:=kids_len S.to0 (up t.Nodes y);omega) k'
     rw [hcnt]
     rw [a1,bind_some',catO_eq (by show 2 + a.size ≤ _;omega),bind_some',catO_eq (by rw [ByteArray.size_append];show 2 + a.size + 1 ≤ _;omega),bind_some',b1,bind_some',catO_eq (by simp only [ByteArray.size_append];show 2 + a.size + 1 + b.size ≤ _;omega),bind_some',← e,catO_eq (by omega)]
     rfl
    ·rw [decide_eq_false c,Bool.not_false,sel_true,catO_eq (by have:=key24 S he hry;show 1 + _ ≤ _;omega),bind_some',← z4 c,catO_eq (by omega)]
     rfl
  ·intro again s ⟨h1,h2⟩
   rw [List.take_length] at h1
   unfold r14_PathName_L2
   simp only [nz_ge (Nat.le_refl _),selF']
   rw [h1]
theorem name_same {t : Tree} (h : TB t) (a : Int) : ∃ s,vw_PathName t a = some s ∧ r14_PathName t a = some s ∧ ((vw_Check t = some 0 ∧ ∃ d,Reach t.Nodes t.Root d a ∧ s = segsR t.Nodes (ByteArray.mk #[]) (pth t.Nodes d a)) ∨ ((vw_Check t ≠ some 0 ∨ look t.Nodes a = none) ∧ s = ByteArray.mk #[])):=by
 obtain ⟨l,p1,p2,p3,p4⟩:=path_same h a
 obtain ⟨e,h1,h2,⟨he,S,hv,h3,_⟩ | ⟨he,m,h3,_⟩⟩:=tree_ok h
 ·have hvp : vw_path (mpo t.Nodes) a = some l:=by
   unfold vw_Path at p1
   rw [h3,bind_some',Bool.not_true,sel_false] at p1
   obtain ⟨w,w1,w2⟩:=bind_some p1
   rw [w1];exact w2
  unfold vw_PathName r14_PathName
  rw [h3,bind_some',Bool.not_true,sel_false,jn_eq,p2,bind_some',jn_eq,hvp,bind_some']
  rcases p4 with ⟨hc,d,hr,e2⟩ | ⟨hc,e2⟩
  ·subst e2
   obtain ⟨n1,n2⟩:=name_loops S hv hr (fun s=>some s)
   exact ⟨_,n1,n2,.inl ⟨hc,d,hr,rfl⟩⟩
  ·subst e2
   refine ⟨ByteArray.mk #[],?_,?_,.inr ⟨hc,rfl⟩⟩
   ·rw [loopK_first]
    generalize loopK (vw_PathName_L2 (mpo t.Nodes,true) (fun s3=>some s3) []) (N0 - 1) = again
    unfold vw_PathName_L2
    rfl
   ·rw [loopK_first]
    generalize loopK (r14_PathName_L2 t [] fun s2=>some s2) (N0 - 1) = again
    unfold r14_PathName_L2
    rfl
 ·have hx : l = []:=by
   unfold vw_Path at p1
   rw [h3] at p1
   exact (Option.some.inj p1).symm
  subst hx
  refine ⟨ByteArray.mk #[],by unfold vw_PathName;rw [h3];rfl,?_,.inr ⟨.inl (by rw [h1];intro e0;exact he (Option.some.inj e0)),rfl⟩⟩
  unfold r14_PathName
  rw [p2,bind_some',jn_eq,loopK_first]
  generalize loopK (r14_PathName_L2 t [] fun s2=>some s2) (N0 - 1) = again
  unfold r14_PathName_L2
  rfl
end Go.Proofs.YtcfegecdlbbeaaaGreatDoor
end
section
namespace Go.Proofs.YtcfegecdlbbeaaaGreatDoor
open Go Go.E2
theorem chk_loop {n : Nat} {a0 : AValue} {a1 : Int} (ih : ∀ (v : AValue) (d m : Int) (t : AType) (m' : Int),0 ≤ m → m ≤ 1000 → ex_check n v d m = some (t,0,m') → m' = m + v.wt ∧ m' ≤ 1000) (hlen : a0.L.length ≤ 100)
  {k12 : (List AType) × Int → Option (AType × Int × Int)} (hk : ∀ l m t m',k12 (l,m) = some (t,0,m') → m' = m) :
  ∀ (f i : Nat) (l : List AType) (m : Int) (t : AType) (m' : Int),i ≤ a0.L.length → 0 ≤ m → m ≤ 1000 → loopK (ex_check_L1 (ex_check n) a0 a1 k12) f (l,(i : Int),m) = some (t,0,m') → m' = m + AValue.wtL (a0.L.drop i) ∧ m' ≤ 1000
 | 0,_,_,_,_,_,_,_,_,h=>by cases h
 | f + 1,i,l,m,t,m',hi,h0,h1,h=>by
  have IH:=chk_loop (a1:=a1) ih hlen hk f
  change ex_check_L1 (ex_check n) a0 a1 k12 (loopK _ f) (l,(i : Int),m) = some (t,0,m') at h
  generalize loopK (ex_check_L1 (ex_check n) a0 a1 k12) f = again at h IH
  unfold ex_check_L1 at h
  simp only at h
  by_cases c : i < a0.L.length
  ·have hx : a0.L[i]? = some a0.L[i]:=List.getElem?_eq_getElem c
   rw [nz_lt c,sel_true,idxO_nat,hx,bind_some'] at h
   obtain ⟨r,r1,r2⟩:=bind_some h
   obtain ⟨t1,e1,m1⟩:=r
   simp only at r2
   by_cases he : e1 = 0
   ·subst he
    rw [show ((0 : Int) != 0) = false from rfl,sel_false] at r2
    obtain ⟨l2,l3,r3⟩:=bind_some r2
    obtain ⟨g1,g2⟩:=ih _ _ _ _ _ h0 h1 r1
    have hw:=a0.L[i].wt_pos
    rw [wrap_suc c (by unfold N0;omega)] at r3
    obtain ⟨g3,g4⟩:=IH (i + 1) l2 m1 t m' (by omega) (by omega) g2 r3
    rw [drop_cons' hx,AValue.wtL_cons]
    exact ⟨by omega,g4⟩
   ·rw [show (e1 != 0) = true by simp [he],sel_true] at r2
    exact absurd (congrArg (fun x=>x.2.1) (Option.some.inj r2)) he
  ·rw [nz_ge (by omega),sel_false] at h
   have:=hk _ _ _ _ h
   rw [List.drop_eq_nil_of_le (by omega),AValue.wtL_nil]
   omega
theorem chk_cnt : ∀ (n : Nat) (v : AValue) (d m : Int) (t : AType) (m' : Int),0 ≤ m → m ≤ 1000 → ex_check n v d m = some (t,0,m') → m' = m + v.wt ∧ m' ≤ 1000
 | 0,_,_,_,_,_,_,_,h=>by cases h
 | n + 1,v,d,m,t,m',h0,h1,h=>by
  change ex_check_B (ex_check n) v d m = some (t,0,m') at h
  unfold ex_check_B at h
  rw [wrap_id (x:=m + 1) (by omega) (by omega),fields_eq,bind_some',range_jn] at h
  cases c1 : ((v.Kind == 4) && (decide (d ≥ 16))) with
  | true=>rw [c1,sel_true] at h;cases h
  | false =>
   rw [c1,sel_false] at h
   cases c2 : badF v with
   | true=>rw [c2] at h;cases h
   | false =>
    rw [c2,Bool.not_false,Bool.not_true,sel_false] at h
    cases c3 : badR v with
    | true=>rw [c3,sel_true] at h;cases h
    | false =>
     rw [c3,sel_false] at h
     cases c4 : (((decide ((v.S.size : Int) > 2000)) || (decide ((v.L.length : Int) > 100))) || (decide (m + 1 > 1000))) with
     | true=>rw [c4,sel_true] at h;cases h
     | false =>
      rw [c4,sel_false] at h
      simp only [Bool.or_eq_false_iff,decide_eq_false_iff_not] at c4
      obtain ⟨b,_,hb⟩:=bind_some h
      cases b with
      | false=>cases hb
      | true =>
       rw [Bool.not_true,sel_false] at hb
       have hw:=v.wt_eq
       by_cases c5 : v.Kind = 4
       ·rw [show (v.Kind != 4) = false by simp [c5],sel_false,jn_eq] at hb
        obtain ⟨e1,e2⟩:=chk_loop (chk_cnt n) (a1:=d) (by omega) (k12:=_) (fun l q t q' hq=>by
         obtain ⟨x,_,x2⟩:=bind_some hq
         cases hx : x.2 with
         | false=>rw [hx] at x2;cases x2
         | true =>
          rw [hx] at x2
          have:=Option.some.inj x2
          exact (congrArg (fun y : AType × Int × Int=>y.2.2) this).symm) N0 0 [] (m + 1) t m' (Nat.zero_le _) (by omega) (by omega) hb
        rw [List.drop_zero] at e1
        exact ⟨by omega,e2⟩
       ·rw [show (v.Kind != 4) = true by simp [c5],sel_true] at hb
        have e : m' = m + 1:=(congrArg (fun y : AType × Int × Int=>y.2.2) (Option.some.inj hb)).symm
        have hL : v.L = []:=by
         unfold badF at c2
         simp only [Bool.or_eq_false_iff,Bool.and_eq_false_iff] at c2
         rcases c2.2 with c | c
         ·have : ¬ ((v.L.length : Int) > 0):=by simpa using c
          exact List.length_eq_zero_iff.1 (by omega)
         ·exact absurd (by simpa using c) c5
        rw [hL,AValue.wtL_nil] at hw
        exact ⟨by omega,by omega⟩
theorem chE_wt {v : AValue} (h : chE v = 0) : v.wt ≤ 1000:=by
 have h1:=chE_x v
 rw [h] at h1
 unfold ex_Check at h1
 obtain ⟨x,x1,x2⟩:=bind_some h1
 unfold ex_TypeOf at x1
 obtain ⟨y,y1,y2⟩:=bind_some x1
 obtain ⟨t,e,m⟩:=y
 by_cases he : e = 0
 ·subst he
  have:=chk_cnt N0 v 0 0 t m (by omega) (by omega) y1
  omega
 ·simp only at y2
  rw [show (e != 0) = true by simp [he],sel_true] at y2
  have:=Option.some.inj y2
  rw [← this] at x2
  exact absurd (Option.some.inj x2) he
theorem atF_each : ∀ {l : List Attr} {p : Option Attr},atF p l = 0 → ∀ a ∈ l,chE a.Value = 0
 | [],_,_,a,ha=>by cases ha
 | x :: r,p,h,a,ha=>by
  rw [atF_cons] at h
  by_cases c1 : namE x.Name = false
  ·rw [if_pos c1] at h;cases h
  rw [if_neg c1] at h
  by_cases c2 : nle (p.map (·.Name)) x.Name = true
  ·rw [if_pos c2] at h;cases h
  rw [if_neg c2] at h
  by_cases c3 : chE x.Value = 0
  ·rw [if_neg (by simp [c3])] at h
   rcases List.mem_cons.1 ha with e | e
   ·subst e;exact c3
   ·exact atF_each h a e
  ·rw [if_pos c3] at h;exact absurd h c3
theorem vaF_each : ∀ {l : List AValue},vaF l = 0 → ∀ a ∈ l,chE a = 0
 | [],_,a,ha=>by cases ha
 | x :: r,h,a,ha=>by
  rw [vaF_cons] at h
  by_cases c3 : chE x = 0
  ·rw [if_neg (by simp [c3])] at h
   rcases List.mem_cons.1 ha with e | e
   ·subst e;exact c3
   ·exact vaF_each h a e
  ·rw [if_pos c3] at h;exact absurd h c3
theorem acF_each : ∀ {l : List Action} {p : Option Action},acF p l = 0 → ∀ a ∈ l,a.Args.length ≤ 100 ∧ a.Instance.size ≤ 400 ∧ ∀ x ∈ a.Args,chE x = 0
 | [],_,_,a,ha=>by cases ha
 | x :: r,p,h,a,ha=>by
  rw [acF_cons] at h
  by_cases c1 : (namE x.Event && namE x.Handler) = false
  ·rw [if_pos c1] at h;cases h
  rw [if_neg c1] at h
  by_cases c2 : nle (p.map (·.Event)) x.Event = true
  ·rw [if_pos c2] at h;cases h
  rw [if_neg c2] at h
  by_cases c4 : x.Instance.size > 400 ∨ x.Args.length > 100
  ·rw [if_pos c4] at h;cases h
  rw [if_neg c4] at h
  by_cases c3 : vaF x.Args = 0
  ·rw [if_neg (by simp [c3])] at h
   rcases List.mem_cons.1 ha with e | e
   ·subst e;exact ⟨by omega,by omega,vaF_each c3⟩
   ·exact acF_each h a e
  ·rw [if_pos c3] at h;exact absurd h c3
theorem wtL_le {n : Nat} : ∀ {l : List AValue},(∀ x ∈ l,x.wt ≤ n) → AValue.wtL l ≤ n * l.length
 | [],_=>by rw [AValue.wtL_nil];omega
 | x :: r,h=>by
  rw [AValue.wtL_cons,List.length_cons,Nat.mul_succ]
  have:=h x (by simp)
  have:=wtL_le (l:=r) (fun y hy=>h y (by simp [hy]))
  omega
theorem OkV.attsOk {v : View} (h : OkV v) : AttrsOk v.Attrs:=⟨by have:=h.atts;omega,fun a ha=>by have:=chE_wt (atF_each h.atf a ha);omega⟩
theorem OkV.actsOk {v : View} (h : OkV v) : ActsOk v.Actions:=⟨by have:=h.acts;omega,fun a ha=>by
 obtain ⟨h1,_,h2⟩:=acF_each h.acf a ha
 have:=wtL_le (n:=1000) (fun x hx=>chE_wt (h2 x hx))
 have : 1000 * a.Args.length ≤ 1000 * 100:=Nat.mul_le_mul_left _ h1
 omega⟩
mutual
def View.vh : View → Prop
 | ⟨k,key,las,cs,kids⟩=>OkV ⟨k,key,las,cs,kids⟩ ∧ View.vhL kids
def View.vhL : List View → Prop
 | []=>True
 | x :: r=>View.vh x ∧ View.vhL r
end
theorem View.vhL_eq : ∀ l,View.vhL l ↔ ∀ a ∈ l,View.vh a
 | []=>by unfold View.vhL;simp
 | x :: r=>by unfold View.vhL;rw [View.vhL_eq r];simp
theorem View.vh_eq (v : View) : View.vh v ↔ OkV v ∧ ∀ a ∈ v.Kids,View.vh a:=by
 cases v
 conv=>lhs;unfold View.vh
 rw [View.vhL_eq]
mutual
def View.cnt : View → Nat
 | ⟨_,_,_,_,kids⟩=>1 + View.cntL kids
def View.cntL : List View → Nat
 | []=>0
 | x :: r=>View.cnt x + View.cntL r
end
theorem View.cnt_eq (v : View) : v.cnt = 1 + View.cntL v.Kids:=by cases v;conv=>lhs;unfold View.cnt
theorem View.cntL_cons (x : View) (r : List View) : View.cntL (x :: r) = x.cnt + View.cntL r:=by conv=>lhs;unfold View.cntL
theorem View.cntL_nil : View.cntL [] = 0:=by unfold View.cntL;rfl
theorem View.cntL_app : ∀ (l m : List View),View.cntL (l ++ m) = View.cntL l + View.cntL m
 | [],m=>by rw [List.nil_append,View.cntL_nil];omega
 | a :: r,m=>by rw [List.cons_append,View.cntL_cons,View.cntL_cons,View.cntL_app r m];omega
theorem val_all : ∀ (f : Nat) (v : View) (d m : Int),1 ≤ d → 18 ≤ (f : Int) + d → d ≤ 17 → m ≤ 400 → (valF f v d m).1 = 0 → v.vh ∧ (v.dp : Int) ≤ 17 - d ∧ (valF f v d m).2 = m + v.cnt ∧ (valF f v d m).2 ≤ 400
 | 0,_,_,_,_,h,h',_,_=>by omega
 | f + 1,v,d,m,hd,hf,h17,hm,h=>by
  obtain ⟨h1,h2,h3,h4⟩:=val_parts h
  have key : ∀ k m',m' ≤ 400 → (valF f k (d + 1) m').1 = 0 → k.vh ∧ (k.dp : Int) ≤ 17 - (d + 1) ∧ (valF f k (d + 1) m').2 = m' + k.cnt ∧ (valF f k (d + 1) m').2 ≤ 400:=fun k m' hm' h'=>val_all f k (d + 1) m' (by omega) (by omega) (by omega) hm' h'
  have hkids : ∀ (l : List View) (m' : Int),m' ≤ 400 → (kdF (fun k m=>valF f k (d + 1) m) l m').1 = 0 → (∀ k ∈ l,k.vh ∧ (k.dp : Int) ≤ 17 - (d + 1)) ∧ (kdF (fun k m=>valF f k (d + 1) m) l m').2 = m' + View.cntL l ∧ (kdF (fun k m=>valF f k (d + 1) m) l m').2 ≤ 400:=by
   intro l
   induction l with
   | nil=>intro m' hm' _;exact ⟨fun k hk=>(by cases hk),(by rw [View.cntL_nil];show m' = m' + ((0 : Nat) : Int);omega),hm'⟩
   | cons x r ih =>
    intro m' hm' hk
    rw [kdF_cons] at hk ⊢
    by_cases c : (valF f x (d + 1) m').1 = 0
    ·rw [if_neg (by simp [c])] at hk ⊢
     obtain ⟨k1,k2,k3,k4⟩:=key x m' hm' c
     obtain ⟨i1,i2,i3⟩:=ih _ k4 hk
     refine ⟨fun k hk'=>?_,by rw [i2,k3,View.cntL_cons];omega,i3⟩
     rcases List.mem_cons.1 hk' with e | e
     ·subst e;exact ⟨k1,k2⟩
     ·exact i1 k e
    ·rw [if_pos c] at hk;exact absurd hk c
  obtain ⟨i1,i2,i3⟩:=hkids v.Kids (m + 1) h2 h4
  have e : valF (f + 1) v d m = kdF (fun k m=>valF f k (d + 1) m) v.Kids (m + 1):=by
   show valB _ v d m = _
   unfold valB
   rw [if_neg (by omega),if_neg (by omega),if_neg (by have:=h3.kind;omega),if_neg (by rw [h3.key];exact Bool.noConfusion),if_neg (by have:=h3.atts;have:=h3.acts;have:=h3.kids;omega),if_neg (by simp [h3.atf]),if_neg (by simp [h3.acf]),if_neg (by rw [h3.dup];exact Bool.noConfusion)]
  rw [e,i2,View.cnt_eq,View.dp_eq]
  rw [i2] at i3
  have hdl : (View.dpL v.Kids : Int) ≤ 16 - d:=by
   have:=View.dpL_le (l:=v.Kids) (n:=(16 - d).toNat) (fun x hx=>by have:=(i1 x hx).2;omega)
   omega
  exact ⟨(View.vh_eq v).2 ⟨h3,fun a ha=>(i1 a ha).1⟩,by omega,by omega,i3⟩
theorem vh_bd : ∀ (n : Nat) (v : View),v.dp ≤ n → v.vh → v.bd
 | 0,v,h,_=>by rw [View.dp_eq] at h;omega
 | n + 1,v,h,hv=>by
  rw [View.dp_eq] at h
  rw [View.vh_eq] at hv
  rw [View.bd_eq]
  exact ⟨hv.1.attsOk,hv.1.actsOk,by have:=hv.1.kids;omega,fun a ha=>vh_bd n a (by have:=View.dpL_mem ha;omega) (hv.2 a ha)⟩
theorem vh_sm : ∀ (n : Nat) (v : View),v.dp ≤ n → v.vh → v.sm
 | 0,v,h,_=>by rw [View.dp_eq] at h;omega
 | n + 1,v,h,hv=>by
  rw [View.dp_eq] at h
  rw [View.vh_eq] at hv
  rw [View.sm_eq]
  exact ⟨by have:=(of_decide_eq_true hv.1.key).1;unfold N0;omega,fun a ha=>vh_sm n a (by have:=View.dpL_mem ha;omega) (hv.2 a ha)⟩
structure Vld (v : View) : Prop where
 vh : v.vh
 dp : v.dp ≤ 16
 cnt : v.cnt ≤ 400
 bd : v.bd
 sm : v.sm
theorem valid_all {v : View} (h : errV v = 0) : Vld v:=by
 obtain ⟨h1,h2,h3,h4⟩:=val_all 17 v 1 0 (by omega) (by omega) (by omega) (by omega) h
 exact ⟨h1,by omega,by omega,vh_bd _ v (Nat.le_refl _) h1,vh_sm _ v (Nat.le_refl _) h1⟩
end Go.Proofs.YtcfegecdlbbeaaaGreatDoor
end
section
namespace Go.Proofs.YtcfegecdlbbeaaaGreatDoor
open Go Go.E2
mutual
def bN : View → Int → Int → List Node
 | ⟨k,key,las,cs,kids⟩,p,x=>Node.mk x p k key las cs (kidIds kids (x + 1)) :: bL kids x (x + 1)
def bL : List View → Int → Int → List Node
 | [],_,_=>[]
 | v :: r,p,x=>bN v p x ++ bL r p (x + v.cnt)
def kidIds : List View → Int → List Int
 | [],_=>[]
 | v :: r,x=>x :: kidIds r (x + v.cnt)
end
theorem bN_eq (v : View) (p x : Int) : bN v p x = Node.mk x p v.Kind v.Key v.Attrs v.Actions (kidIds v.Kids (x + 1)) :: bL v.Kids x (x + 1):=by
 cases v
 conv=>lhs;unfold bN
theorem bL_nil (p x : Int) : bL [] p x = []:=by unfold bL;rfl
theorem bL_cons (v : View) (r : List View) (p x : Int) : bL (v :: r) p x = bN v p x ++ bL r p (x + v.cnt):=by conv=>lhs;unfold bL
theorem kidIds_nil (x : Int) : kidIds [] x = []:=by unfold kidIds;rfl
theorem kidIds_cons (v : View) (r : List View) (x : Int) : kidIds (v :: r) x = x :: kidIds r (x + v.cnt):=by conv=>lhs;unfold kidIds
theorem bL_app : ∀ (l m : List View) (p x : Int),bL (l ++ m) p x = bL l p x ++ bL m p (x + View.cntL l)
 | [],m,p,x=>by rw [List.nil_append,bL_nil,View.cntL_nil,List.nil_append];congr 1;omega
 | v :: l,m,p,x=>by
  rw [List.cons_append,bL_cons,bL_cons,bL_app l m,View.cntL_cons,List.append_assoc]
  congr 3;omega
theorem kidIds_app : ∀ (l m : List View) (x : Int),kidIds (l ++ m) x = kidIds l x ++ kidIds m (x + View.cntL l)
 | [],m,x=>by rw [List.nil_append,kidIds_nil,View.cntL_nil,List.nil_append];congr 1;omega
 | v :: l,m,x=>by
  rw [List.cons_append,kidIds_cons,kidIds_cons,kidIds_app l m,View.cntL_cons,List.cons_append]
  congr 3;omega
theorem cnt_pos (v : View) : 1 ≤ v.cnt:=by rw [View.cnt_eq];omega
theorem cntL_len : ∀ l : List View,l.length ≤ View.cntL l
 | []=>Nat.zero_le _
 | v :: r=>by
  rw [View.cntL_cons,List.length_cons]
  have:=cntL_len r
  have:=cnt_pos v
  omega
theorem cntL_mem : ∀ {l : List View} {v : View},v ∈ l → v.cnt ≤ View.cntL l
 | w :: r,v,h=>by
  rw [View.cntL_cons]
  rcases List.mem_cons.1 h with e | e
  ·subst e;omega
  ·have:=cntL_mem e;omega
theorem kidIds_len : ∀ (l : List View) (x : Int),(kidIds l x).length = l.length
 | [],_=>by rw [kidIds_nil];rfl
 | v :: r,x=>by rw [kidIds_cons,List.length_cons,List.length_cons,kidIds_len r]
theorem View.ind {P : View → Prop} (h : ∀ v : View,(∀ k ∈ v.Kids,P k) → P v) : ∀ (n : Nat) (v : View),v.dp ≤ n → P v
 | 0,v,hd=>by rw [View.dp_eq] at hd;omega
 | n + 1,v,hd=>by
  rw [View.dp_eq] at hd
  exact h v (fun k hk=>View.ind h n k (by have:=View.dpL_mem hk;omega))
theorem View.all {P : View → Prop} (h : ∀ v : View,(∀ k ∈ v.Kids,P k) → P v) (v : View) : P v:=View.ind h _ v (Nat.le_refl _)
theorem bL_len' : ∀ (l : List View) (p x : Int),(∀ v ∈ l,∀ p x,(bN v p x).length = v.cnt) → (bL l p x).length = View.cntL l
 | [],p,x,_=>by rw [bL_nil,View.cntL_nil];rfl
 | v :: r,p,x,h=>by rw [bL_cons,List.length_append,View.cntL_cons,h v (by simp),bL_len' r _ _ (fun w hw=>h w (by simp [hw]))]
theorem bN_len : ∀ (v : View) (p x : Int),(bN v p x).length = v.cnt:=View.all (fun v ih p x=>by
 rw [bN_eq,List.length_cons,bL_len' _ _ _ ih,View.cnt_eq];omega)
theorem bL_len (l : List View) (p x : Int) : (bL l p x).length = View.cntL l:=bL_len' l p x (fun v _=>bN_len v)
theorem cnt_split {l : List View} {i : Nat} {x : View} (h : l[i]? = some x) : View.cntL (l.take i) + x.cnt + View.cntL (l.drop (i + 1)) = View.cntL l:=by
 have e : l = l.take i ++ x :: l.drop (i + 1):=by rw [← drop_cons' h,List.take_append_drop]
 conv=>rhs;rw [e]
 rw [View.cntL_app,View.cntL_cons];omega
theorem set_mid {α : Type} (a : List α) (x y : α) (b : List α) : (a ++ x :: b).set a.length y = a ++ y :: b:=by
 rw [List.set_append_right _ _ (Nat.le_refl _),Nat.sub_self];rfl
theorem bloop {v : View} {t : Tree} {R : Type} {B : (List Int × Int × Int × Int × List Node → Option R) → List Int × Int × Int × Int × List Node → Option R} (hc : v.Kids.length ≤ 100000) (p : Int) (k : List Int × Int × Int × List Node → Option R)
  (hB : ∀ again i x,v.Kids[i]? = some x → i < v.Kids.length → B again (kidIds (v.Kids.take i) (t.Next + 1),(i : Int),t.Root,t.Next + 1 + View.cntL (v.Kids.take i),t.Nodes ++ Node.mk t.Next p v.Kind v.Key v.Attrs v.Actions [] :: bL (v.Kids.take i) t.Next (t.Next + 1)) =
   again (kidIds (v.Kids.take i) (t.Next + 1) ++ [t.Next + 1 + View.cntL (v.Kids.take i)],((i + 1 : Nat) : Int),t.Root,t.Next + 1 + View.cntL (v.Kids.take i) + x.cnt,(t.Nodes ++ Node.mk t.Next p v.Kind v.Key v.Attrs v.Actions [] :: bL (v.Kids.take i) t.Next (t.Next + 1)) ++ bN x t.Next (t.Next + 1 + View.cntL (v.Kids.take i))))
  (he : ∀ again s,B again (s.1,(v.Kids.length : Int),s.2) = k s) :
  loopK B N0 (([] : List Int),0,t.Root,t.Next + 1,t.Nodes ++ [Node.mk t.Next p v.Kind v.Key v.Attrs v.Actions []]) = k (kidIds v.Kids (t.Next + 1),t.Root,t.Next + v.cnt,t.Nodes ++ Node.mk t.Next p v.Kind v.Key v.Attrs v.Actions [] :: bL v.Kids t.Next (t.Next + 1)):=by
 refine loopI (L:=v.Kids) (fun (s : List Int × Int × Int × List Node) i=>(s.1,(i : Int),s.2)) (fun i s=>s = (kidIds (v.Kids.take i) (t.Next + 1),t.Root,t.Next + 1 + View.cntL (v.Kids.take i),t.Nodes ++ Node.mk t.Next p v.Kind v.Key v.Attrs v.Actions [] :: bL (v.Kids.take i) t.Next (t.Next + 1))) (fun o=>o = k (kidIds v.Kids (t.Next + 1),t.Root,t.Next + v.cnt,t.Nodes ++ Node.mk t.Next p v.Kind v.Key v.Attrs v.Actions [] :: bL v.Kids t.Next (t.Next + 1))) (by unfold N0;omega) ?_ ?_ (([] : List Int),t.Root,t.Next + 1,t.Nodes ++ [Node.mk t.Next p v.Kind v.Key v.Attrs v.Actions []]) ?_
 ·intro again s i x hx hi hs
  subst hs
  refine .inr ⟨_,rfl,(hB again i x hx hi).trans ?_⟩
  rw [take_suc hx,kidIds_app,kidIds_cons,kidIds_nil,bL_app,bL_cons,bL_nil,View.cntL_app,View.cntL_cons,View.cntL_nil]
  have e : t.Next + 1 + ((View.cntL (v.Kids.take i) + (x.cnt + 0) : Nat) : Int) = t.Next + 1 + (View.cntL (v.Kids.take i)) + x.cnt:=by omega
  rw [e]
  simp only [List.append_nil,List.append_assoc,List.cons_append]
 ·intro again s hs
  rw [List.take_length] at hs
  have e : t.Next + 1 + (View.cntL v.Kids : Int) = t.Next + v.cnt:=by rw [View.cnt_eq];omega
  rw [he,hs,e]
 ·have e : t.Next + 1 + ((0 : Nat) : Int) = t.Next + 1:=by omega
  rw [List.take_zero,kidIds_nil,bL_nil,View.cntL_nil,e]
theorem rbuild_ok : ∀ (n : Nat) (v : View) (p : Int) (t : Tree),v.dp ≤ n → t.Nodes.length + v.cnt ≤ 100000 → 0 ≤ t.Next → t.Next + v.cnt ≤ 2000000000000 →
  r14_build n v p t = some ⟨t.Root,t.Next + v.cnt,t.Nodes ++ bN v p t.Next⟩
 | 0,v,p,t,h,_,_,_=>by rw [View.dp_eq] at h;omega
 | n + 1,v,p,t,h,hc,h0,h1=>by
  rw [View.dp_eq] at h
  have hcv:=View.cnt_eq v
  have hk:=cntL_len v.Kids
  show r14_build_B (r14_build n) v p t = _
  unfold r14_build_B
  rw [appO_eq (by simp;omega),bind_some',jn_eq,wrap_id (by omega) (by omega)]
  rw [bloop (v:=v) (t:=t) (by omega) p (fun (s2 : (List Int) × Int × Int × (List Node))=>(ixO s2.2.2.2.length (t.Nodes.length : Int)).bind fun x4=>(s2.2.2.2[x4]?).bind fun x5=>some (Tree.mk s2.2.1 s2.2.2.1 (List.set s2.2.2.2 x4 (Node.mk x5.ID x5.Parent x5.Kind x5.Key x5.Attrs x5.Actions s2.1)))) ?_ ?_]
  ·simp only
   rw [ixO_nat (by simp),bind_some',List.getElem?_append_right (Nat.le_refl _),Nat.sub_self,List.getElem?_cons_zero,bind_some',set_mid,bN_eq]
  ·intro again i x hx hi
   have ht:=cnt_split hx
   have hd:=View.dpL_mem (List.mem_of_getElem? hx)
   have hxc:=cnt_pos x
   unfold r14_build_L1
   simp only [nz_lt hi,selT',idxO_nat,hx,bindN]
   rw [appO_eq (by rw [kidIds_len];simp;omega),bind_some',rbuild_ok n x t.Next _ (by omega) (by show (_ ++ _ :: _).length + _ ≤ _;rw [List.length_append,List.length_cons,bL_len];omega) (by show 0 ≤ t.Next + 1 + _;omega) (by show t.Next + 1 + _ + _ ≤ _;omega),bind_some',wrap_suc hi (by unfold N0;omega)]
  ·intro again s
   unfold r14_build_L1
   simp only [nz_ge (Nat.le_refl _),selF']
theorem vbuild_ok : ∀ (n : Nat) (v : View) (p : Int) (t : Tree),v.dp ≤ n → v.bd → t.Nodes.length + v.cnt ≤ 100000 → 0 ≤ t.Next → t.Next + v.cnt ≤ 2000000000000 →
  vw_Build_1 n v p t = some (t.Next,⟨t.Root,t.Next + v.cnt,t.Nodes ++ bN v p t.Next⟩)
 | 0,v,p,t,h,_,_,_,_=>by rw [View.dp_eq] at h;omega
 | n + 1,v,p,t,h,hb,hc,h0,h1=>by
  rw [View.dp_eq] at h
  rw [View.bd_eq] at hb
  have hcv:=View.cnt_eq v
  have hk:=cntL_len v.Kids
  show vw_Build_1_B (vw_Build_1 n) v p t = _
  unfold vw_Build_1_B
  rw [copied_ok hb.1 hb.2.1,bind_some',appO_eq (by simp;omega),bind_some',jn_eq,wrap_id (by omega) (by omega)]
  rw [bloop (v:=v) (t:=t) (by omega) p (fun (s3 : (List Int) × Int × Int × (List Node))=>(ixO s3.2.2.2.length (t.Nodes.length : Int)).bind fun x5=>(s3.2.2.2[x5]?).bind fun x6=>some (t.Next,(Tree.mk s3.2.1 s3.2.2.1 (List.set s3.2.2.2 x5 (Node.mk x6.ID x6.Parent x6.Kind x6.Key x6.Attrs x6.Actions s3.1))))) ?_ ?_]
  ·simp only
   rw [ixO_nat (by simp),bind_some',List.getElem?_append_right (Nat.le_refl _),Nat.sub_self,List.getElem?_cons_zero,bind_some',set_mid,bN_eq]
  ·intro again i x hx hi
   have ht:=cnt_split hx
   have hm:=List.mem_of_getElem? hx
   have hd:=View.dpL_mem hm
   have hxc:=cnt_pos x
   unfold vw_Build_1_L1
   simp only [nz_lt hi,selT',idxO_nat,hx,bindN]
   rw [vbuild_ok n x t.Next _ (by omega) (hb.2.2.2 x hm) (by show (_ ++ _ :: _).length + _ ≤ _;rw [List.length_append,List.length_cons,bL_len];omega) (by show 0 ≤ t.Next + 1 + _;omega) (by show t.Next + 1 + _ + _ ≤ _;omega),bind_some',appO_eq (by rw [kidIds_len];simp;omega),bind_some',wrap_suc hi (by unfold N0;omega)]
  ·intro again s
   unfold vw_Build_1_L1
   simp only [nz_ge (Nat.le_refl _),selF']
def trB (v : View) (next : Int) : Tree:=⟨next,next + v.cnt,bN v 0 next⟩
def zT : Tree:=Tree.mk 0 0 ([] : List Node)
theorem Build_ok {v : View} (hv : v.sm) (next : Int) : ∃ t e,vw_Build v next = some (t,e) ∧ r14_Build v next = some (t,e) ∧ ((errV v = 0 ∧ 1 ≤ next ∧ next ≤ 1099511627376 ∧ t = trB v next ∧ e = 0) ∨ (t = zT ∧ e ≠ 0 ∧ ¬ (errV v = 0 ∧ 1 ≤ next ∧ next ≤ 1099511627376))):=by
 unfold vw_Build r14_Build
 rw [Validate_ok hv,rValidate_ok hv,bind_some',bind_some']
 by_cases c1 : errV v = 0
 ·rw [show (errV v != 0) = false by simp [c1],sel_false,sel_false]
  have vv:=valid_all c1
  by_cases c2 : 1 ≤ next ∧ next ≤ 1099511627376
  ·rw [show ((decide (next < 1)) || (decide (next > 1099511627376))) = false by simp;omega,sel_false,sel_false]
   have hdp:=vv.dp
   have hcnt:=vv.cnt
   rw [rbuild_ok N0 v 0 ⟨next,next,[]⟩ (by unfold N0;omega) (by show 0 + _ ≤ _;omega) (by show 0 ≤ next;omega) (by show next + _ ≤ _;omega),vbuild_ok N0 v 0 ⟨next,next,[]⟩ (by unfold N0;omega) vv.bd (by show 0 + _ ≤ _;omega) (by show 0 ≤ next;omega) (by show next + _ ≤ _;omega)]
   exact ⟨trB v next,0,rfl,rfl,.inl ⟨c1,c2.1,c2.2,rfl,rfl⟩⟩
  ·rw [show ((decide (next < 1)) || (decide (next > 1099511627376))) = true by simp only [Bool.or_eq_true,decide_eq_true_eq];omega]
   exact ⟨zT,1,rfl,rfl,.inr ⟨rfl,by omega,fun h=>c2 h.2⟩⟩
 ·rw [show (errV v != 0) = true by simp [c1]]
  exact ⟨zT,errV v,rfl,rfl,.inr ⟨rfl,c1,fun h=>c1 h.1⟩⟩
end Go.Proofs.YtcfegecdlbbeaaaGreatDoor
end
section
namespace Go.Proofs.YtcfegecdlbbeaaaGreatDoor
open Go Go.E2
def run (x : Int) : Nat → List Int
 | 0=>[]
 | n + 1=>x :: run (x + 1) n
theorem run_app (x : Int) : ∀ (m n : Nat),run x (m + n) = run x m ++ run (x + m) n
 | 0,n=>by rw [Nat.zero_add];show run x n = [] ++ run (x + ((0 : Nat) : Int)) n;rw [List.nil_append];congr 1;omega
 | m + 1,n=>by
  rw [show m + 1 + n = (m + n) + 1 by omega]
  show x :: run (x + 1) (m + n) = x :: (run (x + 1) m ++ run (x + ((m + 1 : Nat) : Int)) n)
  rw [run_app (x + 1) m n]
  congr 3
  omega
theorem run_get : ∀ (n i : Nat) (x : Int),i < n → (run x n)[i]? = some (x + i)
 | 0,i,x,h=>by omega
 | n + 1,0,x,h=>by show some x = some (x + ((0 : Nat) : Int));congr 1;omega
 | n + 1,i + 1,x,h=>by
  show (run (x + 1) n)[i]? = _
  rw [run_get n i (x + 1) (by omega)]
  congr 1;omega
theorem run_mem : ∀ (n : Nat) (x y : Int),y ∈ run x n → x ≤ y ∧ y < x + n
 | 0,_,_,h=>by cases h
 | n + 1,x,y,h=>by
  rcases List.mem_cons.1 h with e | e
  ·subst e;omega
  ·have:=run_mem n (x + 1) y e;omega
theorem run_nodup : ∀ (n : Nat) (x : Int),(run x n).Nodup
 | 0,_=>List.nodup_nil
 | n + 1,x=>List.nodup_cons.2 ⟨fun h=>by have:=run_mem n (x + 1) x h;omega,run_nodup n (x + 1)⟩
theorem run_len : ∀ (n : Nat) (x : Int),(run x n).length = n
 | 0,_=>rfl
 | n + 1,x=>by show (run (x + 1) n).length + 1 = n + 1;rw [run_len n]
theorem ids_app (l m : List Node) : ids (l ++ m) = ids l ++ ids m:=List.map_append
theorem bL_ids' : ∀ (l : List View) (p x : Int),(∀ v ∈ l,∀ p x,ids (bN v p x) = run x v.cnt) → ids (bL l p x) = run x (View.cntL l)
 | [],p,x,_=>by rw [bL_nil,View.cntL_nil];rfl
 | v :: r,p,x,h=>by rw [bL_cons,ids_app,View.cntL_cons,h v (by simp),bL_ids' r _ _ (fun w hw=>h w (by simp [hw])),← run_app]
theorem bN_ids : ∀ (v : View) (p x : Int),ids (bN v p x) = run x v.cnt:=View.all (fun v ih p x=>by
 rw [bN_eq,View.cnt_eq,show 1 + View.cntL v.Kids = View.cntL v.Kids + 1 by omega]
 show x :: ids (bL v.Kids x (x + 1)) = x :: run (x + 1) _
 rw [bL_ids' _ _ _ ih])
theorem bL_ids (l : List View) (p x : Int) : ids (bL l p x) = run x (View.cntL l):=bL_ids' l p x (fun v _=>bN_ids v)
theorem kidIds_run : ∀ (l : List View) (x y : Int),y ∈ kidIds l x → x ≤ y ∧ y < x + View.cntL l
 | [],_,_,h=>by rw [kidIds_nil] at h;cases h
 | v :: r,x,y,h=>by
  rw [kidIds_cons] at h
  rw [View.cntL_cons]
  have:=cnt_pos v
  rcases List.mem_cons.1 h with e | e
  ·subst e;omega
  ·have:=kidIds_run r _ y e;omega
theorem kidIds_nodup : ∀ (l : List View) (x : Int),(kidIds l x).Nodup
 | [],_=>by rw [kidIds_nil];exact List.nodup_nil
 | v :: r,x=>by
  rw [kidIds_cons]
  have:=cnt_pos v
  exact List.nodup_cons.2 ⟨fun h=>by have:=kidIds_run r _ x h;omega,kidIds_nodup r _⟩
theorem kid_in : ∀ (l : List View) (p x k : Int),k ∈ kidIds l x → ∃ m ∈ bL l p x,m.ID = k ∧ m.Parent = p
 | [],_,_,_,h=>by rw [kidIds_nil] at h;cases h
 | v :: r,p,x,k,h=>by
  rw [kidIds_cons] at h
  rw [bL_cons]
  rcases List.mem_cons.1 h with e | e
  ·subst e
   exact ⟨_,List.mem_append_left _ (by rw [bN_eq];exact List.mem_cons_self),rfl,rfl⟩
  ·obtain ⟨m,h1,h2⟩:=kid_in r p _ k e
   exact ⟨m,List.mem_append_right _ h1,h2⟩
theorem bL_kid' : ∀ (l : List View) (p x : Int),(∀ v ∈ l,∀ p x,∀ n ∈ bN v p x,(∀ k ∈ n.Kids,∃ m ∈ bN v p x,m.ID = k ∧ m.Parent = n.ID) ∧ n.Kids.Nodup) → ∀ n ∈ bL l p x,(∀ k ∈ n.Kids,∃ m ∈ bL l p x,m.ID = k ∧ m.Parent = n.ID) ∧ n.Kids.Nodup
 | [],p,x,_,n,hn=>by rw [bL_nil] at hn;cases hn
 | v :: r,p,x,h,n,hn=>by
  rw [bL_cons] at hn ⊢
  rcases List.mem_append.1 hn with e | e
  ·obtain ⟨h1,h2⟩:=h v (by simp) p x n e
   exact ⟨fun k hk=>by obtain ⟨m,m1,m2⟩:=h1 k hk;exact ⟨m,List.mem_append_left _ m1,m2⟩,h2⟩
  ·obtain ⟨h1,h2⟩:=bL_kid' r p _ (fun w hw=>h w (by simp [hw])) n e
   exact ⟨fun k hk=>by obtain ⟨m,m1,m2⟩:=h1 k hk;exact ⟨m,List.mem_append_right _ m1,m2⟩,h2⟩
theorem bN_kid : ∀ (v : View) (p x : Int),∀ n ∈ bN v p x,(∀ k ∈ n.Kids,∃ m ∈ bN v p x,m.ID = k ∧ m.Parent = n.ID) ∧ n.Kids.Nodup:=View.all (fun v ih p x n hn=>by
 rw [bN_eq] at hn ⊢
 rcases List.mem_cons.1 hn with e | e
 ·subst e
  exact ⟨fun k hk=>by obtain ⟨m,m1,m2⟩:=kid_in _ x _ k hk;exact ⟨m,List.mem_cons_of_mem _ m1,m2⟩,kidIds_nodup _ _⟩
 ·obtain ⟨h1,h2⟩:=bL_kid' v.Kids x (x + 1) ih n e
  exact ⟨fun k hk=>by obtain ⟨m,m1,m2⟩:=h1 k hk;exact ⟨m,List.mem_cons_of_mem _ m1,m2⟩,h2⟩)
theorem bL_tot' : ∀ (l : List View) (p x : Int),(∀ v ∈ l,∀ p x,((bN v p x).flatMap (·.Kids)).length + 1 = v.cnt) → ((bL l p x).flatMap (·.Kids)).length + l.length = View.cntL l
 | [],p,x,_=>by rw [bL_nil,View.cntL_nil];rfl
 | v :: r,p,x,h=>by
  have h1:=h v (by simp) p x
  have h2:=bL_tot' r p (x + v.cnt) (fun w hw=>h w (by simp [hw]))
  rw [bL_cons,List.flatMap_append,List.length_append,List.length_cons,View.cntL_cons]
  omega
theorem bN_tot : ∀ (v : View) (p x : Int),((bN v p x).flatMap (·.Kids)).length + 1 = v.cnt:=View.all (fun v ih p x=>by
 have h:=bL_tot' v.Kids x (x + 1) ih
 rw [bN_eq,List.flatMap_cons,List.length_append,View.cnt_eq]
 show (kidIds v.Kids (x + 1)).length + _ + 1 = _
 rw [kidIds_len];omega)
theorem bL_par' : ∀ (l : List View) (p x : Int),(∀ v ∈ l,∀ p x,∀ n ∈ bN v p x,n.Parent = p ∨ x ≤ n.Parent) → ∀ n ∈ bL l p x,n.Parent = p ∨ x ≤ n.Parent
 | [],p,x,_,n,hn=>by rw [bL_nil] at hn;cases hn
 | v :: r,p,x,h,n,hn=>by
  rw [bL_cons] at hn
  rcases List.mem_append.1 hn with e | e
  ·exact h v (by simp) p x n e
  ·rcases bL_par' r p _ (fun w hw=>h w (by simp [hw])) n e with h1 | h1
   ·exact .inl h1
   ·exact .inr (by omega)
theorem bN_par : ∀ (v : View) (p x : Int),∀ n ∈ bN v p x,n.Parent = p ∨ x ≤ n.Parent:=View.all (fun v ih p x n hn=>by
 rw [bN_eq] at hn
 rcases List.mem_cons.1 hn with e | e
 ·subst e;exact .inl rfl
 ·rcases bL_par' v.Kids x (x + 1) ih n e with h1 | h1
  ·exact .inr (by omega)
  ·exact .inr (by omega))
theorem bL_dsc {L : List Node} {g : Int → View} : ∀ (l : List View) (p x : Int),(∀ v ∈ l,∀ p x,(∀ n ∈ bN v p x,n ∈ L) → g x = v) → (∀ n ∈ bL l p x,n ∈ L) → (kidIds l x).map g = l
 | [],p,x,_,_=>by rw [kidIds_nil];rfl
 | v :: r,p,x,h,hL=>by
  rw [bL_cons] at hL
  rw [kidIds_cons,List.map_cons,h v (by simp) p x (fun n hn=>hL n (List.mem_append_left _ hn)),bL_dsc r p _ (fun w hw=>h w (by simp [hw])) (fun n hn=>hL n (List.mem_append_right _ hn))]
theorem bN_dsc {L : List Node} (hu : (ids L).Nodup) : ∀ (f : Nat) (v : View) (p x : Int),v.dp ≤ f → (∀ n ∈ bN v p x,n ∈ L) → dsc L f x = v
 | 0,v,_,_,h,_=>by rw [View.dp_eq] at h;omega
 | f + 1,v,p,x,h,hL=>by
  rw [View.dp_eq] at h
  rw [bN_eq] at hL
  have h0:=hL _ List.mem_cons_self
  have hx : nd L x = Node.mk x p v.Kind v.Key v.Attrs v.Actions (kidIds v.Kids (x + 1)):=nd_look (look_of hu h0)
  unfold dsc
  rw [hx]
  have:=bL_dsc (g:=dsc L f) v.Kids x (x + 1) (fun w hw p y hy=>bN_dsc hu f w p y (by have:=View.dpL_mem hw;omega) hy) (fun n hn=>hL n (List.mem_cons_of_mem _ hn))
  rw [this]
  cases v;rfl
theorem bL_pre {L : List Node} {g : Int → List Int} : ∀ (l : List View) (p x : Int),(∀ v ∈ l,∀ p x,(∀ n ∈ bN v p x,n ∈ L) → g x = run x v.cnt) → (∀ n ∈ bL l p x,n ∈ L) → (kidIds l x).flatMap g = run x (View.cntL l)
 | [],p,x,_,_=>by rw [kidIds_nil,View.cntL_nil];rfl
 | v :: r,p,x,h,hL=>by
  rw [bL_cons] at hL
  rw [kidIds_cons,List.flatMap_cons,h v (by simp) p x (fun n hn=>hL n (List.mem_append_left _ hn)),bL_pre r p _ (fun w hw=>h w (by simp [hw])) (fun n hn=>hL n (List.mem_append_right _ hn)),View.cntL_cons,run_app]
theorem bN_pre {L : List Node} (hu : (ids L).Nodup) : ∀ (f : Nat) (v : View) (p x : Int),v.dp ≤ f → (∀ n ∈ bN v p x,n ∈ L) → pre L f x = run x v.cnt
 | 0,v,_,_,h,_=>by rw [View.dp_eq] at h;omega
 | f + 1,v,p,x,h,hL=>by
  rw [View.dp_eq] at h
  rw [bN_eq] at hL
  have h0:=hL _ List.mem_cons_self
  have hx : nd L x = Node.mk x p v.Kind v.Key v.Attrs v.Actions (kidIds v.Kids (x + 1)):=nd_look (look_of hu h0)
  unfold pre
  rw [hx]
  have:=bL_pre (g:=pre L f) v.Kids x (x + 1) (fun w hw p y hy=>bN_pre hu f w p y (by have:=View.dpL_mem hw;omega) hy) (fun n hn=>hL n (List.mem_cons_of_mem _ hn))
  show x :: (kidIds v.Kids (x + 1)).flatMap (pre L f) = _
  rw [this,View.cnt_eq,show 1 + View.cntL v.Kids = View.cntL v.Kids + 1 by omega]
  rfl
theorem dp_cnt : ∀ v : View,v.dp ≤ v.cnt:=View.all (fun v ih=>by
 rw [View.dp_eq,View.cnt_eq]
 have : View.dpL v.Kids ≤ View.cntL v.Kids:=View.dpL_le (fun k hk=>by have:=ih k hk;have:=cntL_mem hk;omega)
 omega)
theorem built_shape {v : View} (hv : errV v = 0) {next : Int} (h1 : 1 ≤ next) (h2 : next ≤ 1099511627376) : Shp (trB v next) ∧ dscT (trB v next) = v:=by
 have vv:=valid_all hv
 have hc:=vv.cnt
 have hcp:=cnt_pos v
 have hlen : (trB v next).Nodes.length = v.cnt:=bN_len v 0 next
 have hids : ids (trB v next).Nodes = run next v.cnt:=bN_ids v 0 next
 have hu : (ids (trB v next).Nodes).Nodup:=by rw [hids];exact run_nodup _ _
 have hdp:=dp_cnt v
 have hall : ∀ n ∈ bN v 0 next,n ∈ (trB v next).Nodes:=fun n hn=>hn
 have hat : ∀ (i : Nat) (n : Node),(trB v next).Nodes[i]? = some n → i < v.cnt ∧ n.ID = next + i:=by
  intro i n hn
  have hi:=(List.getElem?_eq_some_iff.1 hn).1
  rw [hlen] at hi
  have e : (ids (trB v next).Nodes)[i]? = some n.ID:=by unfold ids;rw [List.getElem?_map,hn];rfl
  rw [hids,run_get _ _ _ hi] at e
  exact ⟨hi,(Option.some.inj e).symm⟩
 have hroot : bN v 0 next = Node.mk next 0 v.Kind v.Key v.Attrs v.Actions (kidIds v.Kids (next + 1)) :: bL v.Kids next (next + 1):=bN_eq v 0 next
 refine ⟨⟨⟨by show 2 ≤ next + v.cnt;omega,by show next + v.cnt ≤ _;omega,by rw [hlen];exact hcp,by rw [hlen];exact hc⟩,?_,?_,?_,?_,?_,?_,?_⟩,?_⟩
 ·intro i n hi hn
  obtain ⟨h3,h4⟩:=hat i n hn
  refine ⟨?_,by show n.ID < next + v.cnt;omega⟩
  unfold pvid
  by_cases c : i = 0
  ·rw [if_pos c];omega
  ·rw [if_neg c]
   have hm : (trB v next).Nodes[i - 1]? = some (trB v next).Nodes[i - 1]:=List.getElem?_eq_getElem (by omega)
   rw [hm]
   have:=(hat _ _ hm).2
   show (trB v next).Nodes[i - 1].ID < n.ID
   omega
 ·intro n hn
  show n.Parent = 0 ↔ n.ID = next
  have hn' : n ∈ bN v 0 next:=hn
  rw [hroot] at hn'
  rcases List.mem_cons.1 hn' with e | e
  ·subst e;exact ⟨fun _=>rfl,fun _=>rfl⟩
  ·have hp:=bL_par' v.Kids next (next + 1) (fun w _=>bN_par w) n e
   have hid : n.ID ∈ ids (bL v.Kids next (next + 1)):=List.mem_map.2 ⟨n,e,rfl⟩
   rw [bL_ids] at hid
   have:=run_mem _ _ _ hid
   constructor
   ·intro e0;omega
   ·intro e0;omega
 ·exact ⟨_,look_of hu (by show _ ∈ bN v 0 next;rw [hroot];exact List.mem_cons_self)⟩
 ·intro n hn k hk
  obtain ⟨m,m1,m2,m3⟩:=(bN_kid v 0 next n hn).1 k hk
  exact ⟨m,by rw [← m2];exact look_of hu m1,m3⟩
 ·intro n hn
  exact (bN_kid v 0 next n hn).2
 ·rw [hlen];exact bN_tot v 0 next
 ·show (pre (trB v next).Nodes (trB v next).Nodes.length next).length = _
  rw [bN_pre hu _ v 0 next (by rw [hlen];exact hdp) hall,run_len,hlen]
 ·exact bN_dsc hu _ v 0 next (by rw [hlen];exact hdp) hall
theorem bL_NB' : ∀ (l : List View) (p x : Int),(∀ v ∈ l,v.vh → ∀ p x,∀ n ∈ bN v p x,NB n) → (∀ v ∈ l,v.vh) → ∀ n ∈ bL l p x,NB n
 | [],p,x,_,_,n,hn=>by rw [bL_nil] at hn;cases hn
 | v :: r,p,x,h,hv,n,hn=>by
  rw [bL_cons] at hn
  rcases List.mem_append.1 hn with e | e
  ·exact h v (by simp) (hv v (by simp)) p x n e
  ·exact bL_NB' r p _ (fun w hw=>h w (by simp [hw])) (fun w hw=>hv w (by simp [hw])) n e
theorem bN_NB : ∀ (v : View),v.vh → ∀ p x,∀ n ∈ bN v p x,NB n:=View.all (fun v ih hv p x n hn=>by
 rw [View.vh_eq] at hv
 rw [bN_eq] at hn
 rcases List.mem_cons.1 hn with e | e
 ·subst e
  exact ⟨hv.1.attsOk,hv.1.actsOk,by show (kidIds _ _).length ≤ _;rw [kidIds_len];have:=hv.1.kids;omega,by show v.Key.size < N0;have:=(of_decide_eq_true hv.1.key).1;unfold N0;omega⟩
 ·exact bL_NB' v.Kids x (x + 1) ih hv.2 n e)
theorem built_TB {v : View} (hv : errV v = 0) (next : Int) : TB (trB v next):=fun n hn=>bN_NB v (valid_all hv).vh 0 next n hn
theorem built_ok {v : View} (hv : errV v = 0) {next : Int} (h1 : 1 ≤ next) (h2 : next ≤ 1099511627376) : vw_Check (trB v next) = some 0 ∧ vw_Describe (trB v next) = some (v,0):=by
 obtain ⟨hS,hD⟩:=built_shape hv h1 h2
 have hB:=built_TB hv next
 obtain ⟨e,e1,_,e3⟩:=tree_ok hB
 rcases examine_ok hB with ⟨hn,_,_⟩ | ⟨_,x1,_,_⟩
 ·exact absurd hS hn
 ·have he : vw_Check (trB v next) = some 0:=by
   unfold vw_Check
   rw [x1,bind_some',hD,hv]
  rw [he] at e1
  have e0 : e = 0:=(Option.some.inj e1).symm
  rcases e3 with ⟨_,_,_,_,d1,_⟩ | ⟨e4,_⟩
  ·exact ⟨he,by rw [d1,hD]⟩
  ·exact absurd e0 e4
end Go.Proofs.YtcfegecdlbbeaaaGreatDoor
end
section
namespace Go.Proofs.YtcfegecdlbbeaaaGreatDoor
open Go Go.E2
theorem find_ok {t : Tree} (h : TB t) (hl : t.Nodes.length < N0) (x : Int) : (∃ n,look t.Nodes x = some n ∧ vw_Find t x = some (n,true)) ∨ (look t.Nodes x = none ∧ vw_Find t x = some (zN,false)):=by
 unfold vw_Find
 rw [jn_eq]
 refine loopI (L:=t.Nodes) (fun (_ : Unit) i=>(i : Int)) (fun i _=>look t.Nodes x = look (t.Nodes.drop i) x) (fun r=>(∃ n,look t.Nodes x = some n ∧ r = some (n,true)) ∨ (look t.Nodes x = none ∧ r = some (zN,false))) hl ?_ ?_ () rfl
 ·intro again _ i n hn hi hp
  rw [drop_cons' hn] at hp
  have hp : look t.Nodes x = if x = n.ID then some n else look (t.Nodes.drop (i + 1)) x:=hp
  unfold vw_Find_L1
  rw [nz_lt hi,sel_true,idxO_nat,hn,bind_some',wrap_suc hi hl]
  by_cases c : x = n.ID
  ·rw [if_pos c] at hp
   obtain ⟨h1,h2,h3,_⟩:=h n (List.mem_of_getElem? hn)
   rw [show (n.ID != x) = false by simp [c],sel_false,copied_ok h1 h2,bind_some']
   unfold slices_Clone_Sl_int_int
   rw [appO_eq (by simp;omega),bind_some']
   exact .inl (.inl ⟨n,hp,by cases n;rfl⟩)
  ·rw [if_neg c] at hp
   rw [show (n.ID != x) = true by rw [bne_iff_ne];exact fun e=>c e.symm,sel_true]
   exact .inr ⟨(),hp,rfl⟩
 ·intro again _ hp
  rw [List.drop_length] at hp
  unfold vw_Find_L1
  rw [nz_ge (Nat.le_refl _),sel_false]
  exact .inr ⟨hp,rfl⟩
theorem ints_same (l : List Int) (h : l.length < N0) : r01_Equal l l = some true:=by
 unfold r01_Equal
 rw [show ((l.length : Int) != (l.length : Int)) = false by simp,sel_false,jn_eq]
 obtain ⟨d,e1,e2⟩:=eqLoop (a:=l) (b:=l) (B:=r01_Equal_L1 l l fun _=>some true) rfl h (fun again i x y hi hx hy=>by
  unfold r01_Equal_L1
  rw [nz_lt hi,sel_true,idxO_nat,hx,bind_some',wrap_suc hi h,bind_some']
  constructor
  ·intro e;simp
  ·intro e;rw [hx] at hy;exact absurd (Option.some.inj hy) e) (fun again=>by
  unfold r01_Equal_L1
  rw [nz_ge (Nat.le_refl _),sel_false])
 rw [e1,e2.2 rfl]
end Go.Proofs.YtcfegecdlbbeaaaGreatDoor
end
section
namespace Go.Proofs.YtcfegecdlbbeaaaGreatDoor
open Go Go.E2
structure Lcp (x y : List Int) (m : Nat) : Prop where
 lx : m ≤ x.length
 ly : m ≤ y.length
 eq : ∀ j,j < m → x[j]? = y[j]?
 ne : m < x.length → m < y.length → x[m]? ≠ y[m]?
structure Good (t : Tree) : Prop where
 tb : TB t
 shp : Shp t
 err : errV (dscT t) = 0
 chk : vw_Check t = some 0
theorem built_good {v : View} (hv : errV v = 0) {next : Int} (h1 : 1 ≤ next) (h2 : next ≤ 1099511627376) : Good (trB v next):=by
 obtain ⟨hS,hD⟩:=built_shape hv h1 h2
 exact ⟨built_TB hv next,hS,by rw [hD];exact hv,(built_ok hv h1 h2).1⟩
section
variable {t : Tree}
theorem Good.len (G : Good t) : t.Nodes.length ≤ 400:=G.shp.lim.2.2.2
theorem Good.valid (G : Good t) : vw_valid t = some (mpo t.Nodes,true):=by
 obtain ⟨e,h1,_,⟨_,_,_,h3,_⟩ | ⟨he,_⟩⟩:=tree_ok G.tb
 ·exact h3
 ·rw [G.chk] at h1
  exact absurd (Option.some.inj h1).symm he
end
end Go.Proofs.YtcfegecdlbbeaaaGreatDoor
end
section
namespace Go.E2
open Go
def Tt {α : Type} (Q : α → Prop) (o : Option α) : Prop:=∃ x,o = some x ∧ Q x
theorem Tt.pure {α : Type} {Q : α → Prop} {x : α} (h : Q x) : Tt Q (some x):=⟨x,rfl,h⟩
theorem Tt.bind {α β : Type} {P : α → Prop} {Q : β → Prop} {o : Option α} {k : α → Option β} (h : Tt P o) (hk : ∀ x,P x → Tt Q (k x)) : Tt Q (o.bind k):=by
 obtain ⟨x,rfl,hx⟩:=h
 exact hk x hx
theorem Tt.sel {α : Type} {Q : α → Prop} {c : Bool} {a b : Option α} (h1 : c = true → Tt Q a) (h2 : c = false → Tt Q b) : Tt Q (sel c a b):=by
 cases c with
 | true=>exact h1 rfl
 | false=>exact h2 rfl
theorem Tt.gO {α : Type} [Inhabited α] {Q : α → Prop} {c : Bool} {a : Option α} (h1 : c = true → Tt Q a) (h2 : c = false → Q default) : Tt Q (gO c a):=by
 cases c with
 | true=>exact h1 rfl
 | false=>exact ⟨default,rfl,h2 rfl⟩
theorem Tt.jn {S R : Type} {Q : R → Prop} {k : S → Option R} {b : (S → Option R) → Option R} (C : S → Prop) (hb : ∀ k' : S → Option R,(∀ x,C x → Tt Q (k' x)) → Tt Q (b k')) (hk : ∀ x,C x → Tt Q (k x)) : Tt Q (jn k b):=hb k hk
theorem Tt.mono {α : Type} {P Q : α → Prop} {o : Option α} (h : Tt P o) (hq : ∀ x,P x → Q x) : Tt Q o:=by
 obtain ⟨x,e,hx⟩:=h
 exact ⟨x,e,hq x hx⟩
theorem Tt.bind_id {α β : Type} {Q : β → Prop} {x : α} {k : α → Option β} (h : Tt Q (k x)) : Tt Q ((some x).bind k):=h
theorem Tt.loopN {σ R S : Type} {n : Nat} {B : (S → Option R) → S → Option R} {Q : R → Prop} (st : σ → Nat → S) (P : Nat → σ → Prop) (hn : n < N0)
  (hc : ∀ again s i,i < n → P i s → (∀ s',P (i + 1) s' → Tt Q (again (st s' (i + 1)))) → Tt Q (B again (st s i)))
  (he : ∀ again s,P n s → Tt Q (B again (st s n))) (s : σ) (h0 : P 0 s) : Tt Q (loopK B N0 (st s 0)):=by
 have key : ∀ (f i : Nat) (s : σ),i ≤ n → n - i < f → P i s → Tt Q (loopK B f (st s i)):=by
  intro f
  induction f with
  | zero=>intro i s _ h;exact absurd h (Nat.not_lt_zero _)
  | succ f ih =>
   intro i s hi hf hp
   show Tt Q (B (loopK B f) (st s i))
   rcases Nat.lt_or_ge i n with h | h
   ·exact hc _ s i h hp (fun s' h'=>ih (i + 1) s' (by omega) (by omega) h')
   ·obtain rfl : i = n:=by omega
    exact he _ s hp
 exact key N0 0 s (Nat.zero_le _) (by omega) h0
theorem Tt.loopM {R S : Type} {B : (S → Option R) → S → Option R} {Q : R → Prop} (μ : S → Nat) (P : S → Prop) (hc : ∀ again s,P s → (∀ s',P s' → μ s' < μ s → Tt Q (again s')) → Tt Q (B again s)) (s : S) (h0 : P s) (hn : μ s < N0) : Tt Q (loopK B N0 s):=by
 have key : ∀ (f : Nat) (s : S),μ s < f → P s → Tt Q (loopK B f s):=by
  intro f
  induction f with
  | zero=>intro s h;exact absurd h (Nat.not_lt_zero _)
  | succ f ih =>
   intro s hf hp
   show Tt Q (B (loopK B f) s)
   exact hc _ s hp (fun s' h' hm=>ih s' (by omega) h')
 exact key N0 s hn h0
theorem app_t {α : Type} {L X : List α} (h : L.length + X.length ≤ 1073741824) : Tt (fun r=>r = L ++ X) (appO L X):=⟨_,appO_eq h,rfl⟩
theorem idx_t {α : Type} {L : List α} {r : Int} (h0 : 0 ≤ r) (h1 : r < L.length) : Tt (fun x=>x ∈ L ∧ idxO L r = some x) (idxO L r):=by
 obtain ⟨x,h,hm⟩:=idxO_ok h0 h1
 exact ⟨x,h,hm,h⟩
theorem cat_t {s u : Str} (h : s.size + u.size ≤ 1000000) : Tt (fun r=>r = s ++ u) (catO s u):=⟨_,if_pos (by omega),rfl⟩
theorem size_ofBytes (l : List Int) : (ofBytes l).size = l.length:=by
 show (l.map _).toArray.size = _
 rw [List.size_toArray,List.length_map]
end Go.E2
end
section
namespace Go.Proofs.YtcfegecdlbbeaaaGreatDoor
open Go Go.E2
def SrcOk (s : widgetrybase_Src) : Prop:=0 ≤ s.At ∧ s.At ≤ s.L.length ∧ s.L.length ≤ 4000
theorem New_t (l : List Int) : Tt SrcOk (b_New l):=by
 unfold b_New
 rw [jn_eq]
 by_cases h : (l.length : Int) > 4000
 ·rw [decide_eq_true h,sel_true,show (4000 : Int) = ((4000 : Nat) : Int) from rfl,slcO_eq (by omega),bind_some']
  exact ⟨_,rfl,Int.le_refl 0,by simp,by simp;omega⟩
 ·rw [decide_eq_false h,sel_false]
  exact ⟨_,rfl,Int.le_refl 0,by simp,by simp;omega⟩
theorem N_t {s : widgetrybase_Src} {n : Int} (h : SrcOk s) (h1 : 1 ≤ n) (h2 : n ≤ 1000000) : Tt (fun r=>0 ≤ r.1 ∧ r.1 < n ∧ SrcOk r.2) (b_Src_N s n):=by
 obtain ⟨a0,a1,a2⟩:=h
 unfold b_Src_N
 by_cases hc : s.At ≥ s.L.length
 ·have : (decide (s.At ≥ (s.L.length : Int)) || decide (n < 1)) = true:=by simp;omega
  rw [this,sel_true]
  exact ⟨(0,s),rfl,by show (0 : Int) ≤ 0;omega,by show (0 : Int) < n;omega,a0,a1,a2⟩
 ·have : (decide (s.At ≥ (s.L.length : Int)) || decide (n < 1)) = false:=by simp;omega
  rw [this,sel_false]
  obtain ⟨x,hx,_⟩:=idxO_ok a0 (by omega : s.At < s.L.length)
  rw [hx,bind_some']
  have hz : nzO n (x.tmod n) = some (x.tmod n):=if_neg (by omega)
  rw [hz,bind_some',jn_eq]
  have t1 : x.tmod n < n:=Int.tmod_lt_of_pos x (by omega)
  have t2 : -n < x.tmod n:=Int.lt_tmod_of_pos x (by omega)
  have hw : IntKind.i64.wrap (s.At + 1) = s.At + 1:=wrap_id (by omega) (by omega)
  rw [hw]
  have hs : SrcOk (widgetrybase_Src.mk s.L (s.At + 1)):=⟨by show 0 ≤ s.At + 1;omega,by show s.At + 1 ≤ (s.L.length : Int);omega,a2⟩
  by_cases hm : x.tmod n < 0
  ·rw [decide_eq_true hm,sel_true,wrap_id (by omega) (by omega)]
   exact ⟨_,rfl,by show 0 ≤ x.tmod n + n;omega,by show x.tmod n + n < n;omega,hs⟩
  ·rw [decide_eq_false hm,sel_false]
   exact ⟨_,rfl,by show 0 ≤ x.tmod n;omega,t1,hs⟩
theorem Raw_t {s : widgetrybase_Src} (h : SrcOk s) : Tt (fun r=>SrcOk r.2) (b_Src_Raw s):=by
 obtain ⟨a0,a1,a2⟩:=h
 unfold b_Src_Raw
 by_cases hc : s.At ≥ s.L.length
 ·rw [decide_eq_true hc,sel_true]
  exact ⟨_,rfl,a0,a1,a2⟩
 ·rw [decide_eq_false hc,sel_false,wrap_id (x:=s.At + 1) (by omega) (by omega),wrap_id (by omega) (by omega),show s.At + 1 - 1 = s.At by omega]
  obtain ⟨x,hx,_⟩:=idxO_ok a0 (by omega : s.At < s.L.length)
  rw [hx,bind_some']
  exact ⟨_,rfl,by show 0 ≤ s.At + 1;omega,by show s.At + 1 ≤ (s.L.length : Int);omega,a2⟩
theorem Chance_t {s : widgetrybase_Src} {n : Int} (h : SrcOk s) (h1 : 1 ≤ n) (h2 : n ≤ 1000000) : Tt (fun r=>SrcOk r.2) (b_Src_Chance s n):=by
 unfold b_Src_Chance
 exact Tt.bind (N_t h h1 h2) (fun x hx=>⟨_,rfl,hx.2.2⟩)
theorem Range_t {s : widgetrybase_Src} {lo hi : Int} (h : SrcOk s) (h0 : -100000 ≤ lo) (h1 : lo ≤ hi) (h2 : hi ≤ 100000) : Tt (fun r=>lo ≤ r.1 ∧ r.1 ≤ hi ∧ SrcOk r.2) (b_Src_Range s lo hi):=by
 unfold b_Src_Range
 rw [wrap_id (x:=hi - lo) (by omega) (by omega),wrap_id (by omega) (by omega)]
 refine Tt.bind (N_t h (by omega) (by omega)) (fun x hx=>⟨_,rfl,?_⟩)
 rw [wrap_id (by omega) (by omega)]
 exact ⟨by show lo ≤ lo + x.1;omega,by show lo + x.1 ≤ hi;omega,hx.2.2⟩
theorem Word_t {s : widgetrybase_Src} {n : Int} (h : SrcOk s) (h0 : 0 ≤ n) (h1 : n ≤ 1000) : Tt (fun r=>(r.1.size : Int) ≤ n ∧ SrcOk r.2) (b_Src_Word s n):=by
 unfold b_Src_Word
 rw [wrap_id (by omega) (by omega)]
 refine Tt.bind (N_t h (by omega) (by omega)) (fun x hx=>?_)
 have hm : mkO x.1 (0 : Int) = some (List.replicate x.1.toNat 0):=if_pos ⟨hx.1,by omega⟩
 rw [hm,bind_some',jn_eq]
 refine Tt.loopN (n:=x.1.toNat) (fun (s : List Int × Int × List Int) i=>((i : Int),s)) (fun i s=>SrcOk ⟨s.1,s.2.1⟩ ∧ s.2.2.length = x.1.toNat) (by unfold N0;omega) ?_ ?_ (x.2.L,x.2.At,List.replicate x.1.toNat 0) ⟨hx.2.2,by simp⟩
 ·intro again s i hi ⟨h1,h2⟩ hag
  unfold b_Src_Word_L1
  simp only
  rw [show decide ((i : Int) < x.1) = true from decide_eq_true (by omega),sel_true]
  refine Tt.bind (N_t h1 (by omega) (by omega)) (fun y hy=>?_)
  rw [ixO_nat (by omega),bind_some',wrap_suc hi (by unfold N0;omega)]
  exact hag (y.2.L,y.2.At,_) ⟨hy.2.2,by simp [h2]⟩
 ·intro again s ⟨h1,h2⟩
  unfold b_Src_Word_L1
  simp only
  rw [show decide (((x.1.toNat : Nat) : Int) < x.1) = false from decide_eq_false (by omega),sel_false]
  exact ⟨_,rfl,by show (((ofBytes s.2.2).size : Nat) : Int) ≤ n;rw [size_ofBytes];omega,h1⟩
theorem Name_t {s : widgetrybase_Src} (h : SrcOk s) : Tt (fun r=>r.1.size ≤ 4 ∧ SrcOk r.2) (b_Src_Name s):=by
 unfold b_Src_Name
 refine Tt.bind (N_t h (by decide) (by decide)) (fun x hx=>Tt.bind (idx_t hx.1 hx.2.1) (fun y hy=>⟨_,rfl,?_,hx.2.2⟩))
 have:=hy.1
 simp only [List.mem_cons,List.not_mem_nil,or_false] at this
 rcases this with e | e | e | e | e | e | e | e <;> subst e <;> exact Nat.le_of_ble_eq_true rfl
theorem Rune_t {s : widgetrybase_Src} (h : SrcOk s) : Tt (fun r=>SrcOk r.2) (b_Src_Rune s):=by
 unfold b_Src_Rune b_alphabet
 refine Tt.bind_id (Tt.bind (Chance_t h (by decide) (by decide)) (fun x hx=>Tt.sel (fun _=>Tt.bind (Raw_t hx) (fun y hy=>⟨_,rfl,hy⟩)) (fun _=>?_)))
 exact Tt.bind (N_t hx (by decide) (by decide)) (fun y hy=>Tt.bind (idx_t hy.1 hy.2.1) (fun z _=>⟨_,rfl,hy.2.2⟩))
theorem Text_t {s : widgetrybase_Src} {n : Int} (h : SrcOk s) (h0 : 0 ≤ n) (h1 : n ≤ 1000) : Tt (fun r=>(r.1.length : Int) ≤ n ∧ SrcOk r.2) (b_Src_Text s n):=by
 unfold b_Src_Text
 rw [wrap_id (by omega) (by omega)]
 refine Tt.bind (N_t h (by omega) (by omega)) (fun x hx=>Tt.bind (N_t hx.2.2 (by decide) (by decide)) (fun y hy=>?_))
 refine Tt.jn (fun s=>s.1.length = 5 ∧ SrcOk ⟨s.2.1,s.2.2⟩) (fun k' hk=>?_) (fun z hz=>?_)
 ·refine Tt.loopN (n:=5) (fun (s : List Int × List Int × Int) i=>(s.1,(i : Int),s.2)) (fun i s=>s.1.length = i ∧ SrcOk ⟨s.2.1,s.2.2⟩) (by unfold N0;omega) ?_ ?_ ([],y.2.L,y.2.At) ⟨rfl,hy.2.2⟩
  ·intro again s i hi ⟨h1,h2⟩ hag
   unfold b_Src_Text_L2
   simp only
   rw [show decide ((i : Int) < 5) = true from decide_eq_true (by omega),sel_true]
   refine Tt.bind (Rune_t h2) (fun w hw=>Tt.bind (app_t (by simp;omega)) (fun l hl=>?_))
   rw [wrap_suc hi (by unfold N0;omega)]
   exact hag (l,w.2.L,w.2.At) ⟨by simp [hl,h1],hw⟩
  ·intro again s ⟨h1,h2⟩
   unfold b_Src_Text_L2
   simp only
   exact hk _ ⟨h1,h2⟩
 ·rw [jn_eq]
  refine Tt.loopN (n:=x.1.toNat) (fun (s : List Int × List Int × Int) i=>(s.1,(i : Int),s.2)) (fun i s=>s.1.length = i ∧ SrcOk ⟨s.2.1,s.2.2⟩) (by unfold N0;omega) ?_ ?_ ([],z.2.1,z.2.2) ⟨rfl,hz.2⟩
  ·intro again s i hi ⟨h1,h2⟩ hag
   unfold b_Src_Text_L1
   simp only
   rw [show decide ((i : Int) < x.1) = true from decide_eq_true (by omega),sel_true]
   refine Tt.jn (fun s=>s.1.length = i + 1 ∧ SrcOk ⟨s.2.1,s.2.2⟩) (fun k' hk=>?_) (fun w hw=>?_)
   ·refine Tt.sel (fun _=>?_) (fun _=>?_)
    ·refine Tt.bind (N_t h2 (by decide) (by decide)) (fun w hw=>Tt.bind (idx_t hw.1 (by rw [hz.1];exact hw.2.1)) (fun v _=>Tt.bind (app_t (by simp;omega)) (fun l hl=>?_)))
     exact hk (l,w.2.L,w.2.At) ⟨by simp [hl,h1],hw.2.2⟩
    ·refine Tt.bind (Rune_t h2) (fun w hw=>Tt.bind (app_t (by simp;omega)) (fun l hl=>?_))
     exact hk (l,w.2.L,w.2.At) ⟨by simp [hl,h1],hw⟩
   ·rw [wrap_suc hi (by unfold N0;omega)]
    exact hag w hw
  ·intro again s ⟨h1,h2⟩
   unfold b_Src_Text_L1
   simp only
   rw [show decide (((x.1.toNat : Nat) : Int) < x.1) = false from decide_eq_false (by omega),sel_false]
   exact ⟨_,rfl,by show (s.1.length : Int) ≤ n;omega,h2⟩
theorem Like_t : ∀ (n : Nat) (s : widgetrybase_Src) (v : AValue),v.wt ≤ n → v.wt ≤ 1000000 → SrcOk s → Tt (fun r=>r.1.wt ≤ v.wt ∧ SrcOk r.2) (b_Src_Like n s v)
 | 0,s,v,h,_,_=>by have:=v.wt_pos;omega
 | n + 1,s,v,h,hb,hs=>by
  have hw:=v.wt_eq
  have one : ∀ k n s,(AValue.mk k n s []).wt ≤ v.wt:=fun k n s=>by rw [AValue.wt_eq (AValue.mk k n s []),AValue.wtL_nil];have:=v.wt_pos;omega
  show Tt _ (b_Src_Like_B (b_Src_Like n) s v)
  unfold b_Src_Like_B
  refine Tt.sel (fun _=>Tt.bind (Range_t hs (by decide) (by decide) (by decide)) (fun x hx=>⟨_,rfl,one _ _ _,hx.2.2⟩)) (fun _=>?_)
  refine Tt.sel (fun _=>Tt.bind (N_t hs (by decide) (by decide)) (fun x hx=>⟨_,rfl,one _ _ _,hx.2.2⟩)) (fun _=>?_)
  refine Tt.sel (fun _=>Tt.bind (Word_t hs (by decide) (by decide)) (fun x hx=>⟨_,rfl,one _ _ _,hx.2⟩)) (fun _=>?_)
  rw [jn_eq]
  have hl:=AValue.wtL_len v.L
  refine Tt.loopN (n:=v.L.length) (fun (s : List Int × Int × List AValue) i=>((i : Int),s)) (fun i s=>SrcOk ⟨s.1,s.2.1⟩ ∧ AValue.wtL s.2.2 ≤ AValue.wtL (v.L.take i)) (by unfold N0;omega) ?_ ?_ (s.L,s.At,[]) ⟨hs,Nat.le_refl _⟩
  ·intro again s i hi ⟨h1,h2⟩ hag
   have hx : v.L[i]? = some v.L[i]:=List.getElem?_eq_getElem hi
   have hxw:=AValue.wtL_mem (List.getElem_mem hi)
   have ht : AValue.wtL (v.L.take (i + 1)) = AValue.wtL (v.L.take i) + v.L[i].wt:=by
    have app : ∀ (l : List AValue) (x : AValue),AValue.wtL (l ++ [x]) = AValue.wtL l + x.wt:=by
     intro l x
     induction l with
     | nil=>rw [List.nil_append,AValue.wtL_cons,AValue.wtL_nil];omega
     | cons y l ih=>rw [List.cons_append,AValue.wtL_cons,AValue.wtL_cons,ih];omega
    rw [take_suc hx,app]
   have htl : AValue.wtL (v.L.take i) ≤ AValue.wtL v.L:=by
    have app : ∀ (l m : List AValue),AValue.wtL l ≤ AValue.wtL (l ++ m):=by
     intro l m
     induction l with
     | nil=>rw [AValue.wtL_nil];omega
     | cons y l ih=>rw [List.cons_append,AValue.wtL_cons,AValue.wtL_cons];omega
    have:=app (v.L.take i) (v.L.drop i)
    rwa [List.take_append_drop] at this
   have hsl:=AValue.wtL_len s.2.2
   unfold b_Src_Like_L1
   simp only [nz_lt hi,selT']
   refine Tt.jn (fun s=>SrcOk ⟨s.1,s.2.1⟩ ∧ AValue.wtL s.2.2 ≤ AValue.wtL (v.L.take (i + 1))) (fun k' hk=>?_) (fun w hw'=>?_)
   ·refine Tt.bind (N_t h1 (by decide) (by decide)) (fun x hx'=>Tt.sel (fun _=>?_) (fun _=>hk (x.2.L,x.2.At,s.2.2) ⟨hx'.2.2,by rw [ht];show AValue.wtL s.2.2 ≤ _;omega⟩))
    rw [idxO_nat,hx,bind_some']
    refine Tt.bind (Like_t n x.2 v.L[i] (by omega) (by omega) hx'.2.2) (fun y hy=>Tt.bind (app_t (by simp;omega)) (fun l hl'=>?_))
    refine hk (y.2.L,y.2.At,l) ⟨hy.2,?_⟩
    have app : ∀ (l : List AValue) (x : AValue),AValue.wtL (l ++ [x]) = AValue.wtL l + x.wt:=by
     intro l x
     induction l with
     | nil=>rw [List.nil_append,AValue.wtL_cons,AValue.wtL_nil];omega
     | cons y l ih=>rw [List.cons_append,AValue.wtL_cons,AValue.wtL_cons,ih];omega
    show AValue.wtL l ≤ _
    rw [hl',app,ht]
    have:=hy.1
    omega
   ·rw [wrap_suc hi (by unfold N0;omega)]
    exact hag w hw'
  ·intro again s ⟨h1,h2⟩
   unfold b_Src_Like_L1
   simp only [nz_ge (Nat.le_refl _),selF']
   rw [List.take_length] at h2
   exact ⟨_,rfl,by show (AValue.mk 4 0 ByteArray.empty s.2.2).wt ≤ v.wt;rw [AValue.wt_eq];show 1 + AValue.wtL s.2.2 ≤ _;omega,h1⟩
theorem wtL_app' : ∀ (l : List AValue) (x : AValue),AValue.wtL (l ++ [x]) = AValue.wtL l + x.wt
 | [],x=>by rw [List.nil_append,AValue.wtL_cons,AValue.wtL_nil];omega
 | y :: l,x=>by rw [List.cons_append,AValue.wtL_cons,AValue.wtL_cons,wtL_app' l x];omega
theorem Value_t : ∀ (d n : Nat) (s : widgetrybase_Src),d < n → d ≤ 5 → SrcOk s → Tt (fun r=>r.1.wt ≤ 4 ^ d ∧ SrcOk r.2) (b_Src_Value n s (d : Int))
 | d,0,s,h,_,_=>by omega
 | d,n + 1,s,h,hd,hs=>by
  have hp : 1 ≤ 4 ^ d:=Nat.one_le_pow _ _ (by omega)
  have one : ∀ k n s,(AValue.mk k n s []).wt ≤ 4 ^ d:=fun k n s=>by rw [AValue.wt_eq (AValue.mk k n s []),AValue.wtL_nil];omega
  show Tt _ (b_Src_Value_B (b_Src_Value n) s (d : Int))
  unfold b_Src_Value_B
  refine Tt.jn (fun s=>SrcOk ⟨s.1,s.2⟩) (fun k2 hk2=>?_) (fun z hz=>?_)
  ·refine Tt.bind (N_t hs (by decide) (by decide)) (fun x hx=>Tt.sel (fun _=>Tt.bind (N_t hx.2.2 (by decide) (by decide)) (fun y hy=>⟨_,rfl,one _ _ _,hy.2.2⟩)) (fun _=>?_))
   rw [jn_eq]
   have key : ∀ b : Bool,Tt (fun r=>r.1.wt ≤ 4 ^ d ∧ SrcOk r.2) (sel b ((b_Src_Word x.2 4).bind fun x11=>some ((AValue.mk 3 0 x11.1 ([] : (List AValue))),x11.2)) (sel (x.1 == 3) (sel (decide ((d : Int) > 0)) (jn (fun (s14 : (List Int) × Int × (List AValue))=>some ((AValue.mk 4 0 ByteArray.empty s14.2.2),(widgetrybase_Src.mk s14.1 s14.2.1))) fun k15=>(b_Src_N x.2 4).bind fun x16=>sel (decide (x16.1 > 0)) ((b_Src_Value n x16.2 (IntKind.i64.wrap ((d : Int) - 1))).bind fun x18=>(appO ([] : (List AValue)) ([x18.1])).bind fun x19=>loopK (b_Src_Value_L1 k15 x16 x18) N0 (1,x18.2.L,x18.2.At,x19)) (k15 (x16.2.L,x16.2.At,([] : (List AValue))))) (k2 (x.2.L,x.2.At))) (k2 (x.2.L,x.2.At)))):=by
    intro b
    refine Tt.sel (fun _=>Tt.bind (Word_t hx.2.2 (by decide) (by decide)) (fun y hy=>⟨_,rfl,one _ _ _,hy.2⟩)) (fun _=>Tt.sel (fun _=>Tt.sel (fun hd0=>?_) (fun _=>hk2 (x.2.L,x.2.At) hx.2.2)) (fun _=>hk2 (x.2.L,x.2.At) hx.2.2))
    have hd1 : 0 < d:=by have:=of_decide_eq_true hd0;omega
    obtain ⟨e,rfl⟩ : ∃ e,d = e + 1:=⟨d - 1,by omega⟩
    have hpe : 4 ^ (e + 1) = 4 ^ e * 4:=Nat.pow_succ ..
    have hp1 : 1 ≤ 4 ^ e:=Nat.one_le_pow _ _ (by omega)
    have hpb : 4 ^ e ≤ 4 ^ 5:=Nat.pow_le_pow_right (by omega) (by omega)
    refine Tt.jn (fun s=>SrcOk ⟨s.1,s.2.1⟩ ∧ AValue.wtL s.2.2 ≤ 3 * 4 ^ e) (fun k' hk=>?_) (fun w hw=>⟨_,rfl,by show (AValue.mk 4 0 ByteArray.empty w.2.2).wt ≤ _;rw [AValue.wt_eq];show 1 + AValue.wtL w.2.2 ≤ _;have:=hw.2;omega,hw.1⟩)
    refine Tt.bind (N_t hx.2.2 (by decide) (by decide)) (fun y hy=>Tt.sel (fun hy0=>?_) (fun _=>hk (y.2.L,y.2.At,[]) ⟨hy.2.2,by rw [AValue.wtL_nil];omega⟩))
    have hy1:=of_decide_eq_true hy0
    rw [show IntKind.i64.wrap (((e + 1 : Nat) : Int) - 1) = (e : Int) from by rw [wrap_id (by omega) (by omega)];omega]
    refine Tt.bind (Value_t e n y.2 (by omega) (by omega) hy.2.2) (fun v hv=>Tt.bind (app_t (by simp)) (fun l hl=>?_))
    have hv1 : v.1.wt ≤ 4 ^ e:=hv.1
    refine Tt.loopM (μ:=fun s=>(y.1 - s.1).toNat) (P:=fun s=>1 ≤ s.1 ∧ s.1 ≤ y.1 ∧ SrcOk ⟨s.2.1,s.2.2.1⟩ ∧ (AValue.wtL s.2.2.2 : Int) ≤ s.1 * (4 ^ e : Nat) ∧ (s.2.2.2.length : Int) ≤ s.1) ?_ (1,v.2.L,v.2.At,l) ⟨by show (1 : Int) ≤ 1;omega,by show (1 : Int) ≤ y.1;omega,hv.2,by show (AValue.wtL l : Int) ≤ 1 * (4 ^ e : Nat);rw [hl,List.nil_append,AValue.wtL_cons,AValue.wtL_nil];omega,by show (l.length : Int) ≤ 1;rw [hl];simp⟩ (by show (y.1 - 1).toNat < N0;unfold N0;omega)
    intro again s ⟨p1,p2,p3,p4,p5⟩ hag
    unfold b_Src_Value_L1
    refine Tt.sel (fun hc=>?_) (fun hc=>?_)
    ·have hc':=of_decide_eq_true hc
     refine Tt.bind (Like_t N0 _ v.1 (by unfold N0;omega) (by omega) p3) (fun u hu=>Tt.bind (app_t (by simp;omega)) (fun m hm=>?_))
     rw [wrap_id (by omega) (by omega)]
     refine hag _ ⟨by show 1 ≤ s.1 + 1;omega,by show s.1 + 1 ≤ y.1;omega,hu.2,?_,?_⟩ (by show (y.1 - (s.1 + 1)).toNat < _;omega)
     ·show (AValue.wtL m : Int) ≤ (s.1 + 1) * (4 ^ e : Nat)
      rw [hm,wtL_app',Int.add_mul]
      have:=hu.1
      omega
     ·show (m.length : Int) ≤ s.1 + 1
      rw [hm];simp;omega
    ·have hc':=of_decide_eq_false hc
     refine hk (s.2.1,s.2.2.1,s.2.2.2) ⟨p3,?_⟩
     show AValue.wtL s.2.2.2 ≤ 3 * 4 ^ e
     have : s.1 * (4 ^ e : Nat) ≤ 3 * ((4 ^ e : Nat) : Int):=Int.mul_le_mul_of_nonneg_right (by omega) (by omega)
     omega
   exact Tt.sel (fun _=>key _) (fun _=>key _)
  ·refine Tt.bind (N_t hz (by decide) (by decide)) (fun x hx=>Tt.bind (idx_t hx.1 hx.2.1) (fun y _=>⟨_,rfl,one _ _ _,hx.2.2⟩))
end Go.Proofs.YtcfegecdlbbeaaaGreatDoor
end
section
namespace Go.Proofs.YtcfegecdlbbeaaaGreatDoor
open Go Go.E2
theorem number_t (n : Int) : Tt (fun _=>True) (b_number n):=⟨_,rfl,trivial⟩
theorem text_t (s : Str) : Tt (fun _=>True) (b_text s):=⟨_,rfl,trivial⟩
theorem flag_t (n : Int) : Tt (fun _=>True) (b_flag n):=⟨_,rfl,trivial⟩
theorem valid_t {s : widgetrybase_Src} (h : SrcOk s) (l : List Int) : Tt (fun r=>SrcOk r.2) (b_Src_valid s l):=⟨_,rfl,h⟩
theorem attrs_t {s : widgetrybase_Src} (h : SrcOk s) (kind : Int) : Tt (fun r=>r.1.length ≤ 15 ∧ SrcOk r.2) (b_Src_attrs s kind):=by
 unfold b_Src_attrs
 refine Tt.jn (fun x=>x.1.length ≤ 1 ∧ SrcOk ⟨x.2.1,x.2.2⟩) (fun k hk=>?_) (fun x1 h1=>?_)
 ·refine Tt.bind (N_t h (by decide) (by decide)) (fun a ha=>Tt.sel (fun _=>?_) (fun _=>hk ([],a.2.L,a.2.At) ⟨(Nat.zero_le _),ha.2.2⟩))
  exact Tt.bind (N_t ha.2.2 (by decide) (by decide)) (fun b hb=>Tt.bind (cat_t (by rw [size_ofBytes];exact Nat.le_of_ble_eq_true rfl)) (fun c _=>Tt.bind (text_t c) (fun d _=>Tt.bind (app_t (by simp)) (fun l hl=>hk (l,b.2.L,b.2.At) ⟨by rw [hl];simp,hb.2.2⟩))))
 refine Tt.jn (fun x=>x.1.length ≤ 2 ∧ SrcOk ⟨x.2.1,x.2.2⟩) (fun k hk=>?_) (fun x2 h2=>?_)
 ·refine Tt.bind (N_t h1.2 (by decide) (by decide)) (fun a ha=>Tt.sel (fun _=>?_) (fun _=>hk (x1.1,a.2.L,a.2.At) ⟨(Nat.le_succ_of_le h1.1),ha.2.2⟩))
  exact Tt.bind (N_t ha.2.2 (by decide) (by decide)) (fun b hb=>Tt.bind (cat_t (by rw [size_ofBytes];exact Nat.le_of_ble_eq_true rfl)) (fun c _=>Tt.bind (text_t c) (fun d _=>Tt.bind (app_t (by have:=h1.1;simp;omega)) (fun l hl=>hk (l,b.2.L,b.2.At) ⟨by rw [hl];have:=h1.1;simp;omega,hb.2.2⟩))))
 refine Tt.jn (fun x=>x.1.length ≤ 3 ∧ SrcOk ⟨x.2.1,x.2.2⟩) (fun k hk=>?_) (fun x3 h3=>?_)
 ·refine Tt.bind (N_t h2.2 (by decide) (by decide)) (fun a ha=>Tt.sel (fun _=>?_) (fun _=>hk (x2.1,a.2.L,a.2.At) ⟨(Nat.le_succ_of_le h2.1),ha.2.2⟩))
  exact Tt.bind (N_t ha.2.2 (by decide) (by decide)) (fun b hb=>Tt.bind (flag_t _) (fun d _=>Tt.bind (app_t (by have:=h2.1;simp;omega)) (fun l hl=>hk (l,b.2.L,b.2.At) ⟨by rw [hl];have:=h2.1;simp;omega,hb.2.2⟩)))
 refine Tt.jn (fun x=>x.1.length ≤ 4 ∧ SrcOk ⟨x.2.1,x.2.2⟩) (fun k hk=>?_) (fun x4 h4=>?_)
 ·refine Tt.bind (N_t h3.2 (by decide) (by decide)) (fun a ha=>Tt.sel (fun _=>?_) (fun _=>hk (x3.1,a.2.L,a.2.At) ⟨(Nat.le_succ_of_le h3.1),ha.2.2⟩))
  exact Tt.bind (Name_t ha.2.2) (fun b hb=>Tt.bind (text_t _) (fun d _=>Tt.bind (app_t (by have:=h3.1;simp;omega)) (fun l hl=>hk (l,b.2.L,b.2.At) ⟨by rw [hl];have:=h3.1;simp;omega,hb.2⟩)))
 refine Tt.jn (fun x=>x.1.length ≤ 5 ∧ SrcOk ⟨x.2.1,x.2.2⟩) (fun k hk=>?_) (fun x5 h5=>?_)
 ·refine Tt.bind (N_t h4.2 (by decide) (by decide)) (fun a ha=>Tt.sel (fun _=>?_) (fun _=>hk (x4.1,a.2.L,a.2.At) ⟨(Nat.le_succ_of_le h4.1),ha.2.2⟩))
  refine Tt.jn (fun x=>SrcOk ⟨x.1,x.2.1⟩) (fun k1 hk1=>?_) (fun y hy=>Tt.bind (app_t (by have:=h4.1;simp;omega)) (fun l hl=>hk (l,y.1,y.2.1) ⟨by rw [hl];have:=h4.1;simp;omega,hy⟩))
  refine Tt.bind (Range_t ha.2.2 (by decide) (by decide) (by decide)) (fun b hb=>?_)
  refine Tt.loopM (μ:=fun s=>s.1.toNat) (P:=fun s=>s.1 ≤ 3 ∧ SrcOk ⟨s.2.1,s.2.2.1⟩ ∧ (s.2.2.2.length : Int) ≤ 3 - s.1) ?_ (b.1,b.2.L,b.2.At,[]) ⟨hb.2.1,hb.2.2,by show (0 : Int) ≤ 3 - b.1;omega⟩ (by show b.1.toNat < N0;unfold N0;omega)
  intro again s ⟨p1,p2,p3⟩ hag
  unfold b_Src_attrs_L1
  refine Tt.sel (fun hc=>?_) (fun _=>hk1 (s.2.1,s.2.2.1,s.2.2.2) p2)
  have hc0:=of_decide_eq_true hc
  refine Tt.bind (N_t p2 (by decide) (by decide)) (fun c hc=>Tt.bind (idx_t hc.1 hc.2.1) (fun d _=>Tt.bind (number_t d) (fun e _=>Tt.bind (app_t (by simp;omega)) (fun l hl=>?_))))
  rw [wrap_id (by omega) (by omega)]
  exact hag (s.1 - 1,c.2.L,c.2.At,l) ⟨by show s.1 - 1 ≤ 3;omega,hc.2.2,by show (l.length : Int) ≤ 3 - (s.1 - 1);rw [hl];simp;omega⟩ (by show (s.1 - 1).toNat < s.1.toNat;omega)
 refine Tt.jn (fun x=>x.1.length ≤ 6 ∧ SrcOk ⟨x.2.1,x.2.2⟩) (fun k hk=>?_) (fun x6 h6=>?_)
 ·refine Tt.bind (N_t h5.2 (by decide) (by decide)) (fun a ha=>Tt.sel (fun _=>?_) (fun _=>hk (x5.1,a.2.L,a.2.At) ⟨(Nat.le_succ_of_le h5.1),ha.2.2⟩))
  exact Tt.bind (N_t ha.2.2 (by decide) (by decide)) (fun b hb=>Tt.bind (flag_t _) (fun d _=>Tt.bind (app_t (by have:=h5.1;simp;omega)) (fun l hl=>hk (l,b.2.L,b.2.At) ⟨by rw [hl];have:=h5.1;simp;omega,hb.2.2⟩)))
 refine Tt.jn (fun x=>x.1.length ≤ 7 ∧ SrcOk ⟨x.2.1,x.2.2⟩) (fun k hk=>?_) (fun x7 h7=>?_)
 ·refine Tt.bind (P:=fun r=>SrcOk r.2) (Tt.sel (fun _=>(N_t h6.2 (by decide) (by decide)).mono (fun _ hx=>hx.2.2)) (fun _=>⟨_,rfl,h6.2⟩)) (fun a ha=>Tt.sel (fun _=>?_) (fun _=>hk (x6.1,a.2.L,a.2.At) ⟨(Nat.le_succ_of_le h6.1),ha⟩))
  exact Tt.bind (N_t ha (by decide) (by decide)) (fun b hb=>Tt.bind (number_t _) (fun d _=>Tt.bind (app_t (by have:=h6.1;simp;omega)) (fun l hl=>hk (l,b.2.L,b.2.At) ⟨by rw [hl];have:=h6.1;simp;omega,hb.2.2⟩)))
 refine Tt.jn (fun x=>x.1.length ≤ 8 ∧ SrcOk ⟨x.2.1,x.2.2⟩) (fun k hk=>?_) (fun x8 h8=>?_)
 ·refine Tt.bind (N_t h7.2 (by decide) (by decide)) (fun a ha=>Tt.sel (fun _=>?_) (fun _=>hk (x7.1,a.2.L,a.2.At) ⟨(Nat.le_succ_of_le h7.1),ha.2.2⟩))
  exact Tt.bind (N_t ha.2.2 (by decide) (by decide)) (fun b hb=>Tt.bind (flag_t _) (fun d _=>Tt.bind (app_t (by have:=h7.1;simp;omega)) (fun l hl=>hk (l,b.2.L,b.2.At) ⟨by rw [hl];have:=h7.1;simp;omega,hb.2.2⟩)))
 refine Tt.jn (fun x=>x.1.length ≤ 9 ∧ SrcOk ⟨x.2.1,x.2.2⟩) (fun k hk=>?_) (fun x9 h9=>?_)
 ·refine Tt.bind (N_t h8.2 (by decide) (by decide)) (fun a ha=>Tt.sel (fun _=>?_) (fun _=>hk (x8.1,a.2.L,a.2.At) ⟨(Nat.le_succ_of_le h8.1),ha.2.2⟩))
  exact Tt.bind (N_t ha.2.2 (by decide) (by decide)) (fun b hb=>Tt.bind (cat_t (by rw [size_ofBytes];exact Nat.le_of_ble_eq_true rfl)) (fun c _=>Tt.bind (text_t c) (fun d _=>Tt.bind (app_t (by have:=h8.1;simp;omega)) (fun l hl=>hk (l,b.2.L,b.2.At) ⟨by rw [hl];have:=h8.1;simp;omega,hb.2.2⟩))))
 refine Tt.jn (fun x=>x.1.length ≤ 10 ∧ SrcOk ⟨x.2.1,x.2.2⟩) (fun k hk=>?_) (fun x10 h10=>?_)
 ·refine Tt.bind (N_t h9.2 (by decide) (by decide)) (fun a ha=>Tt.sel (fun _=>?_) (fun _=>hk (x9.1,a.2.L,a.2.At) ⟨(Nat.le_succ_of_le h9.1),ha.2.2⟩))
  exact Tt.bind (flag_t _) (fun d _=>Tt.bind (app_t (by have:=h9.1;simp;omega)) (fun l hl=>hk (l,a.2.L,a.2.At) ⟨by rw [hl];have:=h9.1;simp;omega,ha.2.2⟩))
 refine Tt.jn (fun x=>x.1.length ≤ 11 ∧ SrcOk ⟨x.2.1,x.2.2⟩) (fun k hk=>?_) (fun x11 h11=>?_)
 ·refine Tt.bind (N_t h10.2 (by decide) (by decide)) (fun a ha=>Tt.sel (fun _=>?_) (fun _=>hk (x10.1,a.2.L,a.2.At) ⟨(Nat.le_succ_of_le h10.1),ha.2.2⟩))
  exact Tt.bind (N_t ha.2.2 (by decide) (by decide)) (fun b hb=>Tt.bind (number_t _) (fun d _=>Tt.bind (app_t (by have:=h10.1;simp;omega)) (fun l hl=>hk (l,b.2.L,b.2.At) ⟨by rw [hl];have:=h10.1;simp;omega,hb.2.2⟩)))
 refine Tt.jn (fun x=>x.1.length ≤ 12 ∧ SrcOk ⟨x.2.1,x.2.2⟩) (fun k hk=>?_) (fun x12 h12=>?_)
 ·refine Tt.bind (N_t h11.2 (by decide) (by decide)) (fun a ha=>Tt.sel (fun _=>?_) (fun _=>hk (x11.1,a.2.L,a.2.At) ⟨(Nat.le_succ_of_le h11.1),ha.2.2⟩))
  exact Tt.bind (N_t ha.2.2 (by decide) (by decide)) (fun b hb=>Tt.bind (number_t _) (fun d _=>Tt.bind (app_t (by have:=h11.1;simp;omega)) (fun l hl=>hk (l,b.2.L,b.2.At) ⟨by rw [hl];have:=h11.1;simp;omega,hb.2.2⟩)))
 refine Tt.jn (fun x=>x.1.length ≤ 13 ∧ SrcOk ⟨x.2.1,x.2.2⟩) (fun k hk=>?_) (fun x13 h13=>?_)
 ·refine Tt.bind (N_t h12.2 (by decide) (by decide)) (fun a ha=>Tt.sel (fun _=>?_) (fun _=>hk (x12.1,a.2.L,a.2.At) ⟨(Nat.le_succ_of_le h12.1),ha.2.2⟩))
  exact Tt.bind (Text_t ha.2.2 (by decide) (by decide)) (fun b hb=>Tt.bind (valid_t hb.2 _) (fun c hc=>Tt.bind (text_t _) (fun d _=>Tt.bind (app_t (by have:=h12.1;simp;omega)) (fun l hl=>hk (l,c.2.L,c.2.At) ⟨by rw [hl];have:=h12.1;simp;omega,hc⟩))))
 refine Tt.jn (fun x=>x.1.length ≤ 14 ∧ SrcOk ⟨x.2.1,x.2.2⟩) (fun k hk=>?_) (fun x14 h14=>?_)
 ·refine Tt.bind (N_t h13.2 (by decide) (by decide)) (fun a ha=>Tt.sel (fun _=>?_) (fun _=>hk (x13.1,a.2.L,a.2.At) ⟨(Nat.le_succ_of_le h13.1),ha.2.2⟩))
  exact Tt.bind (N_t ha.2.2 (by decide) (by decide)) (fun b hb=>Tt.bind (number_t _) (fun d _=>Tt.bind (app_t (by have:=h13.1;simp;omega)) (fun l hl=>hk (l,b.2.L,b.2.At) ⟨by rw [hl];have:=h13.1;simp;omega,hb.2.2⟩)))
 refine Tt.jn (fun x=>x.1.length ≤ 15 ∧ SrcOk ⟨x.2.1,x.2.2⟩) (fun k hk=>?_) (fun x15 h15=>?_)
 ·refine Tt.bind (P:=fun r=>SrcOk r.2) (Tt.sel (fun _=>(N_t h14.2 (by decide) (by decide)).mono (fun _ hx=>hx.2.2)) (fun _=>⟨_,rfl,h14.2⟩)) (fun a ha=>Tt.sel (fun _=>?_) (fun _=>hk (x14.1,a.2.L,a.2.At) ⟨(Nat.le_succ_of_le h14.1),ha⟩))
  exact Tt.bind (N_t ha (by decide) (by decide)) (fun b hb=>Tt.bind (number_t _) (fun d _=>Tt.bind (app_t (by have:=h14.1;simp;omega)) (fun l hl=>hk (l,b.2.L,b.2.At) ⟨by rw [hl];have:=h14.1;simp;omega,hb.2.2⟩)))
 exact ⟨_,rfl,h15⟩
theorem view_t : ∀ (d n : Nat) (s : widgetrybase_Src),d < n → d ≤ 10 → SrcOk s → Tt (fun r=>r.1.sm ∧ SrcOk r.2) (b_Src_view n s (d : Int))
 | d,0,s,h,_,_=>by omega
 | d,n + 1,s,h,hd,hs=>by
  show Tt _ (b_Src_view_B (b_Src_view n) s (d : Int))
  unfold b_Src_view_B
  have sm0 : ∀ k las cs (l : List View),(∀ x ∈ l,x.sm) → (View.mk k ByteArray.empty las cs l).sm:=fun k las cs l hl=>by
   rw [View.sm_eq];exact ⟨by show (0 : Nat) < N0;unfold N0;omega,hl⟩
  refine Tt.bind (N_t hs (by decide) (by decide)) (fun a ha=>Tt.bind (idx_t ha.1 ha.2.1) (fun b _=>?_))
  refine Tt.jn (fun _=>True) (fun k hk=>Tt.sel (fun _=>hk _ trivial) (fun _=>hk _ trivial)) (fun kind _=>?_)
  refine Tt.bind (attrs_t ha.2.2 kind) (fun c hc=>?_)
  refine Tt.jn (fun x=>SrcOk ⟨x.1,x.2.1⟩) (fun k hk=>?_) (fun e he=>?_)
  ·refine Tt.bind (N_t hc.2 (by decide) (by decide)) (fun f hf=>Tt.sel (fun _=>?_) (fun _=>hk (f.2.L,f.2.At,[]) hf.2.2))
   exact Tt.bind (Value_t 0 N0 f.2 (by unfold N0;omega) (by omega) hf.2.2) (fun g hg=>hk (g.2.L,g.2.At,_) hg.2)
  ·refine Tt.sel (fun _=>⟨_,rfl,sm0 _ _ _ _ (fun x hx=>by cases hx),he⟩) (fun hd0=>?_)
   have hd1:=of_decide_eq_false hd0
   obtain ⟨d,rfl⟩ : ∃ e,d = e + 1:=⟨d - 1,by omega⟩
   refine Tt.bind (N_t he (by decide) (by decide)) (fun f hf=>Tt.bind (N_t hf.2.2 (by decide) (by decide)) (fun g hg=>?_))
   rw [jn_eq]
   refine Tt.loopN (n:=f.1.toNat) (fun (s : List Int × Int × List View) i=>((i : Int),s)) (fun i s=>SrcOk ⟨s.1,s.2.1⟩ ∧ s.2.2.length ≤ i ∧ ∀ x ∈ s.2.2,x.sm) (by unfold N0;omega) ?_ ?_ (g.2.L,g.2.At,[]) ⟨hg.2.2,Nat.le_refl _,fun x hx=>by cases hx⟩
   ·intro again s i hi ⟨p1,p2,p3⟩ hag
    unfold b_Src_view_L2
    simp only
    rw [show decide ((i : Int) < f.1) = true from decide_eq_true (by omega),sel_true]
    refine Tt.jn (fun x=>SrcOk ⟨x.1,x.2.1⟩ ∧ x.2.2.length ≤ i + 1 ∧ ∀ y ∈ x.2.2,y.sm) (fun k hk=>?_) (fun x hx=>?_)
    ·rw [show IntKind.i64.wrap (((d + 1 : Nat) : Int) - 1) = (d : Int) from by rw [wrap_id (by omega) (by omega)];omega]
     refine Tt.bind (view_t d n _ (by omega) (by omega) p1) (fun v hv=>?_)
     refine Tt.jn (fun x=>SrcOk ⟨x.1,x.2.1⟩ ∧ x.2.2.size < N0) (fun k1 hk1=>?_) (fun y hy=>?_)
     ·refine Tt.bind (P:=fun r=>SrcOk r.2) (Tt.sel (fun _=>(N_t hv.2 (by decide) (by decide)).mono (fun _ hx=>hx.2.2)) (fun _=>⟨_,rfl,hv.2⟩)) (fun u hu=>Tt.sel (fun _=>?_) (fun _=>hk1 (u.2.L,u.2.At,v.1.Key) ⟨hu,((View.sm_eq v.1).1 hv.1).1⟩))
      exact Tt.bind (N_t hu (by decide) (by decide)) (fun w hw=>hk1 (w.2.L,w.2.At,_) ⟨hw.2.2,by show (ofBytes _).size < N0;rw [size_ofBytes];show 2 < N0;unfold N0;omega⟩)
     ·refine Tt.jn (fun _=>True) (fun k2 hk2=>?_) (fun z _=>?_)
      ·refine Tt.loopN (n:=s.2.2.length) (fun (s : Bool) i=>(s,(i : Int))) (fun _ _=>True) (by unfold N0;omega) ?_ ?_ false trivial
       ·intro again2 s2 j hj _ hag2
        unfold b_Src_view_L1
        simp only
        rw [nz_lt hj,sel_true]
        refine Tt.bind (P:=fun _=>True) (Tt.gO (fun _=>(idx_t (by omega) (by omega)).mono (fun _ _=>trivial)) (fun _=>trivial)) (fun x _=>?_)
        rw [wrap_suc hj (by unfold N0;omega)]
        exact hag2 _ trivial
       ·intro again2 s2 _
        unfold b_Src_view_L1
        simp only
        rw [nz_ge (Nat.le_refl _),sel_false]
        exact hk2 _ trivial
      ·refine Tt.sel (fun _=>Tt.bind (app_t (by simp;omega)) (fun l hl=>hk (y.1,y.2.1,l) ⟨hy.1,by show l.length ≤ i + 1;rw [hl];simp;omega,?_⟩)) (fun _=>hk (y.1,y.2.1,s.2.2) ⟨hy.1,Nat.le_succ_of_le p2,p3⟩)
       intro q hq
       change q ∈ l at hq
       rw [hl] at hq
       rcases List.mem_append.1 hq with e | e
       ·exact p3 q e
       ·rw [List.mem_singleton.1 e,View.sm_eq]
        exact ⟨hy.2,((View.sm_eq v.1).1 hv.1).2⟩
    ·rw [wrap_suc hi (by unfold N0;omega)]
     exact hag x hx
   ·intro again s ⟨p1,p2,p3⟩
    unfold b_Src_view_L2
    simp only
    rw [show decide (((f.1.toNat : Nat) : Int) < f.1) = false from decide_eq_false (by omega),sel_false]
    exact ⟨_,rfl,sm0 _ _ _ _ p3,p1⟩
theorem group_ok : errV (View.mk 1 ByteArray.empty ([] : List Attr) ([] : List Action) ([] : List View)) = 0:=by decide +kernel
theorem View_t {d : Nat} {s : widgetrybase_Src} (hd : d ≤ 10) (h : SrcOk s) : Tt (fun r=>errV r.1 = 0 ∧ SrcOk r.2) (b_Src_View s (d : Int)):=by
 unfold b_Src_View
 refine Tt.bind (view_t d N0 s (by unfold N0;omega) hd h) (fun a ha=>?_)
 rw [rValidate_ok ha.1,bind_some']
 exact Tt.sel (fun _=>⟨_,rfl,group_ok,ha.2⟩) (fun hc=>⟨_,rfl,by simpa using hc,ha.2⟩)
end Go.Proofs.YtcfegecdlbbeaaaGreatDoor
end
section
namespace Go.Proofs.YtcfegecdlbbeaaaGreatDoor
open Go Go.E2
theorem Tree_t {d : Nat} {s : widgetrybase_Src} (hd : d ≤ 10) (h : SrcOk s) : Tt (fun r=>Good r.1 ∧ SrcOk r.2) (b_Src_Tree s (d : Int)):=by
 unfold b_Src_Tree
 refine Tt.bind (View_t hd h) (fun v hv=>Tt.bind (Range_t hv.2 (by decide) (by decide) (by decide)) (fun x hx=>?_))
 obtain ⟨t,e,_,b2,b3⟩:=Build_ok (valid_all hv.1).sm x.1
 obtain ⟨rfl,rfl⟩ : t = trB v.1 x.1 ∧ e = 0:=by
  rcases b3 with ⟨_,_,_,e1,e2⟩ | ⟨_,_,e2⟩
  ·exact ⟨e1,e2⟩
  ·exact absurd ⟨hv.1,by omega,by omega⟩ e2
 rw [b2,bind_some']
 exact ⟨_,rfl,built_good hv.1 (by omega) (by omega),hx.2.2⟩
end Go.Proofs.YtcfegecdlbbeaaaGreatDoor
end
section
namespace Go.Proofs.YtcfegecdlbbeaaaGreatDoor
open Go Go.E2
theorem same_true {t : Tree} (h : TB t) (hl : t.Nodes.length < N0) (a b : Int) : l14_same t a b = some true:=by
 obtain ⟨e,h1,h2,h3⟩:=tree_ok h
 obtain ⟨lo,o1,o2,o3,_⟩:=order_same h
 obtain ⟨lp,p1,p2,p3,_⟩:=path_same h a
 obtain ⟨c,c1,c2⟩:=common_same h a b
 obtain ⟨s,s1,s2,_⟩:=name_same h a
 have hd : ∃ v f,vw_Describe t = some (v,f) ∧ r14_Describe t = some (v,f) ∧ v.dp ≤ N0 ∧ v.bd:=by
  rcases h3 with ⟨_,S,_,_,d1,d2⟩ | ⟨_,m,_,d1,d2⟩
  ·exact ⟨_,_,d1,d2,by have:=dscT_dp t;have:=S.lim;unfold N0;omega,dscT_bd h⟩
  ·exact ⟨_,_,d1,d2,by rw [zV_dp];unfold N0;omega,zV_bd⟩
 obtain ⟨v,f,d1,d2,d3,d4⟩:=hd
 obtain ⟨q,q1,q2⟩:=rsameV_ok N0 v v d3 d4
 rw [q2.2 rfl] at q1
 unfold l14_same
 rw [d1,bind_some',d2,bind_some']
 have hf : ∃ n ok i,vw_Find t a = some (n,ok) ∧ r14_Index t a = some i ∧ ok = decide (i ≥ 0) ∧ (ok = true → n.ID = a):=by
  rcases find_ok h hl a with ⟨n,n1,n2⟩ | ⟨n1,n2⟩
  ·rcases Index_ok t a hl with ⟨i,m,i1,i2,i3⟩ | ⟨i1,i2⟩
   ·exact ⟨n,true,i,n2,i1,(decide_eq_true (by omega)).symm,fun _=>(look_mem n1).2⟩
   ·rw [n1] at i2;cases i2
  ·rcases Index_ok t a hl with ⟨i,m,i1,i2,i3⟩ | ⟨i1,i2⟩
   ·rw [n1] at i3;cases i3
   ·exact ⟨zN,false,-1,n2,i1,rfl,fun e=>Bool.noConfusion e⟩
 obtain ⟨n,ok,i,f1,f2,f3,f4⟩:=hf
 rw [f1,bind_some',f2,bind_some']
 simp only
 rw [show ((ok != (decide (i ≥ 0))) || (ok && (n.ID != a))) = false by
  rw [f3]
  cases hk : decide (i ≥ 0) with
  | false=>rfl
  | true=>rw [hk] at f3;rw [f4 f3];simp,sel_false]
 rw [h1,bind_some',h2,bind_some']
 simp only [beq_self_eq_true,Bool.and_self,gOT',q1,bindN,o1,o2,ints_same lo (by unfold N0;omega),p1,p2,ints_same lp (by unfold N0;omega),c1,c2,s1,s2]
end Go.Proofs.YtcfegecdlbbeaaaGreatDoor
end
section
namespace Go.Proofs.YtcfegecdlbbeaaaGreatDoor
open Go Go.E2
theorem awake_true : l14_awake = some true:=by kernel_rfl
end Go.Proofs.YtcfegecdlbbeaaaGreatDoor
end
section
namespace Go.Proofs.YtcfegecdlbbeaaaGreatDoor
open Go Go.E2
theorem ix_t {n : Nat} {i : Int} (h0 : 0 ≤ i) (h1 : i < n) : Tt (fun k=>k < n) (ixO n i):=by
 obtain ⟨k,rfl⟩ : ∃ k : Nat,i = k:=⟨i.toNat,by omega⟩
 exact ⟨k,ixO_nat (by omega),by omega⟩
theorem get_t {α : Type} {L : List α} {k : Nat} (h : k < L.length) : Tt (fun x=>x ∈ L) L[k]?:=⟨L[k],List.getElem?_eq_getElem h,List.getElem_mem h⟩
theorem set_NB {L : List Node} (h : ∀ n ∈ L,NB n) {z : Node} (hz : NB z) (k : Nat) : ∀ n ∈ L.set k z,NB n:=fun n hn=>by
 rcases List.mem_or_eq_of_mem_set hn with h1 | rfl
 ·exact h n h1
 ·exact hz
theorem kidsN : ∀ {L : List Node} {n : Node},n ∈ L → n.Kids.length ≤ (L.flatMap (·.Kids)).length
 | m :: r,n,h=>by
  rw [List.flatMap_cons,List.length_append]
  rcases List.mem_cons.1 h with rfl | h
  ·omega
  ·have:=kidsN h
   omega
theorem treesSpoilt_true (l : List Int) : l14_ViewTreesSpoilt l = some true:=by
 have key : Tt (· = true) (l14_ViewTreesSpoilt l):=by
  unfold l14_ViewTreesSpoilt
  refine Tt.bind (New_t l) (fun s hs=>Tt.bind (Tree_t (d:=2) (by omega) hs) (fun ts hts=>?_))
  obtain ⟨t,s2⟩:=ts
  have G : Good t:=hts.1
  have hl1:=G.shp.lim.2.2.1
  have hl4:=G.len
  have hlN : t.Nodes.length < N0:=by unfold N0;omega
  have hkid : ∀ n ∈ t.Nodes,n.Kids.length ≤ 400:=fun n hn=>by
   have h1:=kidsN hn
   have h2:=G.shp.tot
   omega
  refine Tt.jn (fun x=>SrcOk ⟨x.1,x.2⟩) (fun k4 hk4=>?_) (fun x hx=>?_)
  ·refine Tt.loopN (n:=t.Nodes.length) (fun (s : List Int × Int) i=>((i : Int),s)) (fun _ s=>SrcOk ⟨s.1,s.2⟩) hlN ?_ ?_ (s2.L,s2.At) hts.2
   ·intro again s i hi hp hag
    unfold l14_ViewTreesSpoilt_L1
    simp only
    rw [decide_eq_true (by omega : (i : Int) < (t.Nodes.length : Int)),sel_true]
    refine Tt.bind (idx_t (by omega) (by omega)) (fun y hy=>Tt.bind (N_t hp (by show (1 : Int) ≤ (t.Nodes.length : Int);omega) (by show (t.Nodes.length : Int) ≤ 1000000;omega)) (fun z hz=>Tt.bind (idx_t hz.1 hz.2.1) (fun u hu=>?_)))
    rw [same_true G.tb hlN,bind_some',Bool.not_true,sel_false,wrap_suc hi (by unfold N0;omega)]
    exact hag (z.2.L,z.2.At) hz.2.2
   ·intro again s hp
    unfold l14_ViewTreesSpoilt_L1
    simp only
    rw [decide_eq_false (by omega),sel_false]
    exact hk4 _ hp
  ·refine Tt.bind (app_t (by simp;omega)) (fun x5 h5=>Tt.bind (N_t hx (by show (1 : Int) ≤ (t.Nodes.length : Int);omega) (by show (t.Nodes.length : Int) ≤ 1000000;omega)) (fun x6 h6=>?_))
   rw [List.nil_append] at h5
   subst h5
   refine Tt.jn (fun y=>SrcOk ⟨y.1,y.2.1⟩ ∧ (∀ n ∈ y.2.2.2.2,NB n) ∧ y.2.2.2.2.length < N0) (fun k8 hk8=>?_) (fun y hy=>?_)
   ·refine Tt.bind (N_t h6.2.2 (by omega) (by omega)) (fun x13 h13=>?_)
    have hset : ∀ (k : Nat) (z : Node),(t.Nodes.set k z).length < N0:=fun k z=>by rw [List.length_set];exact hlN
    refine Tt.sel (fun _=>Tt.bind (Range_t h13.2.2 (by omega) (by omega) (by omega)) (fun r hr=>hk8 _ ⟨hr.2.2,G.tb,hlN⟩)) (fun _=>?_)
    refine Tt.sel (fun _=>Tt.bind (Range_t h13.2.2 (by omega) (by omega) (by omega)) (fun r hr=>hk8 _ ⟨hr.2.2,G.tb,hlN⟩)) (fun _=>?_)
    refine Tt.sel (fun _=>Tt.bind (Range_t h13.2.2 (by omega) (by omega) (by omega)) (fun r hr=>Tt.bind (ix_t h6.1 h6.2.1) (fun k hk=>Tt.bind (get_t hk) (fun n hn=>hk8 _ ⟨hr.2.2,set_NB G.tb (by exact G.tb n hn) k,hset _ _⟩)))) (fun _=>?_)
    refine Tt.sel (fun _=>Tt.bind (ix_t h6.1 h6.2.1) (fun k hk=>Tt.bind (get_t hk) (fun n hn=>Tt.bind (app_t (by have:=hkid n hn;simp;omega)) (fun q hq=>Tt.bind (Range_t h13.2.2 (by omega) (by omega) (by omega)) (fun r hr=>Tt.bind (app_t (by have:=hkid n hn;rw [hq];simp;omega)) (fun q2 hq2=>Tt.bind (ix_t h6.1 h6.2.1) (fun k2 hk2=>Tt.bind (get_t hk2) (fun n2 hn2=>hk8 _ ⟨hr.2.2,set_NB G.tb ?_ k2,hset _ _⟩)))))))) (fun _=>?_)
    ·obtain ⟨a1,a2,_,a4⟩:=G.tb n2 hn2
     refine ⟨a1,a2,?_,a4⟩
     have:=hkid n hn
     rw [hq2,hq]
     simp
     omega
    refine Tt.sel (fun _=>Tt.bind (ix_t h6.1 h6.2.1) (fun k hk=>Tt.bind (get_t hk) (fun n hn=>hk8 _ ⟨h13.2.2,set_NB G.tb (by exact ⟨(G.tb n hn).1,(G.tb n hn).2.1,Nat.zero_le _,(G.tb n hn).2.2.2⟩) k,hset _ _⟩))) (fun _=>?_)
    refine Tt.sel (fun _=>Tt.bind (Range_t h13.2.2 (by omega) (by omega) (by omega)) (fun r hr=>Tt.bind (ix_t h6.1 h6.2.1) (fun k hk=>Tt.bind (get_t hk) (fun n hn=>hk8 _ ⟨hr.2.2,set_NB G.tb (by exact G.tb n hn) k,hset _ _⟩)))) (fun _=>?_)
    refine Tt.sel (fun _=>Tt.bind (Range_t h13.2.2 (by omega) (by omega) (by omega)) (fun r hr=>Tt.bind (ix_t h6.1 h6.2.1) (fun k hk=>Tt.bind (get_t hk) (fun n hn=>hk8 _ ⟨hr.2.2,set_NB G.tb (by exact G.tb n hn) k,hset _ _⟩)))) (fun _=>?_)
    have h2 : ∀ key : Str,key ∈ [(ByteArray.mk #[107,97]),(ByteArray.mk #[107,98]),(ByteArray.mk #[63])] → key.size < N0:=fun key h1=>by
     have h3 : key.size ≤ 2:=by
      simp only [List.mem_cons,List.not_mem_nil,or_false] at h1
      rcases h1 with rfl | rfl | rfl <;> decide
     unfold N0
     omega
    refine Tt.bind (N_t h13.2.2 (by omega) (by omega)) (fun r hr=>Tt.bind (idx_t hr.1 hr.2.1) (fun key hkey=>Tt.bind (ix_t h6.1 h6.2.1) (fun k hk=>Tt.bind (get_t hk) (fun n hn=>hk8 _ ⟨hr.2.2,set_NB G.tb (by exact ⟨(G.tb n hn).1,(G.tb n hn).2.1,(G.tb n hn).2.2.1,h2 key hkey.1⟩) k,hset _ _⟩))))
   ·refine Tt.bind (Range_t hy.1 (by omega) (by omega) (by omega)) (fun r hr=>Tt.bind (Range_t hr.2.2 (by omega) (by omega) (by omega)) (fun r2 hr2=>?_))
    rw [same_true (t:=Tree.mk y.2.2.1 y.2.2.2.1 y.2.2.2.2) hy.2.1 hy.2.2,awake_true]
    exact ⟨true,rfl,rfl⟩
 obtain ⟨x,e,h⟩:=key
 subst h
 exact e
end Go.Proofs.YtcfegecdlbbeaaaGreatDoor
end

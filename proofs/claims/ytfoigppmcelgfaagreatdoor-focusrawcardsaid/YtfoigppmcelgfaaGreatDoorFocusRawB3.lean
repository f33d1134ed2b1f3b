/-
  Part 3 of the texts under the law FocusRaw: the calculus, the plain functions, their walks, plain facts.
-/
import Derived.Test.YtfoigppmcelgfaaGreatDoorFocusRawB2
import Derived.Test.YtfoigppmcelgfaaGreatDoorProg
import Derived.KernelRfl
import Derived.RangeFuncIn
import Derived.Below
section
set_option maxRecDepth 100000
namespace Go.Proofs.YtfoigppmcelgfaaGreatDoor
open Go Go.E2
abbrev lM {α β : Type} (f : α → β) (l : List α) : List β := List.map f l
abbrev lI (l : List Int) : List (List D) := List.map (eInt .i64) l
abbrev eI : Int → List D := eInt .i64
abbrev aV (l : List (List D)) : A1 := .c (.d (.sl l))
abbrev dV (l : List (List D)) : Cell := .d (.sl l)
abbrev sC (x : Cell) : AV := .s (.c x)
theorem tv : True := trivial
abbrev wq (x : Int) : Int := IntKind.i64.wrap x
abbrev tC (t : Tree) : List Cell := [cI t.Root, cI t.Next, .d (.sl (List.map Node.cs t.Nodes))]
theorem bq {α β : Type} {x : Option α} {k : α → Option β} {r : β} (h : x.bind k = some r) : ∃ a, x = some a ∧ k a = some r := bind_some h
theorem sq {α : Type _} {a b : α} (h : some a = some b) : a = b := Option.some.inj h
theorem zz {α : Sort _} {a : α} : a = a := rfl
theorem cl {α : Type _} {o : Option α} {x : α} {Q : α → Prop} (h : o = some x) : ∃ y, o = some y ∧ (y = x ∨ Q y) := ⟨x, h, .inl rfl⟩
theorem lY (c:Int) {r:Bool} (hr:gi c=some r):Con Tryz.prog 152 [.c (.d (.v (.int .u8 c)))] [] (.s (aB r)) []:=by
 unfold gi at hr
 refine ap 17 0 [.tmp 2] [(0,.s (.c (.d (.v (.int .u8 c)))))] Tryz.func152 zz zz zz zz zz zz zz zz fun w g M ρ _=>(af (ac (aa (aB false) (ab (af (ac (aa (.c (.d (.v (.int .u8 c)))) (aa (aB (decide (c≥97))) (aa (aB (decide (c≥97))) (ae (ai (x:=.c (.d (.v (.int .u8 c)))) zz zz tv zz) (ae (ai (x:=aB (decide (c≤122))) zz zz ⟨fun h=>h,tv⟩ zz) (ae (bb zz zz (fun h=>h) zz) (aa (aB ((decide (c≥97))&&(decide (c≤122)))) (ae (ai (x:=.c (.d (.v (.int .u8 c)))) zz zz tv zz) (ae (ai (x:=aB (decide (c≥65))) zz zz ⟨fun h=>h,tv⟩ zz) ?_)))))))))))))))
 refine ae (ai (x:=aB (decide (c≥65))) zz zz ⟨fun h=>h,tv⟩ zz) (ae (ai (x:=.c (.d (.v (.int .u8 c)))) zz zz tv zz) (ae (ai (x:=aB (decide (c≤90))) zz zz ⟨fun h=>h,tv⟩ zz) ?_))
 refine ae (iu zz zz zz (fun h=>h) (fun h h2=>by rw [h,h2];rfl) zz) ?_
 refine ae (bj zz zz (fun h=>by rw [h];rfl) zz) ?_
 refine aa (aB (((decide (c≥97))&&(decide (c≤122)))||((decide (c≥65))&&(decide (c≤90))))) (ab (ao ?_))
 obtain rfl:=sq hr
 exact ⟨_,zz,.inl zz,tv⟩
theorem lC (p_s:Str) {r:Bool} (hr:i5 p_s=some r):Con Tryz.prog 111 [aS p_s] [] (.s (aB r)) []:=by
 unfold i5 at hr
 refine ap 53 0 [.tmp 2] [(0,.s (aS p_s))] Tryz.func111 zz zz zz zz zz zz zz zz fun w g M ρ _=>(af (ac (aa (aB false) (ab (af (af (ac (aa (aS p_s) (aa (aI (p_s.size:Int)) (aa (aB (decide ((p_s.size:Int)<1))) (aa (aB (decide ((p_s.size:Int)<1))) (ae (ai (x:=aS p_s) zz zz tv zz) (ae (ai (x:=aI (p_s.size:Int)) zz zz ⟨fun h=>h,tv⟩ zz) (ae (ai (x:=aB (decide ((p_s.size:Int)>24))) zz zz ⟨fun h=>h,tv⟩ zz) ?_))))))))))))))
 refine ae (bj zz zz (fun h=>by rw [h];rfl) zz) ?_
 refine aa (aB ((decide ((p_s.size:Int)<1))||(decide ((p_s.size:Int)>24)))) (ae (ai (x:=aS p_s) zz zz tv zz) ?_)
 obtain ⟨x1,hx1,hr⟩:=bq hr
 refine ae (cB (cQ hx1) zz zz zz zz ⟨fun h=>h,tv⟩ zz) ?_
 obtain ⟨x2,hx2,hr⟩:=bq hr
 refine ae (a9 (x:=aB x2) (fun hg=>lY _ (cQ hx2 hg)) zz zz ⟨.inl zz,tv⟩ ⟨fun h=>h,tv⟩ tj zz zz zz) (ae (ai (x:=aB (!x2)) zz zz ⟨fun h=>h,tv⟩ zz) ?_)
 refine ae (bj zz zz (fun h=>by rw [h];rfl) zz) ?_
 refine ab ?_
 refine ah (b:=((decide ((p_s.size:Int)<1))||(decide ((p_s.size:Int)>24)))||(!x2)) zz (fun h3=>?_) (fun h3=>?_)
 have hr:=selT h3 hr
 refine af (ac (aa (aB false) (ab (ao ?_))))
 obtain rfl:=sq hr
 exact ⟨_,zz,.inl zz,tv⟩
 have hr:=selF h3 hr
 refine aj ?_
 obtain ⟨k5,hk5,hr⟩:=ax hr
 refine ay (fun (s4:Unit)=>⟨[],[],0⟩) k5 r (fun s4 hr=>?_) ?_
 rw [hk5] at hr
 refine af (ac (aa (aB true) (ab (ao ?_))))
 obtain rfl:=sq hr
 exact ⟨_,zz,.inl zz,tv⟩
 clear hk5
 refine af (ac (aa (aI 1) (ab (am (az (fun (s6:Int)=>⟨[(0,.s (aS p_s)),(3,.s (aI s6))],[],0⟩) hr (Conv.mk (tau []) ⟨cl zz,cl zz,tv⟩ tv zz zz zz zz) ?_)))))
 clear hr
 intro again7 s6 hr
 unfold i4 at hr
 refine af (af (ac (aa (aI s6) (aa (aS p_s) (aa (aI (p_s.size:Int)) (aa (aB (decide (s6<(p_s.size:Int)))) (ab ?_)))))))
 refine ah (b:=decide (s6<(p_s.size:Int))) zz (fun h8=>?_) (fun h8=>?_)
 have hr:=selT h8 hr
 refine aj (af (am (af (ac (aa (aS p_s) (aa (aI s6) ?_))))))
 obtain ⟨x9,hx9,hr⟩:=bq hr
 refine ae (fg hx9 zz zz zz tv zz) ?_
 obtain ⟨x10,hx10,hr⟩:=bq hr
 refine ae (aL (tau []) (.s (aB x10)) [] (lY _ hx10) zz ⟨.inl zz,tv⟩ tv tj tv) (aa (aB (!x10)) (aa (aB (!x10)) (ae (ai (x:=aS p_s) zz zz tv zz) (ae (ai (x:=aI s6) zz zz tv zz) ?_))))
 obtain ⟨x11,hx11,hr⟩:=bq hr
 refine ae (cB (cQ hx11) zz zz zz zz ⟨fun h=>h,⟨fun h=>h,tv⟩⟩ zz) (ae (ai (x:=aB (decide (x11<48))) zz zz ⟨fun h=>h,tv⟩ zz) (ae (ai (x:=aB (decide (x11<48))) zz zz ⟨fun h=>h,tv⟩ zz) (ae (ai (x:=aS p_s) zz zz tv zz) (ae (ai (x:=aI s6) zz zz tv zz) ?_))))
 obtain ⟨x12,hx12,hr⟩:=bq hr
 refine ae (cB (cQ hx12) zz zz zz zz ⟨fun h=>h,⟨fun h=>h,tv⟩⟩ zz) (ae (ai (x:=aB (decide (x12>57))) zz zz ⟨fun h=>h,tv⟩ zz) ?_)
 refine ae (lS zz zz zz (fun h=>h) (fun h h2=>by rw [h,h2];rfl) zz) ?_
 refine ae (bb zz zz (fun h=>h) zz) (aa (aB ((!x10)&&((decide (x11<48))||(decide (x12>57))))) (ae (ai (x:=aS p_s) zz zz tv zz) (ae (ai (x:=aI s6) zz zz tv zz) ?_)))
 obtain ⟨x13,hx13,hr⟩:=bq hr
 refine ae (cB (cQ hx13) zz zz zz zz ⟨fun h=>h,⟨fun h=>h,tv⟩⟩ zz) (ae (ai (x:=aB (x13 != 45)) zz zz ⟨fun h=>h,tv⟩ zz) (ae (bb zz zz (fun h=>h) zz) (aa (aB (((!x10)&&((decide (x11<48))||(decide (x12>57))))&&(x13 != 45))) (ae (ai (x:=aS p_s) zz zz tv zz) (ae (ai (x:=aI s6) zz zz tv zz) ?_)))))
 obtain ⟨x14,hx14,hr⟩:=bq hr
 refine ae (cB (cQ hx14) zz zz zz zz ⟨fun h=>h,⟨fun h=>h,tv⟩⟩ zz) (ae (ai (x:=aB (x14 != 95)) zz zz ⟨fun h=>h,tv⟩ zz) (ae (bb zz zz (fun h=>h) zz) (ab ?_)))
 refine ah (b:=(((!x10)&&((decide (x11<48))||(decide (x12>57))))&&(x13 != 45))&&(x14 != 95)) zz (fun h15=>?_) (fun h15=>?_)
 have hr:=selT h15 hr
 refine af (ac (aa (aB false) (ab (ao ?_))))
 obtain rfl:=sq hr
 exact ⟨_,zz,.inl zz,tv⟩
 have hr:=selF h15 hr
 refine aj (ac (aa (aI s6) (aa (aI (wq (s6+1))) (aa (aI (wq (s6+1))) (ab ?_)))))
 exact ⟨wq (s6+1),hr,(Conv.mk (tau []) ⟨cl zz,cl zz,tv⟩ tv zz zz zz zz)⟩
 have hr:=selF h8 hr
 refine aE ?_
 exact ⟨(),hr,(Conv.mk (tau []) tv tv zz zz zz zz)⟩
theorem nj (p_s:Str) {r:Bool} (hr:kB p_s=some r):Con Tryz.prog 199 [aS p_s] [] (.s (aB r)) []:=by
 unfold kB at hr
 refine ap 59 0 [.tmp 2] [(0,.s (aS p_s))] Tryz.func199 zz zz zz zz zz zz zz zz fun w g M ρ _=>(af (ac (aa (aB false) (ab (af (af (ac (aa (aS p_s) (aa (aI (p_s.size:Int)) (aa (aB ((p_s.size:Int)==0)) (aa (aB ((p_s.size:Int)==0)) (ae (ai (x:=aS p_s) zz zz tv zz) (ae (ai (x:=aI (p_s.size:Int)) zz zz ⟨fun h=>h,tv⟩ zz) (ae (ai (x:=aB (decide ((p_s.size:Int)>24))) zz zz ⟨fun h=>h,tv⟩ zz) ?_))))))))))))))
 refine ae (bj zz zz (fun h=>by rw [h];rfl) zz) ?_
 refine ab ?_
 refine ah (b:=((p_s.size:Int)==0)||(decide ((p_s.size:Int)>24))) zz (fun h1=>?_) (fun h1=>?_)
 have hr:=selT h1 hr
 refine af (ac (aa (aB false) (ab (ao ?_))))
 obtain rfl:=sq hr
 exact ⟨_,zz,.inl zz,tv⟩
 have hr:=selF h1 hr
 refine aj ?_
 obtain ⟨k3,hk3,hr⟩:=ax hr
 refine ay (fun (s2:Unit)=>⟨[],[],0⟩) k3 r (fun s2 hr=>?_) ?_
 rw [hk3] at hr
 refine af (ac (aa (aB true) (ab (ao ?_))))
 obtain rfl:=sq hr
 exact ⟨_,zz,.inl zz,tv⟩
 clear hk3
 refine af (ac (aa (aS p_s) (aa (aI (p_s.size:Int)) (aa (aI 0) (ab (am (az (fun (s4:Int)=>⟨[(0,.s (aS p_s)),(15,.s (aI (p_s.size:Int))),(16,.s (aI s4))],[],0⟩) hr (Conv.mk (tau []) ⟨cl zz,cl zz,cl zz,tv⟩ tv zz zz zz zz) ?_)))))))
 clear hr
 intro again5 s4 hr
 unfold j0 at hr
 refine af (ac (aa (aB (decide (s4<(p_s.size:Int)))) (ab (af ?_))))
 refine ah (b:=decide (s4<(p_s.size:Int))) zz (fun h6=>?_) (fun h6=>?_)
 have hr:=selT h6 hr
 refine aj (af (am (af (ac (aa (aI s4) (aa (aI s4) (ab (af (ac (aa (aS p_s) (aa (aI s4) ?_)))))))))))
 obtain ⟨x7,hx7,hr⟩:=bq hr
 refine ae (fg hx7 zz zz zz tv zz) (aa (.c (.d (.v (.int .u8 x7)))) (ab (af (ac (aa (.c (.d (.v (.int .u8 x7)))) (aa (aB (decide (x7≥97))) (aa (aB (decide (x7≥97))) (ae (ai (x:=.c (.d (.v (.int .u8 x7)))) zz zz tv zz) (ae (ai (x:=aB (decide (x7≤122))) zz zz ⟨fun h=>h,tv⟩ zz) (ae (bb zz zz (fun h=>h) zz) (aa (aB ((decide (x7≥97))&&(decide (x7≤122)))) (ae (ai (x:=.c (.d (.v (.int .u8 x7)))) zz zz tv zz) (ae (ai (x:=aB (decide (x7≥65))) zz zz ⟨fun h=>h,tv⟩ zz) (ae (ai (x:=aB (decide (x7≥65))) zz zz ⟨fun h=>h,tv⟩ zz) (ae (ai (x:=.c (.d (.v (.int .u8 x7)))) zz zz tv zz) ?_)))))))))))))))
 refine ae (ai (x:=aB (decide (x7≤90))) zz zz ⟨fun h=>h,tv⟩ zz) ?_
 refine ae (iu zz zz zz (fun h=>h) (fun h h2=>by rw [h,h2];rfl) zz) ?_
 refine ae (bj zz zz (fun h=>by rw [h];rfl) zz) ?_
 refine aa (aB (((decide (x7≥97))&&(decide (x7≤122)))||((decide (x7≥65))&&(decide (x7≤90))))) (ab (af (ac (aa (aB (((decide (x7≥97))&&(decide (x7≤122)))||((decide (x7≥65))&&(decide (x7≤90))))) (aa (aB (!(((decide (x7≥97))&&(decide (x7≤122)))||((decide (x7≥65))&&(decide (x7≤90)))))) (aa (aB (!(((decide (x7≥97))&&(decide (x7≤122)))||((decide (x7≥65))&&(decide (x7≤90)))))) (ae (ai (x:=aI s4) zz zz tv zz) (ae (ai (x:=aB (s4==0)) zz zz ⟨fun h=>h,tv⟩ zz) (ae (ai (x:=aB (s4==0)) zz zz ⟨fun h=>h,tv⟩ zz) (ae (ai (x:=.c (.d (.v (.int .u8 x7)))) zz zz tv zz) (ae (ai (x:=aB (decide (x7<48))) zz zz ⟨fun h=>h,tv⟩ zz) (ae (ai (x:=aB (decide (x7<48))) zz zz ⟨fun h=>h,tv⟩ zz) (ae (ai (x:=.c (.d (.v (.int .u8 x7)))) zz zz tv zz) (ae (ai (x:=aB (decide (x7>57))) zz zz ⟨fun h=>h,tv⟩ zz) ?_))))))))))))))
 refine ae (lS zz zz zz (fun h=>h) (fun h h2=>by rw [h,h2];rfl) zz) ?_
 refine ae (ai (x:=aB ((decide (x7<48))||(decide (x7>57)))) zz zz ⟨fun h=>h,tv⟩ zz) (ae (ai (x:=.c (.d (.v (.int .u8 x7)))) zz zz tv zz) (ae (ai (x:=aB (x7 != 45)) zz zz ⟨fun h=>h,tv⟩ zz) ?_))
 refine ae (iu zz zz zz (fun h=>h) (fun h h2=>by rw [h,h2];rfl) zz) ?_
 refine ae (ai (x:=aB (((decide (x7<48))||(decide (x7>57)))&&(x7 != 45))) zz zz ⟨fun h=>h,tv⟩ zz) (ae (ai (x:=.c (.d (.v (.int .u8 x7)))) zz zz tv zz) (ae (ai (x:=aB (x7 != 95)) zz zz ⟨fun h=>h,tv⟩ zz) ?_))
 refine ae (iu zz zz zz (fun h=>h) (fun h h2=>by rw [h,h2];rfl) zz) ?_
 refine ae (lS zz zz zz (fun h=>h) (fun h h2=>by rw [h,h2];rfl) zz) ?_
 refine ae (bb zz zz (fun h=>h) zz) (ab ?_)
 refine ah (b:=(!(((decide (x7≥97))&&(decide (x7≤122)))||((decide (x7≥65))&&(decide (x7≤90)))))&&((s4==0)||((((decide (x7<48))||(decide (x7>57)))&&(x7 != 45))&&(x7 != 95)))) zz (fun h8=>?_) (fun h8=>?_)
 have hr:=selT h8 hr
 refine af (ac (aa (aB false) (ab (ao ?_))))
 obtain rfl:=sq hr
 exact ⟨_,zz,.inl zz,tv⟩
 have hr:=selF h8 hr
 refine aj (ac (aa (aI (wq (s4+1))) (aa (aI (wq (s4+1))) (ab ?_))))
 exact ⟨wq (s4+1),hr,(Conv.mk (tau []) ⟨cl zz,cl zz,cl zz,tv⟩ tv zz zz zz zz)⟩
 have hr:=selF h6 hr
 refine aE ?_
 exact ⟨(),hr,(Conv.mk (tau []) tv tv zz zz zz zz)⟩
theorem u5 (p_s:Str) {r:Bool} (hr:oQ p_s=some r):Con Tryz.prog 151 [aS p_s] [] (.s (aB r)) []:=by
 unfold oQ at hr
 refine ap 47 0 [.tmp 2] [(0,.s (aS p_s))] Tryz.func151 zz zz zz zz zz zz zz zz fun w g M ρ _=>(af (ac (aa (aB false) (ab ?_))))
 obtain ⟨k2,hk2,hr⟩:=ax hr
 refine ay (fun (s1:Unit)=>⟨[(0,.s (aS p_s))],[],0⟩) k2 r (fun s1 hr=>?_) ?_
 rw [hk2] at hr
 refine af (ac (aa (aS p_s) (aa (aI (p_s.size:Int)) (aa (aB (decide ((p_s.size:Int)≤24))) (aa (aB (decide ((p_s.size:Int)≤24))) (ab (ao ?_)))))))
 obtain rfl:=sq hr
 exact ⟨_,zz,.inl zz,tv⟩
 clear hk2
 refine af (ac (aa (aI 0) (ab (am (az (fun (s3:Int)=>⟨[(0,.s (aS p_s)),(3,.s (aI s3))],[],0⟩) hr (Conv.mk (tau []) ⟨cl zz,cl zz,tv⟩ tv zz zz zz zz) ?_)))))
 clear hr
 intro again4 s3 hr
 unfold nW at hr
 refine af (af (ac (aa (aI s3) (aa (aS p_s) (aa (aI (p_s.size:Int)) (aa (aB (decide (s3<(p_s.size:Int)))) (ab ?_)))))))
 refine ah (b:=decide (s3<(p_s.size:Int))) zz (fun h5=>?_) (fun h5=>?_)
 have hr:=selT h5 hr
 refine aj (af (am (af (ac (aa (aS p_s) (aa (aI s3) ?_))))))
 obtain ⟨x6,hx6,hr⟩:=bq hr
 refine ae (fg hx6 zz zz zz tv zz) (aa (.c (.d (.v (.int .u8 x6)))) (ab (af (ac (aa (.c (.d (.v (.int .u8 x6)))) (aa (aB (decide (x6<97))) (aa (aB (decide (x6<97))) (ae (ai (x:=.c (.d (.v (.int .u8 x6)))) zz zz tv zz) (ae (ai (x:=aB (decide (x6>122))) zz zz ⟨fun h=>h,tv⟩ zz) ?_)))))))))
 refine ae (bj zz zz (fun h=>by rw [h];rfl) zz) ?_
 refine aa (aB ((decide (x6<97))||(decide (x6>122)))) (ae (ai (x:=.c (.d (.v (.int .u8 x6)))) zz zz tv zz) (ae (ai (x:=aB (decide (x6<65))) zz zz ⟨fun h=>h,tv⟩ zz) (ae (ai (x:=aB (decide (x6<65))) zz zz ⟨fun h=>h,tv⟩ zz) (ae (ai (x:=.c (.d (.v (.int .u8 x6)))) zz zz tv zz) (ae (ai (x:=aB (decide (x6>90))) zz zz ⟨fun h=>h,tv⟩ zz) ?_)))))
 refine ae (lS zz zz zz (fun h=>h) (fun h h2=>by rw [h,h2];rfl) zz) ?_
 refine ae (bb zz zz (fun h=>h) zz) (aa (aB (((decide (x6<97))||(decide (x6>122)))&&((decide (x6<65))||(decide (x6>90))))) (ae (ai (x:=.c (.d (.v (.int .u8 x6)))) zz zz tv zz) (ae (ai (x:=aB (decide (x6<48))) zz zz ⟨fun h=>h,tv⟩ zz) (ae (ai (x:=aB (decide (x6<48))) zz zz ⟨fun h=>h,tv⟩ zz) (ae (ai (x:=.c (.d (.v (.int .u8 x6)))) zz zz tv zz) (ae (ai (x:=aB (decide (x6>57))) zz zz ⟨fun h=>h,tv⟩ zz) ?_))))))
 refine ae (lS zz zz zz (fun h=>h) (fun h h2=>by rw [h,h2];rfl) zz) ?_
 refine ae (bb zz zz (fun h=>h) zz) (aa (aB ((((decide (x6<97))||(decide (x6>122)))&&((decide (x6<65))||(decide (x6>90))))&&((decide (x6<48))||(decide (x6>57))))) (ae (ai (x:=.c (.d (.v (.int .u8 x6)))) zz zz tv zz) (ae (ai (x:=aB (x6 != 45)) zz zz ⟨fun h=>h,tv⟩ zz) (ae (bb zz zz (fun h=>h) zz) (aa (aB (((((decide (x6<97))||(decide (x6>122)))&&((decide (x6<65))||(decide (x6>90))))&&((decide (x6<48))||(decide (x6>57))))&&(x6 != 45))) (ae (ai (x:=.c (.d (.v (.int .u8 x6)))) zz zz tv zz) (ae (ai (x:=aB (x6 != 95)) zz zz ⟨fun h=>h,tv⟩ zz) (ae (bb zz zz (fun h=>h) zz) (ab ?_)))))))))
 refine ah (b:=(((((decide (x6<97))||(decide (x6>122)))&&((decide (x6<65))||(decide (x6>90))))&&((decide (x6<48))||(decide (x6>57))))&&(x6 != 45))&&(x6 != 95)) zz (fun h7=>?_) (fun h7=>?_)
 have hr:=selT h7 hr
 refine af (ac (aa (aB false) (ab (ao ?_))))
 obtain rfl:=sq hr
 exact ⟨_,zz,.inl zz,tv⟩
 have hr:=selF h7 hr
 refine aj (ac (aa (aI s3) (aa (aI (wq (s3+1))) (aa (aI (wq (s3+1))) (ab ?_)))))
 exact ⟨wq (s3+1),hr,(Conv.mk (tau []) ⟨cl zz,cl zz,tv⟩ tv zz zz zz zz)⟩
 have hr:=selF h5 hr
 refine aE ?_
 exact ⟨(),hr,(Conv.mk (tau []) ⟨cl zz,tv⟩ tv zz zz zz zz)⟩
theorem uZ (p_s:Str) {r:Bool} (hr:mX p_s=some r):Con Tryz.prog 110 [aS p_s] [] (.s (aB r)) []:=by
 unfold mX at hr
 refine ap 5 0 [.tmp 2] [(0,.s (aS p_s))] Tryz.func110 zz zz zz zz zz zz zz zz fun w g M ρ _=>(af (ac (aa (aB false) (ab (af (ac (aa (aS p_s) ?_)))))))
 obtain ⟨x1,hx1,hr⟩:=bq hr
 refine ae (aL (tau []) (.s (aB x1)) [] (u5 _ hx1) zz ⟨.inl zz,tv⟩ tv xx tv) (aa (aB x1) (ab (ao ?_)))
 obtain rfl:=sq hr
 exact ⟨_,zz,.inl zz,tv⟩
theorem wE (p_s:Str) {r:Bool} (hr:nL p_s=some r):Con Tryz.prog 193 [aS p_s] [] (.s (aB r)) []:=by
 unfold nL at hr
 refine ap 47 0 [.tmp 2] [(0,.s (aS p_s))] Tryz.func193 zz zz zz zz zz zz zz zz fun w g M ρ _=>(af (ac (aa (aB false) (ab ?_))))
 obtain ⟨k2,hk2,hr⟩:=ax hr
 refine ay (fun (s1:Unit)=>⟨[(0,.s (aS p_s))],[],0⟩) k2 r (fun s1 hr=>?_) ?_
 rw [hk2] at hr
 refine af (ac (aa (aS p_s) (aa (aI (p_s.size:Int)) (aa (aB (decide ((p_s.size:Int)≤24))) (aa (aB (decide ((p_s.size:Int)≤24))) (ab (ao ?_)))))))
 obtain rfl:=sq hr
 exact ⟨_,zz,.inl zz,tv⟩
 clear hk2
 refine af (ac (aa (aS p_s) (aa (aI (p_s.size:Int)) (aa (aI 0) (ab (am (az (fun (s3:Int)=>⟨[(0,.s (aS p_s)),(6,.s (aI (p_s.size:Int))),(7,.s (aI s3))],[],0⟩) hr (Conv.mk (tau []) ⟨cl zz,cl zz,cl zz,tv⟩ tv zz zz zz zz) ?_)))))))
 clear hr
 intro again4 s3 hr
 unfold kJ at hr
 refine af (ac (aa (aB (decide (s3<(p_s.size:Int)))) (ab (af ?_))))
 refine ah (b:=decide (s3<(p_s.size:Int))) zz (fun h5=>?_) (fun h5=>?_)
 have hr:=selT h5 hr
 refine aj (af (am (af (ac (aa (aI s3) (aa (aI s3) (ab (af (ac (aa (aS p_s) (aa (aI s3) ?_)))))))))))
 obtain ⟨x6,hx6,hr⟩:=bq hr
 refine ae (fg hx6 zz zz zz tv zz) (aa (.c (.d (.v (.int .u8 x6)))) (ab (af (ac (aa (.c (.d (.v (.int .u8 x6)))) (aa (aB (decide (x6<97))) (aa (aB (decide (x6<97))) (ae (ai (x:=.c (.d (.v (.int .u8 x6)))) zz zz tv zz) (ae (ai (x:=aB (decide (x6>122))) zz zz ⟨fun h=>h,tv⟩ zz) ?_)))))))))
 refine ae (bj zz zz (fun h=>by rw [h];rfl) zz) ?_
 refine aa (aB ((decide (x6<97))||(decide (x6>122)))) (ae (ai (x:=.c (.d (.v (.int .u8 x6)))) zz zz tv zz) (ae (ai (x:=aB (decide (x6<65))) zz zz ⟨fun h=>h,tv⟩ zz) (ae (ai (x:=aB (decide (x6<65))) zz zz ⟨fun h=>h,tv⟩ zz) (ae (ai (x:=.c (.d (.v (.int .u8 x6)))) zz zz tv zz) (ae (ai (x:=aB (decide (x6>90))) zz zz ⟨fun h=>h,tv⟩ zz) ?_)))))
 refine ae (lS zz zz zz (fun h=>h) (fun h h2=>by rw [h,h2];rfl) zz) ?_
 refine ae (bb zz zz (fun h=>h) zz) (aa (aB (((decide (x6<97))||(decide (x6>122)))&&((decide (x6<65))||(decide (x6>90))))) (ae (ai (x:=.c (.d (.v (.int .u8 x6)))) zz zz tv zz) (ae (ai (x:=aB (decide (x6<48))) zz zz ⟨fun h=>h,tv⟩ zz) (ae (ai (x:=aB (decide (x6<48))) zz zz ⟨fun h=>h,tv⟩ zz) (ae (ai (x:=.c (.d (.v (.int .u8 x6)))) zz zz tv zz) (ae (ai (x:=aB (decide (x6>57))) zz zz ⟨fun h=>h,tv⟩ zz) ?_))))))
 refine ae (lS zz zz zz (fun h=>h) (fun h h2=>by rw [h,h2];rfl) zz) ?_
 refine ae (bb zz zz (fun h=>h) zz) (aa (aB ((((decide (x6<97))||(decide (x6>122)))&&((decide (x6<65))||(decide (x6>90))))&&((decide (x6<48))||(decide (x6>57))))) (ae (ai (x:=.c (.d (.v (.int .u8 x6)))) zz zz tv zz) (ae (ai (x:=aB (x6 != 45)) zz zz ⟨fun h=>h,tv⟩ zz) (ae (bb zz zz (fun h=>h) zz) (aa (aB (((((decide (x6<97))||(decide (x6>122)))&&((decide (x6<65))||(decide (x6>90))))&&((decide (x6<48))||(decide (x6>57))))&&(x6 != 45))) (ae (ai (x:=.c (.d (.v (.int .u8 x6)))) zz zz tv zz) (ae (ai (x:=aB (x6 != 95)) zz zz ⟨fun h=>h,tv⟩ zz) (ae (bb zz zz (fun h=>h) zz) (ab ?_)))))))))
 refine ah (b:=(((((decide (x6<97))||(decide (x6>122)))&&((decide (x6<65))||(decide (x6>90))))&&((decide (x6<48))||(decide (x6>57))))&&(x6 != 45))&&(x6 != 95)) zz (fun h7=>?_) (fun h7=>?_)
 have hr:=selT h7 hr
 refine af (ac (aa (aB false) (ab (ao ?_))))
 obtain rfl:=sq hr
 exact ⟨_,zz,.inl zz,tv⟩
 have hr:=selF h7 hr
 refine aj (ac (aa (aI (wq (s3+1))) (aa (aI (wq (s3+1))) (ab ?_))))
 exact ⟨wq (s3+1),hr,(Conv.mk (tau []) ⟨cl zz,cl zz,cl zz,tv⟩ tv zz zz zz zz)⟩
 have hr:=selF h5 hr
 refine aE ?_
 exact ⟨(),hr,(Conv.mk (tau []) ⟨cl zz,tv⟩ tv zz zz zz zz)⟩
theorem ub (p_s:Str) {r:Bool} (hr:lc p_s=some r):Con Tryz.prog 191 [aS p_s] [] (.s (aB r)) []:=by
 unfold lc at hr
 refine ap 8 0 [.tmp 2] [(0,.s (aS p_s))] Tryz.func191 zz zz zz zz zz zz zz zz fun w g M ρ _=>(af (ac (aa (aB false) (ab (af (ac (aa (aS p_s) (ae (wH zz zz tv zz) (ae (tU (L:=runes p_s) zz zz tv zz) (aa (aS p_s) (aa (aB ((ofRunes (runes p_s)).toList==p_s.toList)) (aa (aB ((ofRunes (runes p_s)).toList==p_s.toList)) (ab (ao ?_))))))))))))))
 obtain rfl:=sq hr
 exact ⟨_,zz,.inl zz,tv⟩
theorem rL (v:AValue) {r:Bool} (hr:jE v=some r):Con Tryz.prog 215 [.agg [cI v.Kind,cI v.N,cS v.S,dV ((lM AValue.cs v.L))]] [] (.s (aB r)) []:=by
 unfold jE at hr
 refine ap 38 0 [.tmp 2] [(0,.s (.agg [cI v.Kind,cI v.N,cS v.S,dV ((lM AValue.cs v.L))]))] Tryz.func215 zz zz zz zz zz zz zz zz fun w g M ρ _=>(af (ac (ak 0 (aP (j:=0) (cs:=[cI v.Kind,cI v.N,cS v.S,dV ((lM AValue.cs v.L))]) zz zz zz zz zz) (aa (aB false) (ab (af (af (ac (aa (.c (.loc 0 0)) (aa (aI v.Kind) (ab (am ?_))))))))))))
 obtain ⟨k2,hk2,hr⟩:=ax hr
 refine ay (fun (s1:Bool)=>⟨[(1,.s (.c (.loc 0 0))),(4,.s (aI v.Kind)),(5,.s (aB s1))],[(0,.blk [cI v.Kind,cI v.N,cS v.S,dV ((lM AValue.cs v.L))] 53)],0⟩) k2 r (fun s1 hr=>?_) ?_
 rw [hk2] at hr
 refine ah (b:=s1) zz (fun h3=>?_) (fun h3=>?_)
 have hr:=selT h3 hr
 refine af (ac (aa (.c (.loc 0 2)) (aa (aS v.S) (aa (aB (v.S.toList==(ByteArray.mk #[]).toList)) (aa (aB (v.S.toList==(ByteArray.mk #[]).toList)) (ae (ai (x:=.c (.loc 0 3)) zz zz tv zz) (ae (ai (x:=aV (((lM AValue.cs v.L)))) zz zz ⟨fun h=>h,tv⟩ zz) (ae (cy (enc:=AValue.cs) v.L zz zz zz ⟨fun h=>h,tv⟩ zz) (ae (ai (x:=aB ((v.L.length:Int)==0)) zz zz ⟨fun h=>h,tv⟩ zz) (ae (bb zz zz (fun h=>h) zz) (aa (aB ((v.S.toList==(ByteArray.mk #[]).toList)&&((v.L.length:Int)==0))) (ab (ao ?_)))))))))))))
 obtain rfl:=sq hr
 exact ⟨_,zz,.inl zz,tv⟩
 have hr:=selF h3 hr
 refine af (ac (aa (aB (v.Kind==3)) (aa (aB (v.Kind==3)) (ab ?_))))
 refine ah (b:=v.Kind==3) zz (fun h4=>?_) (fun h4=>?_)
 have hr:=selT h4 hr
 refine af (ac (aa (.c (.loc 0 1)) (aa (aI v.N) (aa (aB (v.N==0)) (aa (aB (v.N==0)) (ae (ai (x:=.c (.loc 0 3)) zz zz tv zz) (ae (ai (x:=aV (((lM AValue.cs v.L)))) zz zz ⟨fun h=>h,tv⟩ zz) (ae (cy (enc:=AValue.cs) v.L zz zz zz ⟨fun h=>h,tv⟩ zz) (ae (ai (x:=aB ((v.L.length:Int)==0)) zz zz ⟨fun h=>h,tv⟩ zz) (ae (bb zz zz (fun h=>h) zz) (aa (aB ((v.N==0)&&((v.L.length:Int)==0))) (ab (ao ?_)))))))))))))
 obtain rfl:=sq hr
 exact ⟨_,zz,.inl zz,tv⟩
 have hr:=selF h4 hr
 refine af (ac (aa (aB (v.Kind==4)) (aa (aB (v.Kind==4)) (ab ?_))))
 refine ah (b:=v.Kind==4) zz (fun h5=>?_) (fun h5=>?_)
 have hr:=selT h5 hr
 refine af (ac (aa (.c (.loc 0 1)) (aa (aI v.N) (aa (aB (v.N==0)) (aa (aB (v.N==0)) (ae (ai (x:=.c (.loc 0 2)) zz zz tv zz) (ae (ai (x:=aS v.S) zz zz ⟨fun h=>h,tv⟩ zz) (ae (ai (x:=aB (v.S.toList==(ByteArray.mk #[]).toList)) zz zz ⟨fun h=>h,tv⟩ zz) (ae (bb zz zz (fun h=>h) zz) (aa (aB ((v.N==0)&&(v.S.toList==(ByteArray.mk #[]).toList))) (ab (ao ?_))))))))))))
 obtain rfl:=sq hr
 exact ⟨_,zz,.inl zz,tv⟩
 have hr:=selF h5 hr
 refine aj (af (ac (aa (aB false) (ab (ao ?_)))))
 obtain rfl:=sq hr
 exact ⟨_,zz,.inl zz,tv⟩
 clear hk2
 refine af (ac (aa (aB (v.Kind==1)) (aa (aB (v.Kind==1)) (ab ?_))))
 refine ah (b:=v.Kind==1) zz (fun h6=>?_) (fun h6=>?_)
 have hr:=selT h6 hr
 refine aj ?_
 exact ⟨v.Kind==1,hr,(Conv.mk (tau []) ⟨cl zz,cl zz,cl zz,tv⟩ ⟨zz,tv⟩ zz zz zz zz)⟩
 have hr:=selF h6 hr
 refine ac (aa (aB (v.Kind==2)) (aa (aB (v.Kind==2)) (ab ?_)))
 exact ⟨v.Kind==2,hr,(Conv.mk (tau []) ⟨cl zz,cl zz,cl zz,tv⟩ ⟨zz,tv⟩ zz zz zz zz)⟩
theorem rI (p_n:Int) {r:Bool} (hr:fb p_n=some r):Con Tryz.prog 216 [aI p_n] [] (.s (aB r)) []:=by
 unfold fb at hr
 refine ap 9 0 [.tmp 2] [(0,.s (aI p_n))] Tryz.func216 zz zz zz zz zz zz zz zz fun w g M ρ _=>(af (ac (aa (aB false) (ab (af (ac (aa (aI p_n) (aa (aB (decide (p_n≥(-1099511627776)))) (aa (aB (decide (p_n≥(-1099511627776)))) (ae (ai (x:=aI p_n) zz zz tv zz) (ae (ai (x:=aB (decide (p_n≤1099511627776))) zz zz ⟨fun h=>h,tv⟩ zz) (ae (bb zz zz (fun h=>h) zz) (aa (aB ((decide (p_n≥(-1099511627776)))&&(decide (p_n≤1099511627776)))) (ab (ao ?_)))))))))))))))
 obtain rfl:=sq hr
 exact ⟨_,zz,.inl zz,tv⟩
theorem bf (p_s:Str) {r:Int} (hr:aJ p_s=some r):Con Tryz.prog 220 [aS p_s] [] (.s (.c (.d (.v (.int .u64 r))))) []:=by
 unfold aJ at hr
 refine ap 59 0 [.tmp 2] [(0,.s (aS p_s))] Tryz.func220 zz zz zz zz zz zz zz zz fun w g M ρ _=>(af (ac (aa (.c (.d (.v (.int .u64 0)))) (ab (af ?_)))))
 refine ah (b:=false) zz (fun h=>by cases h) (fun _=>?_)
 refine aj (af (aF (by kernel_rfl) (ar (aS p_s) zz tv zz ?_)))
 obtain ⟨x2,hx2,hr⟩:=bq hr
 refine av (fg hx2 zz zz zz tv zz) (ar (.c (.d (.v (.int .u64 (IntKind.u64.wrap x2))))) zz tv zz (ar (aS p_s) zz tv zz ?_))
 obtain ⟨x3,hx3,hr⟩:=bq hr
 refine av (fg hx3 zz zz zz tv zz) (ar (.c (.d (.v (.int .u64 (IntKind.u64.wrap x3))))) zz tv zz (ar (.c (.d (.v (.int .u64 (bShl .u64 (IntKind.u64.wrap x3) 8))))) zz tv zz (ar (.c (.d (.v (.int .u64 (bOr .u64 (IntKind.u64.wrap x2) (bShl .u64 (IntKind.u64.wrap x3) 8)))))) zz tv zz (ar (aS p_s) zz tv zz ?_))))
 obtain ⟨x4,hx4,hr⟩:=bq hr
 refine av (fg hx4 zz zz zz tv zz) (ar (.c (.d (.v (.int .u64 (IntKind.u64.wrap x4))))) zz tv zz (ar (.c (.d (.v (.int .u64 (bShl .u64 (IntKind.u64.wrap x4) 16))))) zz tv zz (ar (.c (.d (.v (.int .u64 (bOr .u64 (bOr .u64 (IntKind.u64.wrap x2) (bShl .u64 (IntKind.u64.wrap x3) 8)) (bShl .u64 (IntKind.u64.wrap x4) 16)))))) zz tv zz (ar (aS p_s) zz tv zz ?_))))
 obtain ⟨x5,hx5,hr⟩:=bq hr
 refine av (fg hx5 zz zz zz tv zz) (ar (.c (.d (.v (.int .u64 (IntKind.u64.wrap x5))))) zz tv zz (ar (.c (.d (.v (.int .u64 (bShl .u64 (IntKind.u64.wrap x5) 24))))) zz tv zz (ar (.c (.d (.v (.int .u64 (bOr .u64 (bOr .u64 (bOr .u64 (IntKind.u64.wrap x2) (bShl .u64 (IntKind.u64.wrap x3) 8)) (bShl .u64 (IntKind.u64.wrap x4) 16)) (bShl .u64 (IntKind.u64.wrap x5) 24)))))) zz tv zz (ar (aS p_s) zz tv zz ?_))))
 obtain ⟨x6,hx6,hr⟩:=bq hr
 refine av (fg hx6 zz zz zz tv zz) (ar (.c (.d (.v (.int .u64 (IntKind.u64.wrap x6))))) zz tv zz (ar (.c (.d (.v (.int .u64 (bShl .u64 (IntKind.u64.wrap x6) 32))))) zz tv zz (ar (.c (.d (.v (.int .u64 (bOr .u64 (bOr .u64 (bOr .u64 (bOr .u64 (IntKind.u64.wrap x2) (bShl .u64 (IntKind.u64.wrap x3) 8)) (bShl .u64 (IntKind.u64.wrap x4) 16)) (bShl .u64 (IntKind.u64.wrap x5) 24)) (bShl .u64 (IntKind.u64.wrap x6) 32)))))) zz tv zz (ar (aS p_s) zz tv zz ?_))))
 obtain ⟨x7,hx7,hr⟩:=bq hr
 refine av (fg hx7 zz zz zz tv zz) (ar (.c (.d (.v (.int .u64 (IntKind.u64.wrap x7))))) zz tv zz (ar (.c (.d (.v (.int .u64 (bShl .u64 (IntKind.u64.wrap x7) 40))))) zz tv zz (ar (.c (.d (.v (.int .u64 (bOr .u64 (bOr .u64 (bOr .u64 (bOr .u64 (bOr .u64 (IntKind.u64.wrap x2) (bShl .u64 (IntKind.u64.wrap x3) 8)) (bShl .u64 (IntKind.u64.wrap x4) 16)) (bShl .u64 (IntKind.u64.wrap x5) 24)) (bShl .u64 (IntKind.u64.wrap x6) 32)) (bShl .u64 (IntKind.u64.wrap x7) 40)))))) zz tv zz (ar (aS p_s) zz tv zz ?_))))
 obtain ⟨x8,hx8,hr⟩:=bq hr
 refine av (fg hx8 zz zz zz tv zz) (ar (.c (.d (.v (.int .u64 (IntKind.u64.wrap x8))))) zz tv zz (ar (.c (.d (.v (.int .u64 (bShl .u64 (IntKind.u64.wrap x8) 48))))) zz tv zz (ar (.c (.d (.v (.int .u64 (bOr .u64 (bOr .u64 (bOr .u64 (bOr .u64 (bOr .u64 (bOr .u64 (IntKind.u64.wrap x2) (bShl .u64 (IntKind.u64.wrap x3) 8)) (bShl .u64 (IntKind.u64.wrap x4) 16)) (bShl .u64 (IntKind.u64.wrap x5) 24)) (bShl .u64 (IntKind.u64.wrap x6) 32)) (bShl .u64 (IntKind.u64.wrap x7) 40)) (bShl .u64 (IntKind.u64.wrap x8) 48)))))) zz tv zz (ar (aS p_s) zz tv zz ?_))))
 obtain ⟨x9,hx9,hr⟩:=bq hr
 refine av (fg hx9 zz zz zz tv zz) (ar (.c (.d (.v (.int .u64 (IntKind.u64.wrap x9))))) zz tv zz (ar (.c (.d (.v (.int .u64 (bShl .u64 (IntKind.u64.wrap x9) 56))))) zz tv zz (ar (.c (.d (.v (.int .u64 (bOr .u64 (bOr .u64 (bOr .u64 (bOr .u64 (bOr .u64 (bOr .u64 (bOr .u64 (IntKind.u64.wrap x2) (bShl .u64 (IntKind.u64.wrap x3) 8)) (bShl .u64 (IntKind.u64.wrap x4) 16)) (bShl .u64 (IntKind.u64.wrap x5) 24)) (bShl .u64 (IntKind.u64.wrap x6) 32)) (bShl .u64 (IntKind.u64.wrap x7) 40)) (bShl .u64 (IntKind.u64.wrap x8) 48)) (bShl .u64 (IntKind.u64.wrap x9) 56)))))) zz tv zz (ar (.c (.d (.v (.int .u64 (bOr .u64 (bOr .u64 (bOr .u64 (bOr .u64 (bOr .u64 (bOr .u64 (bOr .u64 (IntKind.u64.wrap x2) (bShl .u64 (IntKind.u64.wrap x3) 8)) (bShl .u64 (IntKind.u64.wrap x4) 16)) (bShl .u64 (IntKind.u64.wrap x5) 24)) (bShl .u64 (IntKind.u64.wrap x6) 32)) (bShl .u64 (IntKind.u64.wrap x7) 40)) (bShl .u64 (IntKind.u64.wrap x8) 48)) (bShl .u64 (IntKind.u64.wrap x9) 56)))))) zz tv zz (aY (by kernel_rfl) (ao ?_))))))
 obtain rfl:=sq hr
 exact ⟨_,zz,.inl zz,tv⟩
theorem gW (p_s:Str) {r:Bool} (hr:bO p_s=some r):Con Tryz.prog 217 [aS p_s] [] (.s (aB r)) []:=by
 unfold bO at hr
 refine ap 169 0 [.tmp 2] [(0,.s (aS p_s))] Tryz.func217 zz zz zz zz zz zz zz zz fun w g M ρ _=>(af (ac (aa (aB false) (ab ?_))))
 obtain ⟨k2,hk2,hr⟩:=ax hr
 refine ay (fun (s1:Unit)=>⟨[],[],0⟩) k2 r (fun s1 hr=>?_) ?_
 rw [hk2] at hr
 refine af (ac (aa (aB true) (ab (ao ?_))))
 obtain rfl:=sq hr
 exact ⟨_,zz,.inl zz,tv⟩
 clear hk2
 refine am (az (fun (s3:Str)=>⟨[(0,.s (aS s3))],[],0⟩) hr (Conv.mk (tau []) ⟨cl zz,tv⟩ tv zz zz zz zz) ?_)
 clear hr
 intro again4 s3 hr
 unfold bk at hr
 refine af (af (ac (aa (aS s3) (aa (aI (s3.size:Int)) (aa (aB (decide ((s3.size:Int)>0))) (ab ?_))))))
 refine ah (b:=decide ((s3.size:Int)>0)) zz (fun h5=>?_) (fun h5=>?_)
 have hr:=selT h5 hr
 refine aj ?_
 obtain ⟨k7,hk7,hr⟩:=ax hr
 refine bZ (fun (s6:Str)=>⟨[(0,.s (aS s6))],[],0⟩) k7 r (fun s6 hr=>?_) ?_
 rw [hk7] at hr
 exact ⟨s6,hr,(Conv.mk (tau []) ⟨cl zz,tv⟩ tv zz zz zz zz)⟩
 clear hk7
 refine am (af (ac (aa (aS s3) ?_)))
 obtain ⟨x8,hx8,hr⟩:=bq hr
 refine ae (fg hx8 zz zz zz tv zz) (aa (.c (.d (.v (.int .u8 x8)))) (ab (af (af (ac (aa (.c (.d (.v (.int .u8 x8)))) (aa (aB (decide (x8<128))) (ab ?_))))))))
 refine ah (b:=decide (x8<128)) zz (fun h9=>?_) (fun h9=>?_)
 have hr:=selT h9 hr
 refine af (ac (aa (aS s3) ?_))
 obtain ⟨x10,hx10,hr⟩:=bq hr
 refine ae (kf hx10 zz zz zz (.inr ⟨_,zz⟩) (.inl ⟨zz,zz⟩) zz tv zz) (aa (aS x10) (ab ?_))
 obtain ⟨k12,hk12,hr⟩:=ax hr
 refine ay (fun (s11:Str)=>⟨[(0,.s (aS s11))],[],0⟩) k12 r (fun s11 hr=>?_) ?_
 rw [hk12] at hr
 refine aE ?_
 exact ⟨s11,hr,(Conv.mk (tau []) ⟨cl zz,tv⟩ tv zz zz zz zz)⟩
 clear hk12
 refine af (ac (aa (aS x10) (aa (aI (x10.size:Int)) (aa (aB (decide ((x10.size:Int)>8))) (aa (aB (decide ((x10.size:Int)>8))) (ae (ai (x:=aS x10) zz zz tv zz) ?_))))))
 obtain ⟨x13,hx13,hr⟩:=bq hr
 refine ae (a9 (x:=.c (.d (.v (.int .u64 x13)))) (fun hg=>bf _ (cQ hx13 hg)) zz zz ⟨.inl zz,tv⟩ ⟨fun h=>h,tv⟩ ja zz zz zz) (ae (ai (x:=.c (.d (.v (.int .u64 (bAnd .u64 x13 9259542123273814144))))) zz zz ⟨fun h=>h,tv⟩ zz) (ae (ai (x:=aB ((bAnd .u64 x13 9259542123273814144)==0)) zz zz ⟨fun h=>h,tv⟩ zz) (ae (bb zz zz (fun h=>h) zz) (ab ?_))))
 refine ah (b:=(decide ((x10.size:Int)>8))&&((bAnd .u64 x13 9259542123273814144)==0)) zz (fun h14=>?_) (fun h14=>?_)
 have hr:=selT h14 hr
 refine af (ac (aa (aS x10) ?_))
 obtain ⟨x15,hx15,hr⟩:=bq hr
 refine ae (kf hx15 zz zz zz (.inr ⟨_,zz⟩) (.inl ⟨zz,zz⟩) zz tv zz) (aa (aS x15) (ab (af (aF (by kernel_rfl) (ar (aS x15) zz tv zz (ar (aI (x15.size:Int)) zz tv zz (ar (aB (decide ((x15.size:Int)>16))) zz tv zz (ar (aB (decide ((x15.size:Int)>16))) zz tv zz (av (ai (x:=aS x15) zz zz tv zz) ?_)))))))))
 obtain ⟨x16,hx16,hr⟩:=bq hr
 refine av (a9 (x:=.c (.d (.v (.int .u64 x16)))) (fun hg=>bf _ (cQ hx16 hg)) zz zz ⟨.inl zz,tv⟩ ⟨fun h=>h,tv⟩ ja zz zz zz) (av (ai (x:=aS x15) zz zz tv zz) ?_)
 obtain ⟨x17,hx17,hr⟩:=bq hr
 refine av (mr (cQ hx17) zz zz zz zz (.inr ⟨_,zz⟩) (.inl ⟨zz,zz⟩) zz ⟨fun h=>h,tv⟩ zz) ?_
 obtain ⟨x18,hx18,hr⟩:=bq hr
 refine av (a9 (x:=.c (.d (.v (.int .u64 x18)))) (fun hg=>bf _ (cQ hx18 hg)) zz zz ⟨.inl zz,tv⟩ ⟨fun h=>h,tv⟩ ja zz zz zz) (av (ai (x:=.c (.d (.v (.int .u64 (bOr .u64 x16 x18))))) zz zz ⟨fun h=>h,⟨fun h=>h,tv⟩⟩ zz) (av (ai (x:=.c (.d (.v (.int .u64 (bAnd .u64 (bOr .u64 x16 x18) 9259542123273814144))))) zz zz ⟨fun h=>h,tv⟩ zz) (av (ai (x:=aB ((bAnd .u64 (bOr .u64 x16 x18) 9259542123273814144)==0)) zz zz ⟨fun h=>h,tv⟩ zz) (av (bb zz zz (fun h=>h) zz) (aY (by kernel_rfl) ?_)))))
 refine ah (b:=(decide ((x15.size:Int)>16))&&((bAnd .u64 (bOr .u64 x16 x18) 9259542123273814144)==0)) zz (fun h19=>?_) (fun h19=>?_)
 have hr:=selT h19 hr
 refine af (ac (aa (aS x15) ?_))
 obtain ⟨x20,hx20,hr⟩:=bq hr
 refine ae (kf hx20 zz zz zz (.inr ⟨_,zz⟩) (.inl ⟨zz,zz⟩) zz tv zz) (aa (aS x20) (ab (am (az (fun (s21:Str)=>⟨[(0,.s (aS s21))],[],0⟩) hr (Conv.mk (tau []) ⟨cl zz,tv⟩ tv zz zz zz zz) ?_))))
 clear hr
 intro again22 s21 hr
 unfold a8 at hr
 refine af (af (aF (by kernel_rfl) (ar (aS s21) zz tv zz (ar (aI (s21.size:Int)) zz tv zz (ar (aB (decide ((s21.size:Int)>32))) zz tv zz (ar (aB (decide ((s21.size:Int)>32))) zz tv zz (av (ai (x:=aS s21) zz zz tv zz) ?_)))))))
 obtain ⟨x23,hx23,hr⟩:=bq hr
 refine av (a9 (x:=.c (.d (.v (.int .u64 x23)))) (fun hg=>bf _ (cQ hx23 hg)) zz zz ⟨.inl zz,tv⟩ ⟨fun h=>h,tv⟩ ja zz zz zz) (av (ai (x:=aS s21) zz zz tv zz) ?_)
 obtain ⟨x24,hx24,hr⟩:=bq hr
 refine av (mr (cQ hx24) zz zz zz zz (.inr ⟨_,zz⟩) (.inl ⟨zz,zz⟩) zz ⟨fun h=>h,tv⟩ zz) ?_
 obtain ⟨x25,hx25,hr⟩:=bq hr
 refine av (a9 (x:=.c (.d (.v (.int .u64 x25)))) (fun hg=>bf _ (cQ hx25 hg)) zz zz ⟨.inl zz,tv⟩ ⟨fun h=>h,tv⟩ ja zz zz zz) (av (ai (x:=.c (.d (.v (.int .u64 (bOr .u64 x23 x25))))) zz zz ⟨fun h=>h,⟨fun h=>h,tv⟩⟩ zz) (av (ai (x:=aS s21) zz zz tv zz) ?_))
 obtain ⟨x26,hx26,hr⟩:=bq hr
 refine av (mr (cQ hx26) zz zz zz zz (.inr ⟨_,zz⟩) (.inl ⟨zz,zz⟩) zz ⟨fun h=>h,tv⟩ zz) ?_
 obtain ⟨x27,hx27,hr⟩:=bq hr
 refine av (a9 (x:=.c (.d (.v (.int .u64 x27)))) (fun hg=>bf _ (cQ hx27 hg)) zz zz ⟨.inl zz,tv⟩ ⟨fun h=>h,tv⟩ ja zz zz zz) (av (ai (x:=aS s21) zz zz tv zz) ?_)
 obtain ⟨x28,hx28,hr⟩:=bq hr
 refine av (mr (cQ hx28) zz zz zz zz (.inr ⟨_,zz⟩) (.inl ⟨zz,zz⟩) zz ⟨fun h=>h,tv⟩ zz) ?_
 obtain ⟨x29,hx29,hr⟩:=bq hr
 refine av (a9 (x:=.c (.d (.v (.int .u64 x29)))) (fun hg=>bf _ (cQ hx29 hg)) zz zz ⟨.inl zz,tv⟩ ⟨fun h=>h,tv⟩ ja zz zz zz) (av (ai (x:=.c (.d (.v (.int .u64 (bOr .u64 x27 x29))))) zz zz ⟨fun h=>h,⟨fun h=>h,tv⟩⟩ zz) (av (ai (x:=.c (.d (.v (.int .u64 (bOr .u64 (bOr .u64 x23 x25) (bOr .u64 x27 x29)))))) zz zz ⟨fun h=>h,⟨fun h=>h,tv⟩⟩ zz) (av (ai (x:=.c (.d (.v (.int .u64 (bAnd .u64 (bOr .u64 (bOr .u64 x23 x25) (bOr .u64 x27 x29)) 9259542123273814144))))) zz zz ⟨fun h=>h,tv⟩ zz) (av (ai (x:=aB ((bAnd .u64 (bOr .u64 (bOr .u64 x23 x25) (bOr .u64 x27 x29)) 9259542123273814144)==0)) zz zz ⟨fun h=>h,tv⟩ zz) (av (bb zz zz (fun h=>h) zz) (aY (by kernel_rfl) ?_))))))
 refine ah (b:=(decide ((s21.size:Int)>32))&&((bAnd .u64 (bOr .u64 (bOr .u64 x23 x25) (bOr .u64 x27 x29)) 9259542123273814144)==0)) zz (fun h30=>?_) (fun h30=>?_)
 have hr:=selT h30 hr
 refine aj (am (ac (aa (aS s21) ?_)))
 obtain ⟨x31,hx31,hr⟩:=bq hr
 refine ae (kf hx31 zz zz zz (.inr ⟨_,zz⟩) (.inl ⟨zz,zz⟩) zz tv zz) (aa (aS x31) (ab ?_))
 exact ⟨x31,hr,(Conv.mk (tau []) ⟨cl zz,tv⟩ tv zz zz zz zz)⟩
 have hr:=selF h30 hr
 refine aE ?_
 exact ⟨s21,hr,(Conv.mk (tau []) ⟨cl zz,tv⟩ tv zz zz zz zz)⟩
 have hr:=selF h19 hr
 refine aj ?_
 exact ⟨x15,hr,(Conv.mk (tau []) ⟨cl zz,tv⟩ tv zz zz zz zz)⟩
 have hr:=selF h14 hr
 refine aj ?_
 exact ⟨x10,hr,(Conv.mk (tau []) ⟨cl zz,tv⟩ tv zz zz zz zz)⟩
 have hr:=selF h9 hr
 refine aj (af (ac (aa (.c (.d (.v (.int .u8 x8)))) ?_)))
 obtain ⟨x32,hx32,hr⟩:=bq hr
 refine ae (wL (y:=x32) hx32 (by kernel_rfl) zz zz tv zz) (aa (.c (.d (.v (.int .u8 x32)))) (aa (.c (.d (.v (.int .u8 x32)))) (ab (af (ac (aa (.c (.d (.v (.int .u8 x32)))) (aa (.c (.d (.v (.int .u8 (bAnd .u8 x32 7))))) (aa (aI (wq (bAnd .u8 x32 7))) (aa (aI (wq (bAnd .u8 x32 7))) (ab (af (ac (aa (.c (.d (.v (.int .u8 x32)))) (aa (.c (.d (.v (.int .u8 (bShr .u8 x32 4))))) ?_))))))))))))))
 obtain ⟨x33,hx33,hr⟩:=bq hr
 refine ae (uA (y:=x33) hx33 (by kernel_rfl) zz zz tv zz) (aa (.agg [.d (.v (.int .u8 x33.1)),.d (.v (.int .u8 x33.2))]) (ak 0 (aw (j:=0) (cs:=[.d (.v (.int .u8 0)),.d (.v (.int .u8 0))]) zz zz zz zz) (aq (al (cs':=[.d (.v (.int .u8 x33.1)),.d (.v (.int .u8 x33.2))]) zz zz zz zz zz zz zz zz zz) (ab (af (ac (aa (aI (wq (bAnd .u8 x32 7))) (ab (am (af (ac (aa (aB ((wq (bAnd .u8 x32 7))==2)) (aa (aB ((wq (bAnd .u8 x32 7))==2)) (ab ?_))))))))))))))
 refine ah (b:=(wq (bAnd .u8 x32 7))==2) zz (fun h34=>?_) (fun h34=>?_)
 have hr:=selT h34 hr
 refine af (af (aF (by kernel_rfl) (ar (aS s3) zz tv zz (ar (aI (s3.size:Int)) zz tv zz (ar (aB (decide ((s3.size:Int)<2))) zz tv zz (ar (aB (decide ((s3.size:Int)<2))) zz tv zz (av (ai (x:=aS s3) zz zz tv zz) ?_)))))))
 obtain ⟨x35,hx35,hr⟩:=bq hr
 refine av (cB (cQ hx35) zz zz zz zz ⟨fun h=>h,tv⟩ zz) (av (ai (x:=.c (.loc 0 0)) zz zz tv zz) (av (ai (x:=.c (.d (.v (.int .u8 x33.1)))) zz zz ⟨fun h=>h,tv⟩ zz) (av (ai (x:=aB (decide (x35<x33.1))) zz zz ⟨fun h=>h,⟨fun h=>h,tv⟩⟩ zz) ?_)))
 refine av (bj zz zz (fun h=>by rw [h];rfl) zz) ?_
 refine ar (aB ((decide ((s3.size:Int)<2))||(decide (x35<x33.1)))) zz tv zz (av (ai (x:=.c (.loc 0 1)) zz zz tv zz) (av (ai (x:=.c (.d (.v (.int .u8 x33.2)))) zz zz ⟨fun h=>h,tv⟩ zz) (av (ai (x:=aS s3) zz zz tv zz) ?_)))
 obtain ⟨x36,hx36,hr⟩:=bq hr
 refine av (cB (cQ hx36) zz zz zz zz ⟨fun h=>h,tv⟩ zz) (av (ai (x:=aB (decide (x33.2<x36))) zz zz ⟨fun h=>h,⟨fun h=>h,tv⟩⟩ zz) ?_)
 refine av (bj zz zz (fun h=>by rw [h];rfl) zz) ?_
 refine aY (by kernel_rfl) ?_
 refine ah (b:=((decide ((s3.size:Int)<2))||(decide (x35<x33.1)))||(decide (x33.2<x36))) zz (fun h37=>?_) (fun h37=>?_)
 have hr:=selT h37 hr
 refine af (ac (aa (aB false) (ab (ao ?_))))
 obtain rfl:=sq hr
 exact ⟨_,zz,.inl zz,tv⟩
 have hr:=selF h37 hr
 refine aj (ac (aa (aS s3) ?_))
 obtain ⟨x38,hx38,hr⟩:=bq hr
 refine ae (kf hx38 zz zz zz (.inr ⟨_,zz⟩) (.inl ⟨zz,zz⟩) zz tv zz) (aa (aS x38) (ab ?_))
 exact ⟨x38,hr,(Conv.mk (tau []) ⟨cl zz,tv⟩ tv zz zz zz zz)⟩
 have hr:=selF h34 hr
 refine af (ac (aa (aB ((wq (bAnd .u8 x32 7))==3)) (aa (aB ((wq (bAnd .u8 x32 7))==3)) (ab ?_))))
 refine ah (b:=(wq (bAnd .u8 x32 7))==3) zz (fun h39=>?_) (fun h39=>?_)
 have hr:=selT h39 hr
 refine af (af (aF (by kernel_rfl) (ar (aS s3) zz tv zz (ar (aI (s3.size:Int)) zz tv zz (ar (aB (decide ((s3.size:Int)<3))) zz tv zz (ar (aB (decide ((s3.size:Int)<3))) zz tv zz (av (ai (x:=aS s3) zz zz tv zz) ?_)))))))
 obtain ⟨x40,hx40,hr⟩:=bq hr
 refine av (cB (cQ hx40) zz zz zz zz ⟨fun h=>h,tv⟩ zz) (av (ai (x:=.c (.loc 0 0)) zz zz tv zz) (av (ai (x:=.c (.d (.v (.int .u8 x33.1)))) zz zz ⟨fun h=>h,tv⟩ zz) (av (ai (x:=aB (decide (x40<x33.1))) zz zz ⟨fun h=>h,⟨fun h=>h,tv⟩⟩ zz) ?_)))
 refine av (bj zz zz (fun h=>by rw [h];rfl) zz) ?_
 refine ar (aB ((decide ((s3.size:Int)<3))||(decide (x40<x33.1)))) zz tv zz (av (ai (x:=.c (.loc 0 1)) zz zz tv zz) (av (ai (x:=.c (.d (.v (.int .u8 x33.2)))) zz zz ⟨fun h=>h,tv⟩ zz) (av (ai (x:=aS s3) zz zz tv zz) ?_)))
 obtain ⟨x41,hx41,hr⟩:=bq hr
 refine av (cB (cQ hx41) zz zz zz zz ⟨fun h=>h,tv⟩ zz) (av (ai (x:=aB (decide (x33.2<x41))) zz zz ⟨fun h=>h,⟨fun h=>h,tv⟩⟩ zz) ?_)
 refine av (bj zz zz (fun h=>by rw [h];rfl) zz) ?_
 refine ar (aB (((decide ((s3.size:Int)<3))||(decide (x40<x33.1)))||(decide (x33.2<x41)))) zz tv zz (av (ai (x:=aS s3) zz zz tv zz) ?_)
 obtain ⟨x42,hx42,hr⟩:=bq hr
 refine av (cB (cQ hx42) zz zz zz zz ⟨fun h=>h,tv⟩ zz) (av (ai (x:=aB (decide (x42<128))) zz zz ⟨fun h=>h,tv⟩ zz) ?_)
 refine av (bj zz zz (fun h=>by rw [h];rfl) zz) ?_
 refine ar (aB ((((decide ((s3.size:Int)<3))||(decide (x40<x33.1)))||(decide (x33.2<x41)))||(decide (x42<128)))) zz tv zz (av (ai (x:=aS s3) zz zz tv zz) ?_)
 obtain ⟨x43,hx43,hr⟩:=bq hr
 refine av (cB (cQ hx43) zz zz zz zz ⟨fun h=>h,tv⟩ zz) (av (ai (x:=aB (decide (191<x43))) zz zz ⟨fun h=>h,tv⟩ zz) ?_)
 refine av (bj zz zz (fun h=>by rw [h];rfl) zz) ?_
 refine aY (by kernel_rfl) ?_
 refine ah (b:=((((decide ((s3.size:Int)<3))||(decide (x40<x33.1)))||(decide (x33.2<x41)))||(decide (x42<128)))||(decide (191<x43))) zz (fun h44=>?_) (fun h44=>?_)
 have hr:=selT h44 hr
 refine af (ac (aa (aB false) (ab (ao ?_))))
 obtain rfl:=sq hr
 exact ⟨_,zz,.inl zz,tv⟩
 have hr:=selF h44 hr
 refine aj (ac (aa (aS s3) ?_))
 obtain ⟨x45,hx45,hr⟩:=bq hr
 refine ae (kf hx45 zz zz zz (.inr ⟨_,zz⟩) (.inl ⟨zz,zz⟩) zz tv zz) (aa (aS x45) (ab ?_))
 exact ⟨x45,hr,(Conv.mk (tau []) ⟨cl zz,tv⟩ tv zz zz zz zz)⟩
 have hr:=selF h39 hr
 refine af (ac (aa (aB ((wq (bAnd .u8 x32 7))==4)) (aa (aB ((wq (bAnd .u8 x32 7))==4)) (ab ?_))))
 refine ah (b:=(wq (bAnd .u8 x32 7))==4) zz (fun h46=>?_) (fun h46=>?_)
 have hr:=selT h46 hr
 refine af (af (aF (by kernel_rfl) (ar (aS s3) zz tv zz (ar (aI (s3.size:Int)) zz tv zz (ar (aB (decide ((s3.size:Int)<4))) zz tv zz (ar (aB (decide ((s3.size:Int)<4))) zz tv zz (av (ai (x:=aS s3) zz zz tv zz) ?_)))))))
 obtain ⟨x47,hx47,hr⟩:=bq hr
 refine av (cB (cQ hx47) zz zz zz zz ⟨fun h=>h,tv⟩ zz) (av (ai (x:=.c (.loc 0 0)) zz zz tv zz) (av (ai (x:=.c (.d (.v (.int .u8 x33.1)))) zz zz ⟨fun h=>h,tv⟩ zz) (av (ai (x:=aB (decide (x47<x33.1))) zz zz ⟨fun h=>h,⟨fun h=>h,tv⟩⟩ zz) ?_)))
 refine av (bj zz zz (fun h=>by rw [h];rfl) zz) ?_
 refine ar (aB ((decide ((s3.size:Int)<4))||(decide (x47<x33.1)))) zz tv zz (av (ai (x:=.c (.loc 0 1)) zz zz tv zz) (av (ai (x:=.c (.d (.v (.int .u8 x33.2)))) zz zz ⟨fun h=>h,tv⟩ zz) (av (ai (x:=aS s3) zz zz tv zz) ?_)))
 obtain ⟨x48,hx48,hr⟩:=bq hr
 refine av (cB (cQ hx48) zz zz zz zz ⟨fun h=>h,tv⟩ zz) (av (ai (x:=aB (decide (x33.2<x48))) zz zz ⟨fun h=>h,⟨fun h=>h,tv⟩⟩ zz) ?_)
 refine av (bj zz zz (fun h=>by rw [h];rfl) zz) ?_
 refine ar (aB (((decide ((s3.size:Int)<4))||(decide (x47<x33.1)))||(decide (x33.2<x48)))) zz tv zz (av (ai (x:=aS s3) zz zz tv zz) ?_)
 obtain ⟨x49,hx49,hr⟩:=bq hr
 refine av (cB (cQ hx49) zz zz zz zz ⟨fun h=>h,tv⟩ zz) (av (ai (x:=aB (decide (x49<128))) zz zz ⟨fun h=>h,tv⟩ zz) ?_)
 refine av (bj zz zz (fun h=>by rw [h];rfl) zz) ?_
 refine ar (aB ((((decide ((s3.size:Int)<4))||(decide (x47<x33.1)))||(decide (x33.2<x48)))||(decide (x49<128)))) zz tv zz (av (ai (x:=aS s3) zz zz tv zz) ?_)
 obtain ⟨x50,hx50,hr⟩:=bq hr
 refine av (cB (cQ hx50) zz zz zz zz ⟨fun h=>h,tv⟩ zz) (av (ai (x:=aB (decide (191<x50))) zz zz ⟨fun h=>h,tv⟩ zz) ?_)
 refine av (bj zz zz (fun h=>by rw [h];rfl) zz) ?_
 refine ar (aB (((((decide ((s3.size:Int)<4))||(decide (x47<x33.1)))||(decide (x33.2<x48)))||(decide (x49<128)))||(decide (191<x50)))) zz tv zz (av (ai (x:=aS s3) zz zz tv zz) ?_)
 obtain ⟨x51,hx51,hr⟩:=bq hr
 refine av (cB (cQ hx51) zz zz zz zz ⟨fun h=>h,tv⟩ zz) (av (ai (x:=aB (decide (x51<128))) zz zz ⟨fun h=>h,tv⟩ zz) ?_)
 refine av (bj zz zz (fun h=>by rw [h];rfl) zz) ?_
 refine ar (aB ((((((decide ((s3.size:Int)<4))||(decide (x47<x33.1)))||(decide (x33.2<x48)))||(decide (x49<128)))||(decide (191<x50)))||(decide (x51<128)))) zz tv zz (av (ai (x:=aS s3) zz zz tv zz) ?_)
 obtain ⟨x52,hx52,hr⟩:=bq hr
 refine av (cB (cQ hx52) zz zz zz zz ⟨fun h=>h,tv⟩ zz) (av (ai (x:=aB (decide (191<x52))) zz zz ⟨fun h=>h,tv⟩ zz) ?_)
 refine av (bj zz zz (fun h=>by rw [h];rfl) zz) ?_
 refine aY (by kernel_rfl) ?_
 refine ah (b:=((((((decide ((s3.size:Int)<4))||(decide (x47<x33.1)))||(decide (x33.2<x48)))||(decide (x49<128)))||(decide (191<x50)))||(decide (x51<128)))||(decide (191<x52))) zz (fun h53=>?_) (fun h53=>?_)
 have hr:=selT h53 hr
 refine af (ac (aa (aB false) (ab (ao ?_))))
 obtain rfl:=sq hr
 exact ⟨_,zz,.inl zz,tv⟩
 have hr:=selF h53 hr
 refine aj (ac (aa (aS s3) ?_))
 obtain ⟨x54,hx54,hr⟩:=bq hr
 refine ae (kf hx54 zz zz zz (.inr ⟨_,zz⟩) (.inl ⟨zz,zz⟩) zz tv zz) (aa (aS x54) (ab ?_))
 exact ⟨x54,hr,(Conv.mk (tau []) ⟨cl zz,tv⟩ tv zz zz zz zz)⟩
 have hr:=selF h46 hr
 refine af (ac (aa (aB false) (ab (ao ?_))))
 obtain rfl:=sq hr
 exact ⟨_,zz,.inl zz,tv⟩
 have hr:=selF h5 hr
 refine aE ?_
 exact ⟨(),hr,(Conv.mk (tau []) tv tv zz zz zz zz)⟩
theorem kA (t:AType) {r:AType} (hr:gS t=some r):Con Tryz.prog 219 [.agg [cI t.Kind,dV ((lM AType.cs t.Of))]] [] (.s (.agg [cI r.Kind,dV ((lM AType.cs r.Of))])) []:=by
 unfold gS at hr
 refine ap 6 0 [.cell 2 196] [(0,.s (.agg [cI t.Kind,dV ((lM AType.cs t.Of))]))] Tryz.func219 zz zz zz zz zz zz zz zz fun w g M ρ _=>(af (ac (ak 0 (aP (j:=0) (cs:=[cI t.Kind,dV ((lM AType.cs t.Of))]) zz zz zz zz zz) (ak 0 (aw (j:=1) (cs:=[cI 0,.d (.v (.slice none 0 0))]) zz zz zz zz) (ab (af (ac (aa (.agg [cI t.Kind,dV ((lM AType.cs t.Of))]) ?_))))))))
 refine ak 0 (cp (sz:=2) (enc:=AType.cs) (j:=2) ([t]) zz zz zz zz zz (rows:=[[dI t.Kind,.sl (lM AType.cs t.Of)]]) (by simp only [List.map,AType.cs_eq]) zz zz (fun x=>by rw [AType.cs_eq];rfl) tv zz zz) ?_
 refine aa (.agg [cI 4,.tl 2 (lM AType.cs ([t]))]) (aq (al (cs':=[cI 4,.tl 2 (lM AType.cs ([t]))]) zz zz zz zz zz zz zz zz zz) (ab (ao ?_)))
 obtain rfl:=sq hr
 exact ⟨_,zz,.inr zz,tv⟩
theorem rK (self0:AType→AType→Option (AType×Bool)) (hself0:∀ (a:AType) (b:AType) {r:AType×Bool},self0 a b=some r→Con Tryz.prog 221 [.agg [cI a.Kind,dV ((lM AType.cs a.Of))],.agg [cI b.Kind,dV ((lM AType.cs b.Of))]] [] (.tup [.agg [cI r.1.Kind,dV ((lM AType.cs r.1.Of))],aB r.2]) []) (a:AType) (b:AType) {r:AType×Bool} (hr:iK self0 a b=some r):Con Tryz.prog 221 [.agg [cI a.Kind,dV ((lM AType.cs a.Of))],.agg [cI b.Kind,dV ((lM AType.cs b.Of))]] [] (.tup [.agg [cI r.1.Kind,dV ((lM AType.cs r.1.Of))],aB r.2]) []:=by
 unfold iK at hr
 refine ap 44 0 [.cell 4 196,.tmp 5] [(0,.s (.agg [cI a.Kind,dV ((lM AType.cs a.Of))])),(1,.s (.agg [cI b.Kind,dV ((lM AType.cs b.Of))]))] Tryz.func221 zz zz zz zz zz zz zz zz fun w g M ρ _=>(af (ac (ak 0 (aP (j:=0) (cs:=[cI a.Kind,dV ((lM AType.cs a.Of))]) zz zz zz zz zz) (ak 0 (aP (j:=1) (cs:=[cI b.Kind,dV ((lM AType.cs b.Of))]) zz zz zz zz zz) (ak 0 (aw (j:=2) (cs:=[cI 0,.d (.v (.slice none 0 0))]) zz zz zz zz) (aa (aB false) (ab (af (am (af (ac (aa (.c (.loc 0 0)) (aa (aI a.Kind) (aa (.c (.loc 1 0)) (aa (aI b.Kind) ?_)))))))))))))))
 refine aa (aB (a.Kind != b.Kind)) (aa (aB (a.Kind != b.Kind)) (ab ?_))
 refine ah (b:=a.Kind != b.Kind) zz (fun h1=>?_) (fun h1=>?_)
 have hr:=selT h1 hr
 refine af (ac (aa (.agg [cI 0,.d (.v (.slice none 0 0))]) (aq (al (cs':=[cI 0,.d (.v (.slice none 0 0))]) zz zz zz zz zz zz zz zz zz) (aa (aB false) (ab (ao ?_))))))
 obtain rfl:=sq hr
 exact ⟨_,zz,.inr zz,tv⟩
 have hr:=selF h1 hr
 refine af (ac (aa (.c (.loc 0 1)) (aa (aV (((lM AType.cs a.Of)))) (ae (aK (enc:=AType.cs) a.Of zz zz tv zz) (aa (aB ((a.Of.length:Int)==0)) (aa (aB ((a.Of.length:Int)==0)) (ab ?_)))))))
 refine ah (b:=(a.Of.length:Int)==0) zz (fun h2=>?_) (fun h2=>?_)
 have hr:=selT h2 hr
 refine af (ac (aa (.agg [cI b.Kind,dV ((lM AType.cs b.Of))]) (aq (al (cs':=[cI b.Kind,dV ((lM AType.cs b.Of))]) zz zz zz zz zz zz zz zz zz) (aa (aB true) (ab (ao ?_))))))
 obtain rfl:=sq hr
 exact ⟨_,zz,.inl zz,tv⟩
 have hr:=selF h2 hr
 refine af (ac (aa (.c (.loc 1 1)) (aa (aV (((lM AType.cs b.Of)))) (ae (aK (enc:=AType.cs) b.Of zz zz tv zz) (aa (aB ((b.Of.length:Int)==0)) (aa (aB ((b.Of.length:Int)==0)) (ab ?_)))))))
 refine ah (b:=(b.Of.length:Int)==0) zz (fun h3=>?_) (fun h3=>?_)
 have hr:=selT h3 hr
 refine af (ac (aa (.agg [cI a.Kind,dV ((lM AType.cs a.Of))]) (aq (al (cs':=[cI a.Kind,dV ((lM AType.cs a.Of))]) zz zz zz zz zz zz zz zz zz) (aa (aB true) (ab (ao ?_))))))
 obtain rfl:=sq hr
 exact ⟨_,zz,.inl zz,tv⟩
 have hr:=selF h3 hr
 refine aj (af (aF (by kernel_rfl) (ar (.c (.loc 0 1)) zz tv zz (ar (aV (((lM AType.cs a.Of)))) zz tv zz ?_))))
 obtain ⟨x4,hx4,hr⟩:=bq hr
 refine av (aM (enc:=AType.cs) (L:=a.Of) (row:=[dI x4.Kind,.sl (lM AType.cs x4.Of)]) hx4 (AType.cs_eq _) zz zz zz (fun x=>by rw [AType.cs_eq];rfl) tv zz) ?_
 refine ar (.agg [cI x4.Kind,dV ((lM AType.cs x4.Of))]) zz tv zz (ar (.c (.loc 1 1)) zz tv zz (ar (aV (((lM AType.cs b.Of)))) zz tv zz ?_))
 obtain ⟨x5,hx5,hr⟩:=bq hr
 refine av (aM (enc:=AType.cs) (L:=b.Of) (row:=[dI x5.Kind,.sl (lM AType.cs x5.Of)]) hx5 (AType.cs_eq _) zz zz zz (fun x=>by rw [AType.cs_eq];rfl) tv zz) ?_
 refine ar (.agg [cI x5.Kind,dV ((lM AType.cs x5.Of))]) zz tv zz ?_
 obtain ⟨x6,hx6,hr⟩:=bq hr
 refine av (aL (tau []) (.tup [.agg [cI x6.1.Kind,dV ((lM AType.cs x6.1.Of))],aB x6.2]) [] (hself0 _ _ hx6) zz ⟨.inl zz,.inl zz,tv⟩ tv sW tv) (av (dk (v:=.tup [.agg [cI x6.1.Kind,dV ((lM AType.cs x6.1.Of))],aB x6.2]) zz zz) (ar (.agg [cI x6.1.Kind,dV ((lM AType.cs x6.1.Of))]) zz tv zz (ar (aB x6.2) zz tv zz (gY 0 (aw (j:=3) (cs:=[cI 0,.d (.v (.slice none 0 0))]) zz zz zz zz) (iz (al (cs':=[cI x6.1.Kind,dV ((lM AType.cs x6.1.Of))]) zz zz zz zz zz zz zz zz zz) (ar (aB x6.2) zz tv zz (aY (by kernel_rfl) (af (af (ac (aa (aB x6.2) (aa (aB (!x6.2)) (ab ?_)))))))))))))
 refine ah (b:=!x6.2) zz (fun h7=>?_) (fun h7=>?_)
 have hr:=selT h7 hr
 refine af (ac (aa (.agg [cI 0,.d (.v (.slice none 0 0))]) (aq (al (cs':=[cI 0,.d (.v (.slice none 0 0))]) zz zz zz zz zz zz zz zz zz) (aa (aB false) (ab (ao ?_))))))
 obtain rfl:=sq hr
 exact ⟨_,zz,.inr zz,tv⟩
 have hr:=selF h7 hr
 refine aj (af (ac (aa (.agg [cI x6.1.Kind,dV ((lM AType.cs x6.1.Of))]) ?_)))
 obtain ⟨x8,hx8,hr⟩:=bq hr
 refine ae (aL (tau []) (.s (.agg [cI x8.Kind,dV ((lM AType.cs x8.Of))])) [] (kA _ hx8) zz ⟨.inl zz,tv⟩ tv pi tv) (aq (al (cs':=[cI x8.Kind,dV ((lM AType.cs x8.Of))]) zz zz zz zz zz zz zz zz zz) (aa (aB true) (ab (ao ?_))))
 obtain rfl:=sq hr
 exact ⟨_,zz,.inl zz,tv⟩
theorem rJ:∀ n:Nat,(∀ (a:AType) (b:AType) {r:AType×Bool},dT n a b=some r→Con Tryz.prog 221 [.agg [cI a.Kind,dV ((lM AType.cs a.Of))],.agg [cI b.Kind,dV ((lM AType.cs b.Of))]] [] (.tup [.agg [cI r.1.Kind,dV ((lM AType.cs r.1.Of))],aB r.2]) [])∧True:=by
 intro n
 induction n with
 | zero=>exact ⟨(by intros;rename_i hr;cases hr),tv⟩
 | succ n ih=>exact ⟨(by intros;rename_i hr;exact rK _ ih.1 _ _ hr),tv⟩
theorem vK (n:Nat) (a:AType) (b:AType) {r:AType×Bool} (hr:dT n a b=some r):Con Tryz.prog 221 [.agg [cI a.Kind,dV ((lM AType.cs a.Of))],.agg [cI b.Kind,dV ((lM AType.cs b.Of))]] [] (.tup [.agg [cI r.1.Kind,dV ((lM AType.cs r.1.Of))],aB r.2]) []:=(rJ n).1 a b hr
theorem rM (l:(List AType)) {r:AType×Bool} (hr:fP l=some r):Con Tryz.prog 218 [aV (((lM AType.cs l)))] [] (.tup [.agg [cI r.1.Kind,dV ((lM AType.cs r.1.Of))],aB r.2]) []:=by
 unfold fP at hr
 refine ap 34 0 [.cell 2 196,.tmp 3] [(0,.s (aV (((lM AType.cs l)))))] Tryz.func218 zz zz zz zz zz zz zz zz fun w g M ρ _=>(af (ac (ak 0 (aw (j:=0) (cs:=[cI 0,.d (.v (.slice none 0 0))]) zz zz zz zz) (aa (aB false) (ab (af (af (ac (aa (aV (((lM AType.cs l)))) (ae (aK (enc:=AType.cs) l zz zz tv zz) (aa (aB ((l.length:Int)==0)) (ab ?_))))))))))))
 refine ah (b:=(l.length:Int)==0) zz (fun h1=>?_) (fun h1=>?_)
 have hr:=selT h1 hr
 refine af (ac (aa (.agg [cI 4,.d (.v (.slice none 0 0))]) (aq (al (cs':=[cI 4,.d (.v (.slice none 0 0))]) zz zz zz zz zz zz zz zz zz) (aa (aB true) (ab (ao ?_))))))
 obtain rfl:=sq hr
 exact ⟨_,zz,.inr zz,tv⟩
 have hr:=selF h1 hr
 refine aj (af (ac (aa (aV (((lM AType.cs l)))) ?_)))
 obtain ⟨x2,hx2,hr⟩:=bq hr
 refine ae (aM (enc:=AType.cs) (L:=l) (row:=[dI x2.Kind,.sl (lM AType.cs x2.Of)]) hx2 (AType.cs_eq _) zz zz zz (fun x=>by rw [AType.cs_eq];rfl) tv zz) ?_
 refine aa (.agg [cI x2.Kind,dV ((lM AType.cs x2.Of))]) (ak 0 (aw (j:=1) (cs:=[cI 0,.d (.v (.slice none 0 0))]) zz zz zz zz) (aq (al (cs':=[cI x2.Kind,dV ((lM AType.cs x2.Of))]) zz zz zz zz zz zz zz zz zz) (ab ?_)))
 obtain ⟨k4,hk4,hr⟩:=ax hr
 refine ay (fun (s3:Int×(List AType))=>⟨[(2,.s (.c (.loc 0 0))),(4,.s (.c (.loc 1 0)))],[(0,.blk [cI 0,.d (.v (.slice none 0 0))] 196),(1,.blk [cI s3.1,dV ((lM AType.cs s3.2))] 196)],0⟩) k4 r (fun s3 hr=>?_) ?_
 rw [hk4] at hr
 refine af (ac (aa (.agg [cI s3.1,dV ((lM AType.cs s3.2))]) ?_))
 obtain ⟨x5,hx5,hr⟩:=bq hr
 refine ae (aL (tau []) (.s (.agg [cI x5.Kind,dV ((lM AType.cs x5.Of))])) [] (kA _ hx5) zz ⟨.inl zz,tv⟩ tv pi tv) (aq (al (cs':=[cI x5.Kind,dV ((lM AType.cs x5.Of))]) zz zz zz zz zz zz zz zz zz) (aa (aB true) (ab (ao ?_))))
 obtain rfl:=sq hr
 exact ⟨_,zz,.inl zz,tv⟩
 clear hk4
 refine af (ac (aa (aV (((lM AType.cs l)))) ?_))
 obtain ⟨x6,hx6,hr⟩:=bq hr
 refine ae (lR (enc:=AType.cs) (L:=l) hx6 zz zz zz (.inr ⟨_,zz⟩) (.inl ⟨zz,zz⟩) zz (fun x=>by rw [AType.cs_eq];rfl) tv zz) ?_
 refine ae (aK (enc:=AType.cs) x6 zz zz tv zz) (aa (aI 0) (ab (am (az (fun (s7:Int×Int×(List AType))=>⟨[(2,.s (.c (.loc 0 0))),(4,.s (.c (.loc 1 0))),(16,.s (aV (((lM AType.cs x6))))),(17,.s (aI (x6.length:Int))),(18,.s (aI s7.1))],[(0,.blk [cI 0,.d (.v (.slice none 0 0))] 196),(1,.blk [cI s7.2.1,dV ((lM AType.cs s7.2.2))] 196)],0⟩) hr (Conv.mk (tau []) ⟨cl zz,cl zz,cl zz,cl zz,cl zz,tv⟩ ⟨zz,zz,tv⟩ zz zz zz zz) ?_))))
 clear hr
 intro again8 s7 hr
 unfold dC at hr
 refine af (ac (aa (aB (decide (s7.1<(x6.length:Int)))) (ab (af ?_))))
 refine ah (b:=decide (s7.1<(x6.length:Int))) zz (fun h9=>?_) (fun h9=>?_)
 have hr:=selT h9 hr
 refine aj (af (am (af (ac ?_))))
 obtain ⟨x10,hx10,hr⟩:=bq hr
 refine ae (aM (enc:=AType.cs) (L:=x6) (row:=[dI x10.Kind,.sl (lM AType.cs x10.Of)]) hx10 (AType.cs_eq _) zz zz zz (fun x=>by rw [AType.cs_eq];rfl) tv zz) ?_
 refine aa (.agg [cI x10.Kind,dV ((lM AType.cs x10.Of))]) (ak 0 (aw (j:=2) (cs:=[cI 0,.d (.v (.slice none 0 0))]) zz zz zz zz) (aq (al (cs':=[cI x10.Kind,dV ((lM AType.cs x10.Of))]) zz zz zz zz zz zz zz zz zz) (ab (af (ac (aa (aB false) (ab (af (ac (aa (.agg [cI s7.2.1,dV ((lM AType.cs s7.2.2))]) (aa (.agg [cI x10.Kind,dV ((lM AType.cs x10.Of))]) ?_)))))))))))
 obtain ⟨x11,hx11,hr⟩:=bq hr
 refine ae (aL (tau []) (.tup [.agg [cI x11.1.Kind,dV ((lM AType.cs x11.1.Of))],aB x11.2]) [] (vK _ _ _ hx11) zz ⟨.inl zz,.inl zz,tv⟩ tv sW tv) (ae (dk (v:=.tup [.agg [cI x11.1.Kind,dV ((lM AType.cs x11.1.Of))],aB x11.2]) zz zz) (aa (.agg [cI x11.1.Kind,dV ((lM AType.cs x11.1.Of))]) (aa (aB x11.2) (aq (al (cs':=[cI x11.1.Kind,dV ((lM AType.cs x11.1.Of))]) zz zz zz zz zz zz zz zz zz) (aa (aB x11.2) (ab (af (ac (aa (aB x11.2) (aa (aB (!x11.2)) (ab ?_)))))))))))
 refine ah (b:=!x11.2) zz (fun h12=>?_) (fun h12=>?_)
 have hr:=selT h12 hr
 refine af (ac (aa (.agg [cI 0,.d (.v (.slice none 0 0))]) (aq (al (cs':=[cI 0,.d (.v (.slice none 0 0))]) zz zz zz zz zz zz zz zz zz) (aa (aB false) (ab (ao ?_))))))
 obtain rfl:=sq hr
 exact ⟨_,zz,.inr zz,tv⟩
 have hr:=selF h12 hr
 refine aj (ac (aa (aI (wq (s7.1+1))) (aa (aI (wq (s7.1+1))) (ab ?_))))
 exact ⟨(wq (s7.1+1),x11.1.Kind,x11.1.Of),hr,(Conv.mk (tau []) ⟨cl zz,cl zz,cl zz,cl zz,cl zz,tv⟩ ⟨zz,zz,tv⟩ zz zz zz zz)⟩
 have hr:=selF h9 hr
 refine aE ?_
 exact ⟨(s7.2.1,s7.2.2),hr,(Conv.mk (tau []) ⟨cl zz,cl zz,tv⟩ ⟨zz,zz,tv⟩ zz zz zz zz)⟩
theorem qE (self0:AValue→Int→Int→Option (AType×Int×Int)) (hself0:∀ (v:AValue) (depth:Int) (p_n:Int) {r:AType×Int×Int},self0 v depth p_n=some r→Con Tryz.prog 211 [.agg [cI v.Kind,cI v.N,cS v.S,dV ((lM AValue.cs v.L))],aI depth,.c (.loc 0 0)] [(0,.blk [cI p_n] 3)] (.tup [.agg [cI r.1.Kind,dV ((lM AType.cs r.1.Of))],aI r.2.1]) [(0,.blk [cI r.2.2] 3)]) (v:AValue) (depth:Int) (p_n:Int) {r:AType×Int×Int} (hr:cV self0 v depth p_n=some r):Con Tryz.prog 211 [.agg [cI v.Kind,cI v.N,cS v.S,dV ((lM AValue.cs v.L))],aI depth,.c (.loc 0 0)] [(0,.blk [cI p_n] 3)] (.tup [.agg [cI r.1.Kind,dV ((lM AType.cs r.1.Of))],aI r.2.1]) [(0,.blk [cI r.2.2] 3)]:=by
 unfold cV at hr
 refine ap 121 0 [.cell 6 196,.tmp 7] [(0,.s (.agg [cI v.Kind,cI v.N,cS v.S,dV ((lM AValue.cs v.L))])),(1,.s (aI depth)),(2,.s (.c (.loc 0 0)))] Tryz.func211 zz zz zz zz zz zz zz zz fun w g M ρ _=>(af (ac (ak 0 (aP (j:=1) (cs:=[cI v.Kind,cI v.N,cS v.S,dV ((lM AValue.cs v.L))]) zz zz zz zz zz) (ak 0 (aw (j:=2) (cs:=[cI 0,.d (.v (.slice none 0 0))]) zz zz zz zz) (aa (aI 0) (ab (af (af (ac (aa (.c (.loc 1 0)) (aa (aI v.Kind) (aa (aB (v.Kind==4)) (aa (aB (v.Kind==4)) (ae (ai (x:=aI depth) zz zz tv zz) (ae (ai (x:=aB (decide (depth≥16))) zz zz ⟨fun h=>h,tv⟩ zz) ?_)))))))))))))))
 refine ae (bb zz zz (fun h=>h) zz) (ab ?_)
 refine ah (b:=(v.Kind==4)&&(decide (depth≥16))) zz (fun h1=>?_) (fun h1=>?_)
 have hr:=selT h1 hr
 refine af (ac (aa (.agg [cI 0,.d (.v (.slice none 0 0))]) (aq (al (cs':=[cI 0,.d (.v (.slice none 0 0))]) zz zz zz zz zz zz zz zz zz) (aa (aI 8) (ab (ao ?_))))))
 obtain rfl:=sq hr
 exact ⟨_,zz,.inr zz,⟨zz,tv⟩⟩
 have hr:=selF h1 hr
 refine aj (af (ac (aa (.c (.loc 0 0)) (aa (.c (.loc 0 0)) (aa (aI p_n) (aa (aI (wq (p_n+1))) (aa (.c (.loc 0 0)) (aq (al (cs':=[cI (wq (p_n+1))]) zz zz zz zz zz zz zz zz zz) (ab (af (am (af (ac (aa (.agg [cI v.Kind,cI v.N,cS v.S,dV ((lM AValue.cs v.L))]) ?_))))))))))))))
 obtain ⟨x2,hx2,hr⟩:=bq hr
 refine ae (aL (tau []) (.s (aB x2)) [] (rL _ hx2) zz ⟨.inl zz,tv⟩ tv w9 tv) (aa (aB (!x2)) (aa (aB (!x2)) (ab ?_)))
 refine ah (b:=!x2) zz (fun h3=>?_) (fun h3=>?_)
 have hr:=selT h3 hr
 refine af (ac (aa (.agg [cI 0,.d (.v (.slice none 0 0))]) (aq (al (cs':=[cI 0,.d (.v (.slice none 0 0))]) zz zz zz zz zz zz zz zz zz) (aa (aI 9) (ab (ao ?_))))))
 obtain rfl:=sq hr
 exact ⟨_,zz,.inr zz,⟨zz,tv⟩⟩
 have hr:=selF h3 hr
 obtain ⟨k5,hk5,hr⟩:=ax hr
 refine ay (fun (s4:Bool)=>⟨[(1,.s (aI depth)),(2,.s (.c (.loc 0 0))),(3,.s (.c (.loc 1 0))),(6,.s (.c (.loc 2 0))),(33,.s (aB s4))],[(0,.blk [cI (wq (p_n+1))] 3),(1,.blk [cI v.Kind,cI v.N,cS v.S,dV ((lM AValue.cs v.L))] 53),(2,.blk [cI 0,.d (.v (.slice none 0 0))] 196)],0⟩) k5 r (fun s4 hr=>?_) ?_
 rw [hk5] at hr
 refine ah (b:=s4) zz (fun h6=>?_) (fun h6=>?_)
 have hr:=selT h6 hr
 refine af (ac (aa (.agg [cI 0,.d (.v (.slice none 0 0))]) (aq (al (cs':=[cI 0,.d (.v (.slice none 0 0))]) zz zz zz zz zz zz zz zz zz) (aa (aI 1) (ab (ao ?_))))))
 obtain rfl:=sq hr
 exact ⟨_,zz,.inr zz,⟨zz,tv⟩⟩
 have hr:=selF h6 hr
 refine af (ac (aa (.c (.loc 1 2)) (aa (aS v.S) (aa (aI (v.S.size:Int)) (aa (aB (decide ((v.S.size:Int)>2000))) (aa (aB (decide ((v.S.size:Int)>2000))) (ae (ai (x:=.c (.loc 1 3)) zz zz tv zz) (ae (ai (x:=aV (((lM AValue.cs v.L)))) zz zz ⟨fun h=>h,tv⟩ zz) (ae (cy (enc:=AValue.cs) v.L zz zz zz ⟨fun h=>h,tv⟩ zz) (ae (ai (x:=aB (decide ((v.L.length:Int)>100))) zz zz ⟨fun h=>h,tv⟩ zz) ?_))))))))))
 refine ae (bj zz zz (fun h=>by rw [h];rfl) zz) ?_
 refine aa (aB ((decide ((v.S.size:Int)>2000))||(decide ((v.L.length:Int)>100)))) (ae (ai (x:=.c (.loc 0 0)) zz zz tv zz) (ae (ai (x:=.c (.loc 0 0)) zz zz ⟨fun h=>h,tv⟩ zz) (ae (ai (x:=aI (wq (p_n+1))) zz zz ⟨fun h=>h,tv⟩ zz) (ae (ai (x:=aB (decide ((wq (p_n+1))>1000))) zz zz ⟨fun h=>h,tv⟩ zz) ?_))))
 refine ae (bj zz zz (fun h=>by rw [h];rfl) zz) ?_
 refine aa (aB (((decide ((v.S.size:Int)>2000))||(decide ((v.L.length:Int)>100)))||(decide ((wq (p_n+1))>1000)))) (ab ?_)
 refine ah (b:=((decide ((v.S.size:Int)>2000))||(decide ((v.L.length:Int)>100)))||(decide ((wq (p_n+1))>1000))) zz (fun h7=>?_) (fun h7=>?_)
 have hr:=selT h7 hr
 refine af (ac (aa (.agg [cI 0,.d (.v (.slice none 0 0))]) (aq (al (cs':=[cI 0,.d (.v (.slice none 0 0))]) zz zz zz zz zz zz zz zz zz) (aa (aI 2) (ab (ao ?_))))))
 obtain rfl:=sq hr
 exact ⟨_,zz,.inr zz,⟨zz,tv⟩⟩
 have hr:=selF h7 hr
 refine af (ac (aa (.c (.loc 1 2)) (aa (aS v.S) ?_)))
 obtain ⟨x8,hx8,hr⟩:=bq hr
 refine ae (aL (tau []) (.s (aB x8)) [] (gW _ hx8) zz ⟨.inl zz,tv⟩ tv w7 tv) (aa (aB (!x8)) (aa (aB (!x8)) (ab ?_)))
 refine ah (b:=!x8) zz (fun h9=>?_) (fun h9=>?_)
 have hr:=selT h9 hr
 refine af (ac (aa (.agg [cI 0,.d (.v (.slice none 0 0))]) (aq (al (cs':=[cI 0,.d (.v (.slice none 0 0))]) zz zz zz zz zz zz zz zz zz) (aa (aI 3) (ab (ao ?_))))))
 obtain rfl:=sq hr
 exact ⟨_,zz,.inr zz,⟨zz,tv⟩⟩
 have hr:=selF h9 hr
 refine af (ac (aa (.c (.loc 1 0)) (aa (aI v.Kind) (aa (aB (v.Kind != 4)) (aa (aB (v.Kind != 4)) (ab ?_))))))
 refine ah (b:=v.Kind != 4) zz (fun h10=>?_) (fun h10=>?_)
 have hr:=selT h10 hr
 refine af (ac (aa (.c (.loc 1 0)) (aa (aI v.Kind) (aa (.agg [cI v.Kind,.d (.v (.slice none 0 0))]) (aq (al (cs':=[cI v.Kind,.d (.v (.slice none 0 0))]) zz zz zz zz zz zz zz zz zz) (aa (aI 0) (ab (ao ?_))))))))
 obtain rfl:=sq hr
 exact ⟨_,zz,.inr zz,⟨zz,tv⟩⟩
 have hr:=selF h10 hr
 refine aj (af (ac (aa (.c (.d (.v (.slice none 0 0)))) (ab ?_))))
 obtain ⟨k12,hk12,hr⟩:=ax hr
 refine ay (fun (s11:(List AType)×Int)=>⟨[(6,.s (.c (.loc 2 0))),(8,.s (.c (.tl 1004 (lM AType.cs s11.1))))],[(0,.blk [cI s11.2] 3),(2,.blk [cI 0,.d (.v (.slice none 0 0))] 196),(1004,.tail 2)],0⟩) k12 r (fun s11 hr=>?_) ?_
 rw [hk12] at hr
 refine af (ac (aa (.c (.tl 1004 (lM AType.cs s11.1))) ?_))
 obtain ⟨x13,hx13,hr⟩:=bq hr
 refine ae (aL (tau []) (.tup [.agg [cI x13.1.Kind,dV ((lM AType.cs x13.1.Of))],aB x13.2]) [] (rM _ hx13) zz ⟨.inr zz,tv⟩ tv w6 tv) (ae (dk (v:=.tup [.agg [cI x13.1.Kind,dV ((lM AType.cs x13.1.Of))],aB x13.2]) zz zz) (aa (.agg [cI x13.1.Kind,dV ((lM AType.cs x13.1.Of))]) (aa (aB x13.2) (ak 0 (aw (j:=3) (cs:=[cI 0,.d (.v (.slice none 0 0))]) zz zz zz zz) (aq (al (cs':=[cI x13.1.Kind,dV ((lM AType.cs x13.1.Of))]) zz zz zz zz zz zz zz zz zz) (aa (aB x13.2) (ab (af (af (ac (aa (aB x13.2) (aa (aB (!x13.2)) (ab ?_)))))))))))))
 refine ah (b:=!x13.2) zz (fun h14=>?_) (fun h14=>?_)
 have hr:=selT h14 hr
 refine af (ac (aa (.agg [cI 0,.d (.v (.slice none 0 0))]) (aq (al (cs':=[cI 0,.d (.v (.slice none 0 0))]) zz zz zz zz zz zz zz zz zz) (aa (aI 5) (ab (ao ?_))))))
 obtain rfl:=sq hr
 exact ⟨_,zz,.inr zz,⟨zz,tv⟩⟩
 have hr:=selF h14 hr
 refine aj (af (ac (aa (.agg [cI x13.1.Kind,dV ((lM AType.cs x13.1.Of))]) (aq (al (cs':=[cI x13.1.Kind,dV ((lM AType.cs x13.1.Of))]) zz zz zz zz zz zz zz zz zz) (aa (aI 0) (ab (ao ?_)))))))
 obtain rfl:=sq hr
 exact ⟨_,zz,.inl zz,⟨zz,tv⟩⟩
 clear hk12
 refine af (ac (aa (.c (.loc 1 3)) (aa (aV (((lM AValue.cs v.L)))) (ae (aK (enc:=AValue.cs) v.L zz zz tv zz) (aa (aI 0) (ab (am (az (fun (s15:(List AType)×Int×Int)=>⟨[(1,.s (aI depth)),(2,.s (.c (.loc 0 0))),(6,.s (.c (.loc 2 0))),(8,.s (.c (.tl 1007 (lM AType.cs s15.1)))),(89,.s (aV (((lM AValue.cs v.L))))),(90,.s (aI (v.L.length:Int))),(91,.s (aI s15.2.1))],[(0,.blk [cI s15.2.2] 3),(2,.blk [cI 0,.d (.v (.slice none 0 0))] 196),(1007,.tail 2)],0⟩) hr (Conv.trans (Conv.nil 8 1009 2 0 zz zz) (Conv.mk (tau [(1007,1009)]) ⟨cl zz,cl zz,cl zz,cl zz,cl zz,cl zz,cl zz,tv⟩ ⟨zz,zz,zz,tv⟩ zz zz zz zz)) ?_))))))))
 clear hr
 intro again16 s15 hr
 unfold bN at hr
 refine af (ac (aa (aB (decide (s15.2.1<(v.L.length:Int)))) (ab (af ?_))))
 refine ah (b:=decide (s15.2.1<(v.L.length:Int))) zz (fun h17=>?_) (fun h17=>?_)
 have hr:=selT h17 hr
 refine aj (af (am (af (ac ?_))))
 obtain ⟨x18,hx18,hr⟩:=bq hr
 refine ae (aM (enc:=AValue.cs) (L:=v.L) (row:=[dI x18.Kind,dI x18.N,dS x18.S,.sl (lM AValue.cs x18.L)]) hx18 (AValue.cs_eq _) zz zz zz (fun x=>by rw [AValue.cs_eq];rfl) tv zz) ?_
 refine aa (.agg [cI x18.Kind,cI x18.N,cS x18.S,dV ((lM AValue.cs x18.L))]) (ak 0 (aw (j:=4) (cs:=[cI 0,cI 0,cS ByteArray.empty,.d (.v (.slice none 0 0))]) zz zz zz zz) (aq (al (cs':=[cI x18.Kind,cI x18.N,cS x18.S,dV ((lM AValue.cs x18.L))]) zz zz zz zz zz zz zz zz zz) (ab (af (ac (aa (.agg [cI x18.Kind,cI x18.N,cS x18.S,dV ((lM AValue.cs x18.L))]) (aa (aI depth) (aa (aI (wq (depth+1))) (aa (.c (.loc 0 0)) ?_)))))))))
 obtain ⟨x19,hx19,hr⟩:=bq hr
 refine ak 0 (aL (tau [(0,0)]) (.tup [.agg [cI x19.1.Kind,dV ((lM AType.cs x19.1.Of))],aI x19.2.1]) [(0,.blk [cI x19.2.2] 3)] (hself0 _ _ _ hx19) zz ⟨.inl zz,.inl zz,.inl zz,tv⟩ tv sY ⟨zz,tv⟩) (ae (dk (v:=.tup [.agg [cI x19.1.Kind,dV ((lM AType.cs x19.1.Of))],aI x19.2.1]) zz zz) (aa (.agg [cI x19.1.Kind,dV ((lM AType.cs x19.1.Of))]) (aa (aI x19.2.1) (ak 0 (aw (j:=5) (cs:=[cI 0,.d (.v (.slice none 0 0))]) zz zz zz zz) (aq (al (cs':=[cI x19.1.Kind,dV ((lM AType.cs x19.1.Of))]) zz zz zz zz zz zz zz zz zz) (aa (aI x19.2.1) (ab (af (af (ac (aa (aI x19.2.1) (aa (aB (x19.2.1 != 0)) (ab ?_)))))))))))))
 refine ah (b:=x19.2.1 != 0) zz (fun h20=>?_) (fun h20=>?_)
 have hr:=selT h20 hr
 refine af (ac (aa (.agg [cI 0,.d (.v (.slice none 0 0))]) (aa (aI x19.2.1) (aq (al (cs':=[cI 0,.d (.v (.slice none 0 0))]) zz zz zz zz zz zz zz zz zz) (aa (aI x19.2.1) (ab (ao ?_)))))))
 obtain rfl:=sq hr
 exact ⟨_,zz,.inr zz,⟨zz,tv⟩⟩
 have hr:=selF h20 hr
 refine aj (ac (aa (.c (.tl 1007 (lM AType.cs s15.1))) (aa (.agg [cI x19.1.Kind,dV ((lM AType.cs x19.1.Of))]) ?_)))
 refine ak 0 (cp (sz:=2) (enc:=AType.cs) (j:=6) ([x19.1]) zz zz zz zz zz (rows:=[[dI x19.1.Kind,.sl (lM AType.cs x19.1.Of)]]) (by simp only [List.map,AType.cs_eq]) zz zz (fun x=>by rw [AType.cs_eq];rfl) tv zz zz) ?_
 obtain ⟨x21,hx21,hr⟩:=bq hr
 refine bW 0 (dQ (enc:=AType.cs) (L:=s15.1) (X:=[x19.1]) (j:=1007) (j':=7) hx21 zz zz zz zz zz zz (fun x=>by rw [AType.cs_eq];rfl) (fun x=>by rw [AType.cs_eq];rfl) (by decide) tv zz zz) ?_
 refine aa (.c (.tl 7 (lM AType.cs x21))) (ab (ac (aa (aI (wq (s15.2.1+1))) (aa (aI (wq (s15.2.1+1))) (ab ?_)))))
 exact ⟨(x21,wq (s15.2.1+1),x19.2.2),hr,(Conv.mk (tau [(1007,7)]) ⟨cl zz,cl zz,cl zz,cl zz,cl zz,cl zz,cl zz,tv⟩ ⟨zz,zz,zz,tv⟩ zz zz zz zz)⟩
 have hr:=selF h17 hr
 refine aE ?_
 exact ⟨(s15.1,s15.2.2),hr,(Conv.mk (tau [(1004,1007)]) ⟨cl zz,cl zz,tv⟩ ⟨zz,zz,zz,tv⟩ zz zz zz zz)⟩
 clear hk5
 refine af (ac (aa (.c (.loc 1 0)) (aa (aI v.Kind) (aa (aB (v.Kind==1)) (aa (aB (v.Kind==1)) (ae (ai (x:=.c (.loc 1 1)) zz zz tv zz) (ae (ai (x:=aI v.N) zz zz ⟨fun h=>h,tv⟩ zz) ?_)))))))
 obtain ⟨x22,hx22,hr⟩:=bq hr
 refine ae (a9 (x:=aB x22) (fun hg=>rI _ (cQ hx22 hg)) zz zz ⟨.inl zz,tv⟩ ⟨fun h=>h,tv⟩ w8 zz zz zz) (ae (ai (x:=aB (!x22)) zz zz ⟨fun h=>h,tv⟩ zz) (ae (bb zz zz (fun h=>h) zz) (aa (aB ((v.Kind==1)&&(!x22))) (ab ?_))))
 refine ah (b:=(v.Kind==1)&&(!x22)) zz (fun h23=>?_) (fun h23=>?_)
 have hr:=selT h23 hr
 refine aj ?_
 exact ⟨(v.Kind==1)&&(!x22),hr,(Conv.mk (tau []) ⟨cl zz,cl zz,cl zz,cl zz,cl zz,tv⟩ ⟨zz,zz,zz,tv⟩ zz zz zz zz)⟩
 have hr:=selF h23 hr
 refine ac (aa (.c (.loc 1 0)) (aa (aI v.Kind) (aa (aB (v.Kind==2)) (aa (aB (v.Kind==2)) (ae (ai (x:=.c (.loc 1 1)) zz zz tv zz) (ae (ai (x:=aI v.N) zz zz ⟨fun h=>h,tv⟩ zz) (ae (ai (x:=aB (v.N != 0)) zz zz ⟨fun h=>h,tv⟩ zz) (ae (bb zz zz (fun h=>h) zz) (aa (aB ((v.Kind==2)&&(v.N != 0))) (ae (ai (x:=.c (.loc 1 1)) zz zz tv zz) (ae (ai (x:=aI v.N) zz zz ⟨fun h=>h,tv⟩ zz) (ae (ai (x:=aB (v.N != 1)) zz zz ⟨fun h=>h,tv⟩ zz) (ae (bb zz zz (fun h=>h) zz) (aa (aB (((v.Kind==2)&&(v.N != 0))&&(v.N != 1))) (ab ?_)))))))))))))))
 exact ⟨((v.Kind==2)&&(v.N != 0))&&(v.N != 1),hr,(Conv.mk (tau []) ⟨cl zz,cl zz,cl zz,cl zz,cl zz,tv⟩ ⟨zz,zz,zz,tv⟩ zz zz zz zz)⟩
theorem qD:∀ n:Nat,(∀ (v:AValue) (depth:Int) (p_n:Int) {r:AType×Int×Int},cv n v depth p_n=some r→Con Tryz.prog 211 [.agg [cI v.Kind,cI v.N,cS v.S,dV ((lM AValue.cs v.L))],aI depth,.c (.loc 0 0)] [(0,.blk [cI p_n] 3)] (.tup [.agg [cI r.1.Kind,dV ((lM AType.cs r.1.Of))],aI r.2.1]) [(0,.blk [cI r.2.2] 3)])∧True:=by
 intro n
 induction n with
 | zero=>exact ⟨(by intros;rename_i hr;cases hr),tv⟩
 | succ n ih=>exact ⟨(by intros;rename_i hr;exact qE _ ih.1 _ _ _ hr),tv⟩
theorem uj (n:Nat) (v:AValue) (depth:Int) (p_n:Int) {r:AType×Int×Int} (hr:cv n v depth p_n=some r):Con Tryz.prog 211 [.agg [cI v.Kind,cI v.N,cS v.S,dV ((lM AValue.cs v.L))],aI depth,.c (.loc 0 0)] [(0,.blk [cI p_n] 3)] (.tup [.agg [cI r.1.Kind,dV ((lM AType.cs r.1.Of))],aI r.2.1]) [(0,.blk [cI r.2.2] 3)]:=(qD n).1 v depth p_n hr
theorem ni (self0:AType→Option AType) (hself0:∀ (t:AType) {r:AType},self0 t=some r→Con Tryz.prog 212 [.agg [cI t.Kind,dV ((lM AType.cs t.Of))]] [] (.s (.agg [cI r.Kind,dV ((lM AType.cs r.Of))])) []) (t:AType) {r:AType} (hr:fc self0 t=some r):Con Tryz.prog 212 [.agg [cI t.Kind,dV ((lM AType.cs t.Of))]] [] (.s (.agg [cI r.Kind,dV ((lM AType.cs r.Of))])) []:=by
 unfold fc at hr
 refine ap 16 0 [.cell 2 196] [(0,.s (.agg [cI t.Kind,dV ((lM AType.cs t.Of))]))] Tryz.func212 zz zz zz zz zz zz zz zz fun w g M ρ _=>(af (ac (ak 0 (aP (j:=0) (cs:=[cI t.Kind,dV ((lM AType.cs t.Of))]) zz zz zz zz zz) (ak 0 (aw (j:=1) (cs:=[cI 0,.d (.v (.slice none 0 0))]) zz zz zz zz) (ab (af (af (ac (aa (.c (.loc 0 1)) (aa (aV (((lM AType.cs t.Of)))) (ae (aK (enc:=AType.cs) t.Of zz zz tv zz) (aa (aB ((t.Of.length:Int)==0)) (ab ?_)))))))))))))
 refine ah (b:=(t.Of.length:Int)==0) zz (fun h1=>?_) (fun h1=>?_)
 have hr:=selT h1 hr
 refine af (ac (aa (.c (.loc 0 0)) (aa (aI t.Kind) (aa (.agg [cI t.Kind,.d (.v (.slice none 0 0))]) (aq (al (cs':=[cI t.Kind,.d (.v (.slice none 0 0))]) zz zz zz zz zz zz zz zz zz) (ab (ao ?_)))))))
 obtain rfl:=sq hr
 exact ⟨_,zz,.inr zz,tv⟩
 have hr:=selF h1 hr
 refine aj (af (ac (aa (.c (.loc 0 1)) (aa (aV (((lM AType.cs t.Of)))) ?_))))
 obtain ⟨x2,hx2,hr⟩:=bq hr
 refine ae (aM (enc:=AType.cs) (L:=t.Of) (row:=[dI x2.Kind,.sl (lM AType.cs x2.Of)]) hx2 (AType.cs_eq _) zz zz zz (fun x=>by rw [AType.cs_eq];rfl) tv zz) ?_
 refine aa (.agg [cI x2.Kind,dV ((lM AType.cs x2.Of))]) ?_
 obtain ⟨x3,hx3,hr⟩:=bq hr
 refine ae (aL (tau []) (.s (.agg [cI x3.Kind,dV ((lM AType.cs x3.Of))])) [] (hself0 _ hx3) zz ⟨.inl zz,tv⟩ tv sX tv) ?_
 obtain ⟨x4,hx4,hr⟩:=bq hr
 refine ae (aL (tau []) (.s (.agg [cI x4.Kind,dV ((lM AType.cs x4.Of))])) [] (kA _ hx4) zz ⟨.inl zz,tv⟩ tv pi tv) (aq (al (cs':=[cI x4.Kind,dV ((lM AType.cs x4.Of))]) zz zz zz zz zz zz zz zz zz) (ab (ao ?_)))
 obtain rfl:=sq hr
 exact ⟨_,zz,.inl zz,tv⟩
theorem nh:∀ n:Nat,(∀ (t:AType) {r:AType},dA n t=some r→Con Tryz.prog 212 [.agg [cI t.Kind,dV ((lM AType.cs t.Of))]] [] (.s (.agg [cI r.Kind,dV ((lM AType.cs r.Of))])) [])∧True:=by
 intro n
 induction n with
 | zero=>exact ⟨(by intros;rename_i hr;cases hr),tv⟩
 | succ n ih=>exact ⟨(by intros;rename_i hr;exact ni _ ih.1 _ hr),tv⟩
theorem pd (n:Nat) (t:AType) {r:AType} (hr:dA n t=some r):Con Tryz.prog 212 [.agg [cI t.Kind,dV ((lM AType.cs t.Of))]] [] (.s (.agg [cI r.Kind,dV ((lM AType.cs r.Of))])) []:=(nh n).1 t hr
theorem rN (v:AValue) {r:AType×Int} (hr:iL v=some r):Con Tryz.prog 205 [.agg [cI v.Kind,cI v.N,cS v.S,dV ((lM AValue.cs v.L))]] [] (.tup [.agg [cI r.1.Kind,dV ((lM AType.cs r.1.Of))],aI r.2]) []:=by
 unfold iL at hr
 refine ap 18 0 [.cell 2 196,.tmp 3] [(0,.s (.agg [cI v.Kind,cI v.N,cS v.S,dV ((lM AValue.cs v.L))]))] Tryz.func205 zz zz zz zz zz zz zz zz fun w g M ρ _=>(af (ac (ak 0 (aP (j:=0) (cs:=[cI v.Kind,cI v.N,cS v.S,dV ((lM AValue.cs v.L))]) zz zz zz zz zz) (ak 0 (aw (j:=1) (cs:=[cI 0,.d (.v (.slice none 0 0))]) zz zz zz zz) (aa (aI 0) (ab (af (ac (ak 0 (aw (j:=2) (cs:=[cI 0]) zz zz zz zz) (aq (al (cs':=[cI 0]) zz zz zz zz zz zz zz zz zz) (ab (af (ac (aa (.agg [cI v.Kind,cI v.N,cS v.S,dV ((lM AValue.cs v.L))]) ?_))))))))))))))
 obtain ⟨x1,hx1,hr⟩:=bq hr
 refine ak 0 (aL (tau [(0,2)]) (.tup [.agg [cI x1.1.Kind,dV ((lM AType.cs x1.1.Of))],aI x1.2.1]) [(2,.blk [cI x1.2.2] 3)] (uj _ _ _ _ hx1) zz ⟨.inl zz,.inl zz,.inl zz,tv⟩ tv sY ⟨zz,tv⟩) (ae (dk (v:=.tup [.agg [cI x1.1.Kind,dV ((lM AType.cs x1.1.Of))],aI x1.2.1]) zz zz) (aa (.agg [cI x1.1.Kind,dV ((lM AType.cs x1.1.Of))]) (aa (aI x1.2.1) (ak 0 (aw (j:=3) (cs:=[cI 0,.d (.v (.slice none 0 0))]) zz zz zz zz) (aq (al (cs':=[cI x1.1.Kind,dV ((lM AType.cs x1.1.Of))]) zz zz zz zz zz zz zz zz zz) (aa (aI x1.2.1) (ab (af (af (ac (aa (aI x1.2.1) (aa (aB (x1.2.1 != 0)) (ab ?_)))))))))))))
 refine ah (b:=x1.2.1 != 0) zz (fun h2=>?_) (fun h2=>?_)
 have hr:=selT h2 hr
 refine af (ac (aa (.agg [cI 0,.d (.v (.slice none 0 0))]) (aa (aI x1.2.1) (aq (al (cs':=[cI 0,.d (.v (.slice none 0 0))]) zz zz zz zz zz zz zz zz zz) (aa (aI x1.2.1) (ab (ao ?_)))))))
 obtain rfl:=sq hr
 exact ⟨_,zz,.inr zz,tv⟩
 have hr:=selF h2 hr
 refine aj (af (ac (aa (.agg [cI x1.1.Kind,dV ((lM AType.cs x1.1.Of))]) ?_)))
 obtain ⟨x3,hx3,hr⟩:=bq hr
 refine ae (aL (tau []) (.s (.agg [cI x3.Kind,dV ((lM AType.cs x3.Of))])) [] (pd _ _ hx3) zz ⟨.inl zz,tv⟩ tv sX tv) (aq (al (cs':=[cI x3.Kind,dV ((lM AType.cs x3.Of))]) zz zz zz zz zz zz zz zz zz) (aa (aI 0) (ab (ao ?_))))
 obtain rfl:=sq hr
 exact ⟨_,zz,.inl zz,tv⟩
theorem og (v:AValue) {r:Int} (hr:fF v=some r):Con Tryz.prog 200 [.agg [cI v.Kind,cI v.N,cS v.S,dV ((lM AValue.cs v.L))]] [] (.s (aI r)) []:=by
 unfold fF at hr
 refine ap 11 0 [.tmp 2] [(0,.s (.agg [cI v.Kind,cI v.N,cS v.S,dV ((lM AValue.cs v.L))]))] Tryz.func200 zz zz zz zz zz zz zz zz fun w g M ρ _=>(af (ac (ak 0 (aP (j:=0) (cs:=[cI v.Kind,cI v.N,cS v.S,dV ((lM AValue.cs v.L))]) zz zz zz zz zz) (aa (aI 0) (ab (af (ac (aa (.agg [cI v.Kind,cI v.N,cS v.S,dV ((lM AValue.cs v.L))]) ?_))))))))
 obtain ⟨x1,hx1,hr⟩:=bq hr
 refine ae (aL (tau []) (.tup [.agg [cI x1.1.Kind,dV ((lM AType.cs x1.1.Of))],aI x1.2]) [] (rN _ hx1) zz ⟨.inl zz,tv⟩ tv xb tv) (ae (dk (v:=.tup [.agg [cI x1.1.Kind,dV ((lM AType.cs x1.1.Of))],aI x1.2]) zz zz) (aa (.agg [cI x1.1.Kind,dV ((lM AType.cs x1.1.Of))]) (aa (aI x1.2) (ak 0 (aw (j:=1) (cs:=[cI 0,.d (.v (.slice none 0 0))]) zz zz zz zz) (aq (al (cs':=[cI x1.1.Kind,dV ((lM AType.cs x1.1.Of))]) zz zz zz zz zz zz zz zz zz) (aa (aI x1.2) (ab (af (ac (aa (aI x1.2) (aa (aI x1.2) (ab (ao ?_)))))))))))))
 obtain rfl:=sq hr
 exact ⟨_,zz,.inl zz,tv⟩
end Go.Proofs.YtfoigppmcelgfaaGreatDoor
end
section
set_option maxRecDepth 100000
namespace Go.Proofs.YtfoigppmcelgfaaGreatDoor
open Go Go.E2
theorem mF (l:(List Attr)) {r:Int} (hr:eP l=some r):Con Tryz.prog 194 [aV (((lM Attr.cs l)))] [] (.s (aI r)) []:=by
 unfold eP at hr
 refine ap 39 0 [.tmp 2] [(0,.s (aV (((lM Attr.cs l)))))] Tryz.func194 zz zz zz zz zz zz zz zz fun w g M ρ _=>(af (ac (aa (aI 0) (ab ?_))))
 obtain ⟨k2,hk2,hr⟩:=ax hr
 refine ay (fun (s1:Unit)=>⟨[],[],0⟩) k2 r (fun s1 hr=>?_) ?_
 rw [hk2] at hr
 refine af (ac (aa (aI 0) (ab (ao ?_))))
 obtain rfl:=sq hr
 exact ⟨_,zz,.inl zz,tv⟩
 clear hk2
 refine af (ac (aa (aV (((lM Attr.cs l)))) (ae (aK (enc:=Attr.cs) l zz zz tv zz) (aa (aI 0) (ab (am (az (fun (s3:Int)=>⟨[(0,.s (aV (((lM Attr.cs l))))),(6,.s (aV (((lM Attr.cs l))))),(7,.s (aI (l.length:Int))),(8,.s (aI s3))],[],0⟩) hr (Conv.mk (tau []) ⟨cl zz,cl zz,cl zz,cl zz,tv⟩ tv zz zz zz zz) ?_)))))))
 clear hr
 intro again4 s3 hr
 unfold dZ at hr
 refine af (ac (aa (aB (decide (s3<(l.length:Int)))) (ab (af ?_))))
 refine ah (b:=decide (s3<(l.length:Int))) zz (fun h5=>?_) (fun h5=>?_)
 have hr:=selT h5 hr
 refine aj (af (am (af (ac (aa (aI s3) ?_)))))
 obtain ⟨x6,hx6,hr⟩:=bq hr
 refine ae (aM (enc:=Attr.cs) (L:=l) (row:=[dS x6.Name,dI x6.Value.Kind,dI x6.Value.N,dS x6.Value.S,.sl (lM AValue.cs x6.Value.L)]) hx6 zz zz zz zz (fun _=>zz) tv zz) (aa (.agg [cS x6.Name,cI x6.Value.Kind,cI x6.Value.N,cS x6.Value.S,dV ((lM AValue.cs x6.Value.L))]) (ak 0 (aw (j:=0) (cs:=[cS ByteArray.empty,cI 0,cI 0,cS ByteArray.empty,.d (.v (.slice none 0 0))]) zz zz zz zz) (aa (aI s3) (aq (al (cs':=[cS x6.Name,cI x6.Value.Kind,cI x6.Value.N,cS x6.Value.S,dV ((lM AValue.cs x6.Value.L))]) zz zz zz zz zz zz zz zz zz) (ab (af (am (af (ac (aa (.c (.loc 0 0)) (aa (aS x6.Name) ?_)))))))))))
 obtain ⟨x7,hx7,hr⟩:=bq hr
 refine ae (aL (tau []) (.s (aB x7)) [] (nj _ hx7) zz ⟨.inl zz,tv⟩ tv pk tv) (aa (aB (!x7)) (aa (aB (!x7)) (ab ?_)))
 refine ah (b:=!x7) zz (fun h8=>?_) (fun h8=>?_)
 have hr:=selT h8 hr
 refine af (ac (aa (aI 4) (ab (ao ?_))))
 obtain rfl:=sq hr
 exact ⟨_,zz,.inl zz,tv⟩
 have hr:=selF h8 hr
 refine af (aF (by kernel_rfl) (ar (aI s3) zz tv zz (ar (aB (decide (s3>0))) zz tv zz (ar (aB (decide (s3>0))) zz tv zz (av (ai (x:=aV (((lM Attr.cs l)))) zz zz tv zz) (av (ai (x:=aI s3) zz zz tv zz) (av (ai (x:=aI (wq (s3 - 1))) zz zz ⟨fun h=>h,tv⟩ zz) ?_)))))))
 obtain ⟨x9,hx9,hr⟩:=bq hr
 refine av (eR (enc:=Attr.cs) (L:=l) (row:=[dS x9.Name,dI x9.Value.Kind,dI x9.Value.N,dS x9.Value.S,.sl (lM AValue.cs x9.Value.L)]) (cQ hx9) zz zz zz zz zz (fun _=>zz) ⟨fun h=>h,⟨fun h=>h,tv⟩⟩ zz) (av (ai (x:=.c (.pt [dS x9.Name,dI x9.Value.Kind,dI x9.Value.N,dS x9.Value.S,.sl (lM AValue.cs x9.Value.L)])) zz zz ⟨fun h=>h,tv⟩ zz) (av (ai (x:=aS x9.Name) zz zz ⟨fun h=>h,tv⟩ zz) (av (ai (x:=.c (.loc 0 0)) zz zz tv zz) (av (ai (x:=aS x6.Name) zz zz ⟨fun h=>h,tv⟩ zz) (av (ai (x:=aB (!(Op.bytesLess x9.Name.toList x6.Name.toList))) zz zz ⟨fun h=>h,⟨fun h=>h,tv⟩⟩ zz) (av (bb zz zz (fun h=>h) zz) (ar (aB ((decide (s3>0))&&(!(Op.bytesLess x9.Name.toList x6.Name.toList)))) zz tv zz (aY (by kernel_rfl) ?_))))))))
 refine ah (b:=(decide (s3>0))&&(!(Op.bytesLess x9.Name.toList x6.Name.toList))) zz (fun h10=>?_) (fun h10=>?_)
 have hr:=selT h10 hr
 refine af (ac (aa (aI 10) (ab (ao ?_))))
 obtain rfl:=sq hr
 exact ⟨_,zz,.inl zz,tv⟩
 have hr:=selF h10 hr
 refine aj (af (ac (aa (.c (.loc 0 1)) (aa (.agg [cI x6.Value.Kind,cI x6.Value.N,cS x6.Value.S,dV ((lM AValue.cs x6.Value.L))]) ?_))))
 obtain ⟨x11,hx11,hr⟩:=bq hr
 refine ae (aL (tau []) (.s (aI x11)) [] (og _ hx11) zz ⟨.inl zz,tv⟩ tv sZ tv) (aa (aI x11) (ab (af (ac (aa (aI x11) (aa (aB (x11 != 0)) (ab ?_)))))))
 refine ah (b:=x11 != 0) zz (fun h12=>?_) (fun h12=>?_)
 have hr:=selT h12 hr
 refine af (ac (aa (aI x11) (aa (aI x11) (ab (ao ?_)))))
 obtain rfl:=sq hr
 exact ⟨_,zz,.inl zz,tv⟩
 have hr:=selF h12 hr
 refine aj (ac (aa (aI (wq (s3+1))) (aa (aI (wq (s3+1))) (ab ?_))))
 exact ⟨wq (s3+1),hr,(Conv.mk (tau []) ⟨cl zz,cl zz,cl zz,cl zz,tv⟩ tv zz zz zz zz)⟩
 have hr:=selF h5 hr
 refine aE ?_
 exact ⟨(),hr,(Conv.mk (tau []) tv tv zz zz zz zz)⟩
theorem pI (l:(List Action)) {r:Int} (hr:iE l=some r):Con Tryz.prog 195 [aV (((lM Action.cs l)))] [] (.s (aI r)) []:=by
 unfold iE at hr
 refine ap 65 0 [.tmp 2] [(0,.s (aV (((lM Action.cs l)))))] Tryz.func195 zz zz zz zz zz zz zz zz fun w g M ρ _=>(af (ac (aa (aI 0) (ab ?_))))
 obtain ⟨k2,hk2,hr⟩:=ax hr
 refine ay (fun (s1:Unit)=>⟨[],[],0⟩) k2 r (fun s1 hr=>?_) ?_
 rw [hk2] at hr
 refine af (ac (aa (aI 0) (ab (ao ?_))))
 obtain rfl:=sq hr
 exact ⟨_,zz,.inl zz,tv⟩
 clear hk2
 refine af (ac (aa (aV (((lM Action.cs l)))) (ae (aK (enc:=Action.cs) l zz zz tv zz) (aa (aI 0) (ab (am (az (fun (s3:Int)=>⟨[(0,.s (aV (((lM Action.cs l))))),(8,.s (aV (((lM Action.cs l))))),(9,.s (aI (l.length:Int))),(10,.s (aI s3))],[],0⟩) hr (Conv.mk (tau []) ⟨cl zz,cl zz,cl zz,cl zz,tv⟩ tv zz zz zz zz) ?_)))))))
 clear hr
 intro again4 s3 hr
 unfold fW at hr
 refine af (ac (aa (aB (decide (s3<(l.length:Int)))) (ab (af ?_))))
 refine ah (b:=decide (s3<(l.length:Int))) zz (fun h5=>?_) (fun h5=>?_)
 have hr:=selT h5 hr
 refine aj ?_
 obtain ⟨k7,hk7,hr⟩:=ax hr
 refine ay (fun (s6:Unit)=>⟨[(0,.s (aV (((lM Action.cs l))))),(8,.s (aV (((lM Action.cs l))))),(9,.s (aI (l.length:Int))),(10,.s (aI s3))],[],0⟩) k7 r (fun s6 hr=>?_) ?_
 rw [hk7] at hr
 refine ac (aa (aI (wq (s3+1))) (aa (aI (wq (s3+1))) (ab ?_)))
 exact ⟨wq (s3+1),hr,(Conv.mk (tau []) ⟨cl zz,cl zz,cl zz,cl zz,tv⟩ tv zz zz zz zz)⟩
 clear hk7
 refine am (af (ac (aa (aI s3) ?_)))
 obtain ⟨x8,hx8,hr⟩:=bq hr
 refine ae (aM (enc:=Action.cs) (L:=l) (row:=[dS x8.Event,dS x8.Instance,dS x8.Handler,.sl (lM AValue.cs x8.Args)]) hx8 zz zz zz zz (fun _=>zz) tv zz) (aa (.agg [cS x8.Event,cS x8.Instance,cS x8.Handler,dV ((lM AValue.cs x8.Args))]) (ak 0 (aw (j:=0) (cs:=[cS ByteArray.empty,cS ByteArray.empty,cS ByteArray.empty,.d (.v (.slice none 0 0))]) zz zz zz zz) (aa (aI s3) (aq (al (cs':=[cS x8.Event,cS x8.Instance,cS x8.Handler,dV ((lM AValue.cs x8.Args))]) zz zz zz zz zz zz zz zz zz) (ab (af (am (af (ac (aa (.c (.loc 0 0)) (aa (aS x8.Event) ?_)))))))))))
 obtain ⟨x9,hx9,hr⟩:=bq hr
 refine ae (aL (tau []) (.s (aB x9)) [] (nj _ hx9) zz ⟨.inl zz,tv⟩ tv pk tv) (aa (aB (!x9)) (aa (aB (!x9)) (ae (ai (x:=.c (.loc 0 2)) zz zz tv zz) (ae (ai (x:=aS x8.Handler) zz zz ⟨fun h=>h,tv⟩ zz) ?_))))
 obtain ⟨x10,hx10,hr⟩:=bq hr
 refine ae (a9 (x:=aB x10) (fun hg=>nj _ (cQ hx10 hg)) zz zz ⟨.inl zz,tv⟩ ⟨fun h=>h,tv⟩ pk zz zz zz) (ae (ai (x:=aB (!x10)) zz zz ⟨fun h=>h,tv⟩ zz) ?_)
 refine ae (bj zz zz (fun h=>by rw [h];rfl) zz) ?_
 refine aa (aB ((!x9)||(!x10))) (ab ?_)
 refine ah (b:=(!x9)||(!x10)) zz (fun h11=>?_) (fun h11=>?_)
 have hr:=selT h11 hr
 refine af (ac (aa (aI 4) (ab (ao ?_))))
 obtain rfl:=sq hr
 exact ⟨_,zz,.inl zz,tv⟩
 have hr:=selF h11 hr
 refine af (aF (by kernel_rfl) (ar (aI s3) zz tv zz (ar (aB (decide (s3>0))) zz tv zz (ar (aB (decide (s3>0))) zz tv zz (av (ai (x:=aV (((lM Action.cs l)))) zz zz tv zz) (av (ai (x:=aI s3) zz zz tv zz) (av (ai (x:=aI (wq (s3 - 1))) zz zz ⟨fun h=>h,tv⟩ zz) ?_)))))))
 obtain ⟨x12,hx12,hr⟩:=bq hr
 refine av (eR (enc:=Action.cs) (L:=l) (row:=[dS x12.Event,dS x12.Instance,dS x12.Handler,.sl (lM AValue.cs x12.Args)]) (cQ hx12) zz zz zz zz zz (fun _=>zz) ⟨fun h=>h,⟨fun h=>h,tv⟩⟩ zz) (av (ai (x:=.c (.pt [dS x12.Event,dS x12.Instance,dS x12.Handler,.sl (lM AValue.cs x12.Args)])) zz zz ⟨fun h=>h,tv⟩ zz) (av (ai (x:=aS x12.Event) zz zz ⟨fun h=>h,tv⟩ zz) (av (ai (x:=.c (.loc 0 0)) zz zz tv zz) (av (ai (x:=aS x8.Event) zz zz ⟨fun h=>h,tv⟩ zz) (av (ai (x:=aB (!(Op.bytesLess x12.Event.toList x8.Event.toList))) zz zz ⟨fun h=>h,⟨fun h=>h,tv⟩⟩ zz) (av (bb zz zz (fun h=>h) zz) (ar (aB ((decide (s3>0))&&(!(Op.bytesLess x12.Event.toList x8.Event.toList)))) zz tv zz (aY (by kernel_rfl) ?_))))))))
 refine ah (b:=(decide (s3>0))&&(!(Op.bytesLess x12.Event.toList x8.Event.toList))) zz (fun h13=>?_) (fun h13=>?_)
 have hr:=selT h13 hr
 refine af (ac (aa (aI 10) (ab (ao ?_))))
 obtain rfl:=sq hr
 exact ⟨_,zz,.inl zz,tv⟩
 have hr:=selF h13 hr
 refine af (ac (aa (.c (.loc 0 1)) (aa (aS x8.Instance) (aa (aI (x8.Instance.size:Int)) (aa (aB (decide ((x8.Instance.size:Int)>400))) (aa (aB (decide ((x8.Instance.size:Int)>400))) (ae (ai (x:=.c (.loc 0 3)) zz zz tv zz) (ae (ai (x:=aV (((lM AValue.cs x8.Args)))) zz zz ⟨fun h=>h,tv⟩ zz) (ae (cy (enc:=AValue.cs) x8.Args zz zz zz ⟨fun h=>h,tv⟩ zz) (ae (ai (x:=aB (decide ((x8.Args.length:Int)>100))) zz zz ⟨fun h=>h,tv⟩ zz) ?_))))))))))
 refine ae (bj zz zz (fun h=>by rw [h];rfl) zz) ?_
 refine aa (aB ((decide ((x8.Instance.size:Int)>400))||(decide ((x8.Args.length:Int)>100)))) (ab ?_)
 refine ah (b:=(decide ((x8.Instance.size:Int)>400))||(decide ((x8.Args.length:Int)>100))) zz (fun h14=>?_) (fun h14=>?_)
 have hr:=selT h14 hr
 refine af (ac (aa (aI 2) (ab (ao ?_))))
 obtain rfl:=sq hr
 exact ⟨_,zz,.inl zz,tv⟩
 have hr:=selF h14 hr
 refine aj (af (ac (aa (.c (.loc 0 3)) (aa (aV (((lM AValue.cs x8.Args)))) (ae (aK (enc:=AValue.cs) x8.Args zz zz tv zz) (aa (aI 0) (ab ?_)))))))
 obtain ⟨k16,hk16,hr⟩:=ax hr
 refine bZ (fun (s15:Unit)=>⟨[(0,.s (aV (((lM Action.cs l))))),(8,.s (aV (((lM Action.cs l))))),(9,.s (aI (l.length:Int))),(10,.s (aI s3))],[],0⟩) k16 r (fun s15 hr=>?_) ?_
 rw [hk16] at hr
 exact ⟨(),hr,(Conv.mk (tau []) ⟨cl zz,cl zz,cl zz,cl zz,tv⟩ tv zz zz zz zz)⟩
 clear hk16
 refine am (az (fun (s17:Int)=>⟨[(0,.s (aV (((lM Action.cs l))))),(8,.s (aV (((lM Action.cs l))))),(9,.s (aI (l.length:Int))),(10,.s (aI s3)),(52,.s (aV (((lM AValue.cs x8.Args))))),(53,.s (aI (x8.Args.length:Int))),(54,.s (aI s17))],[],0⟩) hr (Conv.mk (tau []) ⟨cl zz,cl zz,cl zz,cl zz,cl zz,cl zz,cl zz,tv⟩ tv zz zz zz zz) ?_)
 clear hr
 intro again18 s17 hr
 unfold c9 at hr
 refine af (ac (aa (aB (decide (s17<(x8.Args.length:Int)))) (ab (af ?_))))
 refine ah (b:=decide (s17<(x8.Args.length:Int))) zz (fun h19=>?_) (fun h19=>?_)
 have hr:=selT h19 hr
 refine aj (af (am (af (ac ?_))))
 obtain ⟨x20,hx20,hr⟩:=bq hr
 refine ae (aM (enc:=AValue.cs) (L:=x8.Args) (row:=[dI x20.Kind,dI x20.N,dS x20.S,.sl (lM AValue.cs x20.L)]) hx20 (AValue.cs_eq _) zz zz zz (fun x=>by rw [AValue.cs_eq];rfl) tv zz) ?_
 refine aa (.agg [cI x20.Kind,cI x20.N,cS x20.S,dV ((lM AValue.cs x20.L))]) (ak 0 (aw (j:=1) (cs:=[cI 0,cI 0,cS ByteArray.empty,.d (.v (.slice none 0 0))]) zz zz zz zz) (aq (al (cs':=[cI x20.Kind,cI x20.N,cS x20.S,dV ((lM AValue.cs x20.L))]) zz zz zz zz zz zz zz zz zz) (ab (af (ac (aa (.agg [cI x20.Kind,cI x20.N,cS x20.S,dV ((lM AValue.cs x20.L))]) ?_))))))
 obtain ⟨x21,hx21,hr⟩:=bq hr
 refine ae (aL (tau []) (.s (aI x21)) [] (og _ hx21) zz ⟨.inl zz,tv⟩ tv sZ tv) (aa (aI x21) (ab (af (ac (aa (aI x21) (aa (aB (x21 != 0)) (ab ?_)))))))
 refine ah (b:=x21 != 0) zz (fun h22=>?_) (fun h22=>?_)
 have hr:=selT h22 hr
 refine af (ac (aa (aI x21) (aa (aI x21) (ab (ao ?_)))))
 obtain rfl:=sq hr
 exact ⟨_,zz,.inl zz,tv⟩
 have hr:=selF h22 hr
 refine aj (ac (aa (aI (wq (s17+1))) (aa (aI (wq (s17+1))) (ab ?_))))
 exact ⟨wq (s17+1),hr,(Conv.mk (tau []) ⟨cl zz,cl zz,cl zz,cl zz,cl zz,cl zz,cl zz,tv⟩ tv zz zz zz zz)⟩
 have hr:=selF h19 hr
 refine aE ?_
 exact ⟨(),hr,(Conv.mk (tau []) ⟨cl zz,cl zz,cl zz,cl zz,tv⟩ tv zz zz zz zz)⟩
 have hr:=selF h5 hr
 refine aE ?_
 exact ⟨(),hr,(Conv.mk (tau []) tv tv zz zz zz zz)⟩
theorem mC (self0:View→Int→Int→Option (Int×Int)) (hself0:∀ (v:View) (depth:Int) (p_n:Int) {r:Int×Int},self0 v depth p_n=some r→Con Tryz.prog 184 [.agg [cI v.Kind,cS v.Key,dV ((lM Attr.cs v.Attrs)),dV ((lM Action.cs v.Actions)),dV ((lM View.cs v.Kids))],aI depth,.c (.loc 0 0)] [(0,.blk [cI p_n] 3)] (.s (aI r.1)) [(0,.blk [cI r.2] 3)]) (v:View) (depth:Int) (p_n:Int) {r:Int×Int} (hr:eK self0 v depth p_n=some r):Con Tryz.prog 184 [.agg [cI v.Kind,cS v.Key,dV ((lM Attr.cs v.Attrs)),dV ((lM Action.cs v.Actions)),dV ((lM View.cs v.Kids))],aI depth,.c (.loc 0 0)] [(0,.blk [cI p_n] 3)] (.s (aI r.1)) [(0,.blk [cI r.2] 3)]:=by
 unfold eK at hr
 refine ap 108 0 [.tmp 6] [(0,.s (.agg [cI v.Kind,cS v.Key,dV ((lM Attr.cs v.Attrs)),dV ((lM Action.cs v.Actions)),dV ((lM View.cs v.Kids))])),(1,.s (aI depth)),(2,.s (.c (.loc 0 0)))] Tryz.func184 zz zz zz zz zz zz zz zz fun w g M ρ _=>(af (ac (ak 0 (aP (j:=1) (cs:=[cI v.Kind,cS v.Key,dV ((lM Attr.cs v.Attrs)),dV ((lM Action.cs v.Actions)),dV ((lM View.cs v.Kids))]) zz zz zz zz zz) (aa (aI 0) (ab (af (ac (aa (.c (.loc 0 0)) (aa (.c (.loc 0 0)) (aa (aI p_n) (aa (aI (wq (p_n+1))) (aa (.c (.loc 0 0)) (aq (al (cs':=[cI (wq (p_n+1))]) zz zz zz zz zz zz zz zz zz) (ab (af ?_)))))))))))))))
 refine am (af (ac (aa (aI depth) (aa (aB (decide (depth>16))) (aa (aB (decide (depth>16))) (ab ?_))))))
 refine ah (b:=decide (depth>16)) zz (fun h1=>?_) (fun h1=>?_)
 have hr:=selT h1 hr
 refine af (ac (aa (aI 8) (ab (ao ?_))))
 obtain rfl:=sq hr
 exact ⟨_,zz,.inl zz,⟨zz,tv⟩⟩
 have hr:=selF h1 hr
 refine af (ac (aa (.c (.loc 0 0)) (aa (.c (.loc 0 0)) (aa (aI (wq (p_n+1))) (aa (aB (decide ((wq (p_n+1))>400))) (aa (aB (decide ((wq (p_n+1))>400))) (ab ?_)))))))
 refine ah (b:=decide ((wq (p_n+1))>400)) zz (fun h2=>?_) (fun h2=>?_)
 have hr:=selT h2 hr
 refine af (ac (aa (aI 2) (ab (ao ?_))))
 obtain rfl:=sq hr
 exact ⟨_,zz,.inl zz,⟨zz,tv⟩⟩
 have hr:=selF h2 hr
 refine af (ac (aa (.c (.loc 1 0)) (aa (aI v.Kind) (aa (aB (decide (v.Kind<1))) (aa (aB (decide (v.Kind<1))) (ae (ai (x:=.c (.loc 1 0)) zz zz tv zz) (ae (ai (x:=aI v.Kind) zz zz ⟨fun h=>h,tv⟩ zz) (ae (ai (x:=aB (decide (v.Kind>13))) zz zz ⟨fun h=>h,tv⟩ zz) ?_))))))))
 refine ae (bj zz zz (fun h=>by rw [h];rfl) zz) ?_
 refine aa (aB ((decide (v.Kind<1))||(decide (v.Kind>13)))) (ab ?_)
 refine ah (b:=(decide (v.Kind<1))||(decide (v.Kind>13))) zz (fun h3=>?_) (fun h3=>?_)
 have hr:=selT h3 hr
 refine af (ac (aa (aI 9) (ab (ao ?_))))
 obtain rfl:=sq hr
 exact ⟨_,zz,.inl zz,⟨zz,tv⟩⟩
 have hr:=selF h3 hr
 refine af (ac (aa (.c (.loc 1 1)) (aa (aS v.Key) ?_)))
 obtain ⟨x4,hx4,hr⟩:=bq hr
 refine ae (aL (tau []) (.s (aB x4)) [] (wE _ hx4) zz ⟨.inl zz,tv⟩ tv xe tv) (aa (aB (!x4)) (aa (aB (!x4)) (ab ?_)))
 refine ah (b:=!x4) zz (fun h5=>?_) (fun h5=>?_)
 have hr:=selT h5 hr
 refine af (ac (aa (aI 4) (ab (ao ?_))))
 obtain rfl:=sq hr
 exact ⟨_,zz,.inl zz,⟨zz,tv⟩⟩
 have hr:=selF h5 hr
 refine af (ac (aa (.c (.loc 1 2)) (aa (aV (((lM Attr.cs v.Attrs)))) (ae (aK (enc:=Attr.cs) v.Attrs zz zz tv zz) (aa (aB (decide ((v.Attrs.length:Int)>24))) (aa (aB (decide ((v.Attrs.length:Int)>24))) (ae (ai (x:=.c (.loc 1 3)) zz zz tv zz) (ae (ai (x:=aV (((lM Action.cs v.Actions)))) zz zz ⟨fun h=>h,tv⟩ zz) (ae (cy (enc:=Action.cs) v.Actions zz zz zz ⟨fun h=>h,tv⟩ zz) (ae (ai (x:=aB (decide ((v.Actions.length:Int)>24))) zz zz ⟨fun h=>h,tv⟩ zz) ?_))))))))))
 refine ae (bj zz zz (fun h=>by rw [h];rfl) zz) ?_
 refine aa (aB ((decide ((v.Attrs.length:Int)>24))||(decide ((v.Actions.length:Int)>24)))) (ae (ai (x:=.c (.loc 1 4)) zz zz tv zz) (ae (ai (x:=aV (((lM View.cs v.Kids)))) zz zz ⟨fun h=>h,tv⟩ zz) (ae (cy (enc:=View.cs) v.Kids zz zz zz ⟨fun h=>h,tv⟩ zz) (ae (ai (x:=aB (decide ((v.Kids.length:Int)>100))) zz zz ⟨fun h=>h,tv⟩ zz) ?_))))
 refine ae (bj zz zz (fun h=>by rw [h];rfl) zz) ?_
 refine aa (aB (((decide ((v.Attrs.length:Int)>24))||(decide ((v.Actions.length:Int)>24)))||(decide ((v.Kids.length:Int)>100)))) (ab ?_)
 refine ah (b:=((decide ((v.Attrs.length:Int)>24))||(decide ((v.Actions.length:Int)>24)))||(decide ((v.Kids.length:Int)>100))) zz (fun h6=>?_) (fun h6=>?_)
 have hr:=selT h6 hr
 refine af (ac (aa (aI 2) (ab (ao ?_))))
 obtain rfl:=sq hr
 exact ⟨_,zz,.inl zz,⟨zz,tv⟩⟩
 have hr:=selF h6 hr
 refine aj (af (af (ac (aa (.c (.loc 1 2)) (aa (aV (((lM Attr.cs v.Attrs)))) ?_)))))
 obtain ⟨x7,hx7,hr⟩:=bq hr
 refine ae (aL (tau []) (.s (aI x7)) [] (mF _ hx7) zz ⟨.inl zz,tv⟩ tv xd tv) (aa (aI x7) (ab (af (ac (aa (aI x7) (aa (aB (x7 != 0)) (ab ?_)))))))
 refine ah (b:=x7 != 0) zz (fun h8=>?_) (fun h8=>?_)
 have hr:=selT h8 hr
 refine af (ac (aa (aI x7) (aa (aI x7) (ab (ao ?_)))))
 obtain rfl:=sq hr
 exact ⟨_,zz,.inl zz,⟨zz,tv⟩⟩
 have hr:=selF h8 hr
 refine aj (af (af (ac (aa (.c (.loc 1 3)) (aa (aV (((lM Action.cs v.Actions)))) ?_)))))
 obtain ⟨x9,hx9,hr⟩:=bq hr
 refine ae (aL (tau []) (.s (aI x9)) [] (pI _ hx9) zz ⟨.inl zz,tv⟩ tv xc tv) (aa (aI x9) (ab (af (ac (aa (aI x9) (aa (aB (x9 != 0)) (ab ?_)))))))
 refine ah (b:=x9 != 0) zz (fun h10=>?_) (fun h10=>?_)
 have hr:=selT h10 hr
 refine af (ac (aa (aI x9) (aa (aI x9) (ab (ao ?_)))))
 obtain rfl:=sq hr
 exact ⟨_,zz,.inl zz,⟨zz,tv⟩⟩
 have hr:=selF h10 hr
 refine aj (af (ac (ak 0 (g9 (j:=2) false zz zz) (aa (.c (.own 2)) (ab ?_)))))
 obtain ⟨k12,hk12,hr⟩:=ax hr
 refine ay (fun (s11:Unit)=>⟨[(1,.s (aI depth)),(2,.s (.c (.loc 0 0))),(3,.s (.c (.loc 1 0)))],[(0,.blk [cI (wq (p_n+1))] 3),(1,.blk [cI v.Kind,cS v.Key,dV ((lM Attr.cs v.Attrs)),dV ((lM Action.cs v.Actions)),dV ((lM View.cs v.Kids))] 27)],0⟩) k12 r (fun s11 hr=>?_) ?_
 rw [hk12] at hr
 obtain ⟨k14,hk14,hr⟩:=ax hr
 refine ay (fun (s13:Int)=>⟨[],[(0,.blk [cI s13] 3)],0⟩) k14 r (fun s13 hr=>?_) ?_
 rw [hk14] at hr
 refine af (ac (aa (aI 0) (ab (ao ?_))))
 obtain rfl:=sq hr
 exact ⟨_,zz,.inl zz,⟨zz,tv⟩⟩
 clear hk14
 refine af (ac (aa (.c (.loc 1 4)) (aa (aV (((lM View.cs v.Kids)))) (ae (aK (enc:=View.cs) v.Kids zz zz tv zz) (aa (aI 0) (ab (am (az (fun (s15:Int×Int)=>⟨[(1,.s (aI depth)),(2,.s (.c (.loc 0 0))),(93,.s (aV (((lM View.cs v.Kids))))),(94,.s (aI (v.Kids.length:Int))),(95,.s (aI s15.1))],[(0,.blk [cI s15.2] 3)],0⟩) hr (Conv.mk (tau []) ⟨cl zz,cl zz,cl zz,cl zz,cl zz,tv⟩ ⟨zz,tv⟩ zz zz zz zz) ?_))))))))
 clear hr
 intro again16 s15 hr
 unfold de at hr
 refine af (ac (aa (aB (decide (s15.1<(v.Kids.length:Int)))) (ab (af ?_))))
 refine ah (b:=decide (s15.1<(v.Kids.length:Int))) zz (fun h17=>?_) (fun h17=>?_)
 have hr:=selT h17 hr
 refine aj (af (am (af (ac ?_))))
 obtain ⟨x18,hx18,hr⟩:=bq hr
 refine ae (aM (enc:=View.cs) (L:=v.Kids) (row:=[dI x18.Kind,dS x18.Key,.sl (lM Attr.cs x18.Attrs),.sl (lM Action.cs x18.Actions),.sl (lM View.cs x18.Kids)]) hx18 (View.cs_eq _) zz zz zz (fun x=>by rw [View.cs_eq];rfl) tv zz) ?_
 refine aa (.agg [cI x18.Kind,cS x18.Key,dV ((lM Attr.cs x18.Attrs)),dV ((lM Action.cs x18.Actions)),dV ((lM View.cs x18.Kids))]) (ak 0 (aw (j:=3) (cs:=[cI 0,cS ByteArray.empty,.d (.v (.slice none 0 0)),.d (.v (.slice none 0 0)),.d (.v (.slice none 0 0))]) zz zz zz zz) (aq (al (cs':=[cI x18.Kind,cS x18.Key,dV ((lM Attr.cs x18.Attrs)),dV ((lM Action.cs x18.Actions)),dV ((lM View.cs x18.Kids))]) zz zz zz zz zz zz zz zz zz) (ab (af (ac (aa (.agg [cI x18.Kind,cS x18.Key,dV ((lM Attr.cs x18.Attrs)),dV ((lM Action.cs x18.Actions)),dV ((lM View.cs x18.Kids))]) (aa (aI depth) (aa (aI (wq (depth+1))) (aa (.c (.loc 0 0)) ?_)))))))))
 obtain ⟨x19,hx19,hr⟩:=bq hr
 refine ak 0 (aL (tau [(0,0)]) (.s (aI x19.1)) [(0,.blk [cI x19.2] 3)] (hself0 _ _ _ hx19) zz ⟨.inl zz,.inl zz,.inl zz,tv⟩ tv ta ⟨zz,tv⟩) (aa (aI x19.1) (ab (af (ac (aa (aI x19.1) (aa (aB (x19.1 != 0)) (ab ?_)))))))
 refine ah (b:=x19.1 != 0) zz (fun h20=>?_) (fun h20=>?_)
 have hr:=selT h20 hr
 refine af (ac (aa (aI x19.1) (aa (aI x19.1) (ab (ao ?_)))))
 obtain rfl:=sq hr
 exact ⟨_,zz,.inl zz,⟨zz,tv⟩⟩
 have hr:=selF h20 hr
 refine aj (ac (aa (aI (wq (s15.1+1))) (aa (aI (wq (s15.1+1))) (ab ?_))))
 exact ⟨(wq (s15.1+1),x19.2),hr,(Conv.mk (tau []) ⟨cl zz,cl zz,cl zz,cl zz,cl zz,tv⟩ ⟨zz,tv⟩ zz zz zz zz)⟩
 have hr:=selF h17 hr
 refine aE ?_
 exact ⟨s15.2,hr,(Conv.mk (tau []) tv ⟨zz,tv⟩ zz zz zz zz)⟩
 clear hk12
 refine af (ac (aa (.c (.loc 1 4)) (aa (aV (((lM View.cs v.Kids)))) (ae (aK (enc:=View.cs) v.Kids zz zz tv zz) (aa (aI 0) (ab (am (az (fun (s21:Int×(List (Str×Bool)))=>⟨[(1,.s (aI depth)),(2,.s (.c (.loc 0 0))),(3,.s (.c (.loc 1 0))),(9,.s (.c (.own 2))),(73,.s (aV (((lM View.cs v.Kids))))),(74,.s (aI (v.Kids.length:Int))),(75,.s (aI s21.1))],[(0,.blk [cI (wq (p_n+1))] 3),(1,.blk [cI v.Kind,cS v.Key,dV ((lM Attr.cs v.Attrs)),dV ((lM Action.cs v.Actions)),dV ((lM View.cs v.Kids))] 27),(2,.mp false (encM kStr eBool s21.2))],0⟩) hr (Conv.mk (tau []) ⟨cl zz,cl zz,cl zz,cl zz,cl zz,cl zz,cl zz,tv⟩ ⟨zz,zz,zz,tv⟩ zz zz zz zz) ?_))))))))
 clear hr
 intro again22 s21 hr
 unfold iq at hr
 refine af (ac (aa (aB (decide (s21.1<(v.Kids.length:Int)))) (ab (af ?_))))
 refine ah (b:=decide (s21.1<(v.Kids.length:Int))) zz (fun h23=>?_) (fun h23=>?_)
 have hr:=selT h23 hr
 refine aj (af (am (af (ac ?_))))
 obtain ⟨x24,hx24,hr⟩:=bq hr
 refine ae (aM (enc:=View.cs) (L:=v.Kids) (row:=[dI x24.Kind,dS x24.Key,.sl (lM Attr.cs x24.Attrs),.sl (lM Action.cs x24.Actions),.sl (lM View.cs x24.Kids)]) hx24 (View.cs_eq _) zz zz zz (fun x=>by rw [View.cs_eq];rfl) tv zz) ?_
 refine aa (.agg [cI x24.Kind,cS x24.Key,dV ((lM Attr.cs x24.Attrs)),dV ((lM Action.cs x24.Actions)),dV ((lM View.cs x24.Kids))]) (ak 0 (aw (j:=4) (cs:=[cI 0,cS ByteArray.empty,.d (.v (.slice none 0 0)),.d (.v (.slice none 0 0)),.d (.v (.slice none 0 0))]) zz zz zz zz) (aq (al (cs':=[cI x24.Kind,cS x24.Key,dV ((lM Attr.cs x24.Attrs)),dV ((lM Action.cs x24.Actions)),dV ((lM View.cs x24.Kids))]) zz zz zz zz zz zz zz zz zz) (ab (af (af (ac (aa (.c (.loc 4 1)) (aa (aS x24.Key) (aa (aB (!(x24.Key.toList==(ByteArray.mk #[]).toList))) (aa (aB (!(x24.Key.toList==(ByteArray.mk #[]).toList))) (ae (ai (x:=.c (.own 2)) zz zz tv zz) (ae (ai (x:=.c (.loc 4 1)) zz zz tv zz) (ae (ai (x:=aS x24.Key) zz zz ⟨fun h=>h,tv⟩ zz) ?_)))))))))))))
 obtain ⟨x25,hx25,hr⟩:=bq hr
 refine ae (kN (agg:=false) (ek:=kStr) (ev:=eBool) (L:=s21.2) (r:=aB x25.1) (cQ hx25) zz zz zz zz (keyStr Tryz.underlying9) zz zz (fun _ _=>zz) zz ⟨fun h=>h,⟨fun h=>h,tv⟩⟩ zz) (ae (bb zz zz (fun h=>h) zz) (ab ?_))
 refine ah (b:=(!(x24.Key.toList==(ByteArray.mk #[]).toList))&&x25.1) zz (fun h26=>?_) (fun h26=>?_)
 have hr:=selT h26 hr
 refine af (ac (aa (aI 6) (ab (ao ?_))))
 obtain rfl:=sq hr
 exact ⟨_,zz,.inl zz,⟨zz,tv⟩⟩
 have hr:=selF h26 hr
 refine aj (ac (aa (.c (.own 2)) (aa (.c (.loc 4 1)) (aa (aS x24.Key) (aq (hC (ek:=kStr) (ev:=eBool) (L:=s21.2) (z:=true) zz zz zz zz zz zz (keyStr Tryz.underlying9) (fun _ _=>zz) zz tv) (ab (ac (aa (aI (wq (s21.1+1))) (aa (aI (wq (s21.1+1))) (ab ?_))))))))))
 exact ⟨(wq (s21.1+1),msetL s21.2 x24.Key true),hr,(Conv.mk (tau []) ⟨cl zz,cl zz,cl zz,cl zz,cl zz,cl zz,cl zz,tv⟩ ⟨zz,zz,zz,tv⟩ zz zz zz zz)⟩
 have hr:=selF h23 hr
 refine aE ?_
 exact ⟨(),hr,(Conv.mk (tau []) ⟨cl zz,cl zz,cl zz,tv⟩ ⟨zz,zz,tv⟩ zz zz zz zz)⟩
theorem mB:∀ n:Nat,(∀ (v:View) (depth:Int) (p_n:Int) {r:Int×Int},ec n v depth p_n=some r→Con Tryz.prog 184 [.agg [cI v.Kind,cS v.Key,dV ((lM Attr.cs v.Attrs)),dV ((lM Action.cs v.Actions)),dV ((lM View.cs v.Kids))],aI depth,.c (.loc 0 0)] [(0,.blk [cI p_n] 3)] (.s (aI r.1)) [(0,.blk [cI r.2] 3)])∧True:=by
 intro n
 induction n with
 | zero=>exact ⟨(by intros;rename_i hr;cases hr),tv⟩
 | succ n ih=>exact ⟨(by intros;rename_i hr;exact mC _ ih.1 _ _ _ hr),tv⟩
theorem oy (n:Nat) (v:View) (depth:Int) (p_n:Int) {r:Int×Int} (hr:ec n v depth p_n=some r):Con Tryz.prog 184 [.agg [cI v.Kind,cS v.Key,dV ((lM Attr.cs v.Attrs)),dV ((lM Action.cs v.Actions)),dV ((lM View.cs v.Kids))],aI depth,.c (.loc 0 0)] [(0,.blk [cI p_n] 3)] (.s (aI r.1)) [(0,.blk [cI r.2] 3)]:=(mB n).1 v depth p_n hr
theorem oz (v:View) {r:Int} (hr:eg v=some r):Con Tryz.prog 161 [.agg [cI v.Kind,cS v.Key,dV ((lM Attr.cs v.Attrs)),dV ((lM Action.cs v.Actions)),dV ((lM View.cs v.Kids))]] [] (.s (aI r)) []:=by
 unfold eg at hr
 refine ap 6 0 [.tmp 2] [(0,.s (.agg [cI v.Kind,cS v.Key,dV ((lM Attr.cs v.Attrs)),dV ((lM Action.cs v.Actions)),dV ((lM View.cs v.Kids))]))] Tryz.func161 zz zz zz zz zz zz zz zz fun w g M ρ _=>(af (ac (ak 0 (aP (j:=0) (cs:=[cI v.Kind,cS v.Key,dV ((lM Attr.cs v.Attrs)),dV ((lM Action.cs v.Actions)),dV ((lM View.cs v.Kids))]) zz zz zz zz zz) (aa (aI 0) (ab (af (ac (ak 0 (aw (j:=1) (cs:=[cI 0]) zz zz zz zz) (aq (al (cs':=[cI 0]) zz zz zz zz zz zz zz zz zz) (ab (af (ac (aa (.agg [cI v.Kind,cS v.Key,dV ((lM Attr.cs v.Attrs)),dV ((lM Action.cs v.Actions)),dV ((lM View.cs v.Kids))]) ?_)))))))))))))
 obtain ⟨x1,hx1,hr⟩:=bq hr
 refine ak 0 (aL (tau [(0,1)]) (.s (aI x1.1)) [(1,.blk [cI x1.2] 3)] (oy _ _ _ _ hx1) zz ⟨.inl zz,.inl zz,.inl zz,tv⟩ tv ta ⟨zz,tv⟩) (aa (aI x1.1) (ab (ao ?_)))
 obtain rfl:=sq hr
 exact ⟨_,zz,.inl zz,tv⟩
theorem pH (self0:AValue→Option AValue) (self1:(List AValue)→Option (List AValue)) (_hself0:∀ (v:AValue) {r:AValue},self0 v=some r→Con Tryz.prog 113 [.agg [cI v.Kind,cI v.N,cS v.S,dV ((lM AValue.cs v.L))]] [] (.s (.agg [cI r.Kind,cI r.N,cS r.S,dV ((lM AValue.cs r.L))])) []) (hself1:∀ (l:(List AValue)) {r:(List AValue)},self1 l=some r→Con Tryz.prog 114 [aV (((lM AValue.cs l)))] [] (.s (aV (((lM AValue.cs r))))) []) (v:AValue) {r:AValue} (hr:iD self0 self1 v=some r):Con Tryz.prog 113 [.agg [cI v.Kind,cI v.N,cS v.S,dV ((lM AValue.cs v.L))]] [] (.s (.agg [cI r.Kind,cI r.N,cS r.S,dV ((lM AValue.cs r.L))])) []:=by
 unfold iD at hr
 refine ap 8 0 [.cell 2 53] [(0,.s (.agg [cI v.Kind,cI v.N,cS v.S,dV ((lM AValue.cs v.L))]))] Tryz.func113 zz zz zz zz zz zz zz zz fun w g M ρ _=>(af (ac (ak 0 (aP (j:=0) (cs:=[cI v.Kind,cI v.N,cS v.S,dV ((lM AValue.cs v.L))]) zz zz zz zz zz) (ak 0 (aw (j:=1) (cs:=[cI 0,cI 0,cS ByteArray.empty,.d (.v (.slice none 0 0))]) zz zz zz zz) (ab (af (ac (aa (.c (.loc 0 3)) (aa (aV (((lM AValue.cs v.L)))) ?_)))))))))
 obtain ⟨x1,hx1,hr⟩:=bq hr
 refine ae (aL (tau []) (.s (aV (((lM AValue.cs x1))))) [] (hself1 _ hx1) zz ⟨.inl zz,tv⟩ tv tu tv) (aa (.c (.loc 0 3)) (aq (al (cs':=[cI v.Kind,cI v.N,cS v.S,dV ((lM AValue.cs x1))]) zz zz zz zz zz zz zz zz zz) (ab (af (ac (aa (.agg [cI v.Kind,cI v.N,cS v.S,dV ((lM AValue.cs x1))]) (aq (al (cs':=[cI v.Kind,cI v.N,cS v.S,dV ((lM AValue.cs x1))]) zz zz zz zz zz zz zz zz zz) (ab (ao ?_)))))))))
 obtain rfl:=sq hr
 exact ⟨_,zz,.inl zz,tv⟩
theorem ox (self0:AValue→Option AValue) (self1:(List AValue)→Option (List AValue)) (hself0:∀ (v:AValue) {r:AValue},self0 v=some r→Con Tryz.prog 113 [.agg [cI v.Kind,cI v.N,cS v.S,dV ((lM AValue.cs v.L))]] [] (.s (.agg [cI r.Kind,cI r.N,cS r.S,dV ((lM AValue.cs r.L))])) []) (_hself1:∀ (l:(List AValue)) {r:(List AValue)},self1 l=some r→Con Tryz.prog 114 [aV (((lM AValue.cs l)))] [] (.s (aV (((lM AValue.cs r))))) []) (l:(List AValue)) {r:(List AValue)} (hr:go self0 self1 l=some r):Con Tryz.prog 114 [aV (((lM AValue.cs l)))] [] (.s (aV (((lM AValue.cs r))))) []:=by
 unfold go at hr
 refine ap 19 0 [.tmp 2] [(0,.s (aV (((lM AValue.cs l)))))] Tryz.func114 zz zz zz zz zz zz zz zz fun w g M ρ _=>(af (ac (aa (.c (.d (.v (.slice none 0 0)))) (ab (af (ac (aa (.c (.d (.v (.slice none 0 0)))) (ab ?_))))))))
 obtain ⟨k2,hk2,hr⟩:=ax hr
 refine ay (fun (s1:(List AValue))=>⟨[(3,.s (.c (.tl 1004 (lM AValue.cs s1))))],[(1004,.tail 4)],0⟩) k2 r (fun s1 hr=>?_) ?_
 rw [hk2] at hr
 refine af (ac (aa (.c (.tl 1004 (lM AValue.cs s1))) (aa (.c (.tl 1004 (lM AValue.cs s1))) (ab (ao ?_)))))
 obtain rfl:=sq hr
 exact ⟨_,zz,.inr zz,tv⟩
 clear hk2
 refine af (ac (aa (aV (((lM AValue.cs l)))) (ae (aK (enc:=AValue.cs) l zz zz tv zz) (aa (aI 0) (ab (am (az (fun (s3:(List AValue)×Int)=>⟨[(3,.s (.c (.tl 1007 (lM AValue.cs s3.1)))),(6,.s (aV (((lM AValue.cs l))))),(7,.s (aI (l.length:Int))),(8,.s (aI s3.2))],[(1007,.tail 4)],0⟩) hr (Conv.trans (Conv.nil 3 1009 4 0 zz zz) (Conv.mk (tau [(1007,1009)]) ⟨cl zz,cl zz,cl zz,cl zz,tv⟩ ⟨zz,tv⟩ zz zz zz zz)) ?_)))))))
 clear hr
 intro again4 s3 hr
 unfold em at hr
 refine af (ac (aa (aB (decide (s3.2<(l.length:Int)))) (ab (af ?_))))
 refine ah (b:=decide (s3.2<(l.length:Int))) zz (fun h5=>?_) (fun h5=>?_)
 have hr:=selT h5 hr
 refine aj (af (am (af (ac ?_))))
 obtain ⟨x6,hx6,hr⟩:=bq hr
 refine ae (aM (enc:=AValue.cs) (L:=l) (row:=[dI x6.Kind,dI x6.N,dS x6.S,.sl (lM AValue.cs x6.L)]) hx6 (AValue.cs_eq _) zz zz zz (fun x=>by rw [AValue.cs_eq];rfl) tv zz) ?_
 refine aa (.agg [cI x6.Kind,cI x6.N,cS x6.S,dV ((lM AValue.cs x6.L))]) (ak 0 (aw (j:=0) (cs:=[cI 0,cI 0,cS ByteArray.empty,.d (.v (.slice none 0 0))]) zz zz zz zz) (aq (al (cs':=[cI x6.Kind,cI x6.N,cS x6.S,dV ((lM AValue.cs x6.L))]) zz zz zz zz zz zz zz zz zz) (ab (ac (aa (.c (.tl 1007 (lM AValue.cs s3.1))) (aa (.agg [cI x6.Kind,cI x6.N,cS x6.S,dV ((lM AValue.cs x6.L))]) ?_))))))
 obtain ⟨x7,hx7,hr⟩:=bq hr
 refine ae (aL (tau []) (.s (.agg [cI x7.Kind,cI x7.N,cS x7.S,dV ((lM AValue.cs x7.L))])) [] (hself0 _ hx7) zz ⟨.inl zz,tv⟩ tv pq tv) ?_
 refine ak 0 (cp (sz:=4) (enc:=AValue.cs) (j:=1) ([x7]) zz zz zz zz zz (rows:=[[dI x7.Kind,dI x7.N,dS x7.S,.sl (lM AValue.cs x7.L)]]) (by simp only [List.map,AValue.cs_eq]) zz zz (fun x=>by rw [AValue.cs_eq];rfl) tv zz zz) ?_
 obtain ⟨x8,hx8,hr⟩:=bq hr
 refine bW 0 (dQ (enc:=AValue.cs) (L:=s3.1) (X:=[x7]) (j:=1007) (j':=2) hx8 zz zz zz zz zz zz (fun x=>by rw [AValue.cs_eq];rfl) (fun x=>by rw [AValue.cs_eq];rfl) (by decide) tv zz zz) ?_
 refine aa (.c (.tl 2 (lM AValue.cs x8))) (ab (ac (aa (aI (wq (s3.2+1))) (aa (aI (wq (s3.2+1))) (ab ?_)))))
 exact ⟨(x8,wq (s3.2+1)),hr,(Conv.mk (tau [(1007,2)]) ⟨cl zz,cl zz,cl zz,cl zz,tv⟩ ⟨zz,tv⟩ zz zz zz zz)⟩
 have hr:=selF h5 hr
 refine aE ?_
 exact ⟨s3.1,hr,(Conv.mk (tau [(1004,1007)]) ⟨cl zz,tv⟩ ⟨zz,tv⟩ zz zz zz zz)⟩
theorem lP:∀ n:Nat,(∀ (v:AValue) {r:AValue},dD n v=some r→Con Tryz.prog 113 [.agg [cI v.Kind,cI v.N,cS v.S,dV ((lM AValue.cs v.L))]] [] (.s (.agg [cI r.Kind,cI r.N,cS r.S,dV ((lM AValue.cs r.L))])) [])∧(∀ (l:(List AValue)) {r:(List AValue)},fI n l=some r→Con Tryz.prog 114 [aV (((lM AValue.cs l)))] [] (.s (aV (((lM AValue.cs r))))) [])∧True:=by
 intro n
 induction n with
 | zero=>exact ⟨(by intros;rename_i hr;cases hr),(by intros;rename_i hr;cases hr),tv⟩
 | succ n ih=>exact ⟨(by intros;rename_i hr;exact pH _ _ ih.1 ih.2.1 _ hr),(by intros;rename_i hr;exact ox _ _ ih.1 ih.2.1 _ hr),tv⟩
theorem nK (n:Nat) (v:AValue) {r:AValue} (hr:dD n v=some r):Con Tryz.prog 113 [.agg [cI v.Kind,cI v.N,cS v.S,dV ((lM AValue.cs v.L))]] [] (.s (.agg [cI r.Kind,cI r.N,cS r.S,dV ((lM AValue.cs r.L))])) []:=(lP n).1 v hr
theorem qP (n:Nat) (l:(List AValue)) {r:(List AValue)} (hr:fI n l=some r):Con Tryz.prog 114 [aV (((lM AValue.cs l)))] [] (.s (aV (((lM AValue.cs r))))) []:=(lP n).2.1 l hr
theorem qQ (attrs:(List Attr)) (acts:(List Action)) {r:(List Attr)×(List Action)} (hr:ji attrs acts=some r):Con Tryz.prog 76 [aV (((lM Attr.cs attrs))),aV (((lM Action.cs acts)))] [] (.tup [aV (((lM Attr.cs r.1))),aV (((lM Action.cs r.2)))]) []:=by
 unfold ji at hr
 refine ap 45 0 [.tmp 4,.tmp 5] [(0,.s (aV (((lM Attr.cs attrs))))),(1,.s (aV (((lM Action.cs acts)))))] Tryz.func76 zz zz zz zz zz zz zz zz fun w g M ρ _=>(af (ac (aa (.c (.d (.v (.slice none 0 0)))) (aa (.c (.d (.v (.slice none 0 0)))) (ab (af (ac (aa (.c (.d (.v (.slice none 0 0)))) (ab ?_)))))))))
 obtain ⟨k2,hk2,hr⟩:=ax hr
 refine ay (fun (s1:(List Attr))=>⟨[(1,.s (aV (((lM Action.cs acts))))),(6,.s (.c (.tl 1004 (lM Attr.cs s1))))],[(1004,.tail 5)],0⟩) k2 r (fun s1 hr=>?_) ?_
 rw [hk2] at hr
 refine af (ac (aa (.c (.d (.v (.slice none 0 0)))) (ab ?_)))
 obtain ⟨k4,hk4,hr⟩:=ax hr
 refine ay (fun (s3:(List Action))=>⟨[(6,.s (.c (.tl 1004 (lM Attr.cs s1)))),(9,.s (.c (.tl 1009 (lM Action.cs s3))))],[(1004,.tail 5),(1009,.tail 4)],0⟩) k4 r (fun s3 hr=>?_) ?_
 rw [hk4] at hr
 refine af (ac (aa (.c (.tl 1004 (lM Attr.cs s1))) (aa (.c (.tl 1009 (lM Action.cs s3))) (aa (.c (.tl 1004 (lM Attr.cs s1))) (aa (.c (.tl 1009 (lM Action.cs s3))) (ab (ao ?_)))))))
 obtain rfl:=sq hr
 exact ⟨_,zz,.inr zz,tv⟩
 clear hk4
 refine af (ac (aa (aV (((lM Action.cs acts)))) (ae (aK (enc:=Action.cs) acts zz zz tv zz) (aa (aI 0) (ab (am (az (fun (s5:(List Action)×Int)=>⟨[(6,.s (.c (.tl 1004 (lM Attr.cs s1)))),(9,.s (.c (.tl 1012 (lM Action.cs s5.1)))),(28,.s (aV (((lM Action.cs acts))))),(29,.s (aI (acts.length:Int))),(30,.s (aI s5.2))],[(1004,.tail 5),(1012,.tail 4)],0⟩) hr (Conv.trans (Conv.nil 9 1014 4 0 zz zz) (Conv.mk (tau [(1012,1014)]) ⟨cl zz,cl zz,cl zz,cl zz,cl zz,tv⟩ ⟨zz,zz,tv⟩ zz zz zz zz)) ?_)))))))
 clear hr
 intro again6 s5 hr
 unfold g8 at hr
 refine af (ac (aa (aB (decide (s5.2<(acts.length:Int)))) (ab (af ?_))))
 refine ah (b:=decide (s5.2<(acts.length:Int))) zz (fun h7=>?_) (fun h7=>?_)
 have hr:=selT h7 hr
 refine aj (af (am (af (ac ?_))))
 obtain ⟨x8,hx8,hr⟩:=bq hr
 refine ae (aM (enc:=Action.cs) (L:=acts) (row:=[dS x8.Event,dS x8.Instance,dS x8.Handler,.sl (lM AValue.cs x8.Args)]) hx8 zz zz zz zz (fun _=>zz) tv zz) (aa (.agg [cS x8.Event,cS x8.Instance,cS x8.Handler,dV ((lM AValue.cs x8.Args))]) (ak 0 (aw (j:=0) (cs:=[cS ByteArray.empty,cS ByteArray.empty,cS ByteArray.empty,.d (.v (.slice none 0 0))]) zz zz zz zz) (aq (al (cs':=[cS x8.Event,cS x8.Instance,cS x8.Handler,dV ((lM AValue.cs x8.Args))]) zz zz zz zz zz zz zz zz zz) (ab (af (ac (aa (.c (.loc 0 3)) (aa (aV (((lM AValue.cs x8.Args)))) ?_))))))))
 obtain ⟨x9,hx9,hr⟩:=bq hr
 refine ae (aL (tau []) (.s (aV (((lM AValue.cs x9))))) [] (qP _ _ hx9) zz ⟨.inl zz,tv⟩ tv tu tv) (aa (.c (.loc 0 3)) (aq (al (cs':=[cS x8.Event,cS x8.Instance,cS x8.Handler,dV ((lM AValue.cs x9))]) zz zz zz zz zz zz zz zz zz) (ab (ac (aa (.c (.tl 1012 (lM Action.cs s5.1))) (aa (.agg [cS x8.Event,cS x8.Instance,cS x8.Handler,dV ((lM AValue.cs x9))]) (ak 0 (cp (sz:=4) (enc:=Action.cs) (j:=1) ([(Action.mk x8.Event x8.Instance x8.Handler x9)]) zz zz zz zz zz zz zz zz (fun _=>zz) tv zz zz) ?_)))))))
 obtain ⟨x10,hx10,hr⟩:=bq hr
 refine bW 0 (dQ (enc:=Action.cs) (L:=s5.1) (X:=[(Action.mk x8.Event x8.Instance x8.Handler x9)]) (j:=1012) (j':=2) hx10 zz zz zz zz zz zz (fun _=>zz) (fun _=>zz) (by decide) tv zz zz) (aa (.c (.tl 2 (lM Action.cs x10))) (ab (ac (aa (aI (wq (s5.2+1))) (aa (aI (wq (s5.2+1))) (ab ?_))))))
 exact ⟨(x10,wq (s5.2+1)),hr,(Conv.mk (tau [(1012,2)]) ⟨cl zz,cl zz,cl zz,cl zz,cl zz,tv⟩ ⟨zz,zz,tv⟩ zz zz zz zz)⟩
 have hr:=selF h7 hr
 refine aE ?_
 exact ⟨s5.1,hr,(Conv.mk (tau [(1009,1012)]) ⟨cl zz,cl zz,tv⟩ ⟨zz,zz,tv⟩ zz zz zz zz)⟩
 clear hk2
 refine af (ac (aa (aV (((lM Attr.cs attrs)))) (ae (aK (enc:=Attr.cs) attrs zz zz tv zz) (aa (aI 0) (ab (am (az (fun (s11:(List Attr)×Int)=>⟨[(1,.s (aV (((lM Action.cs acts))))),(6,.s (.c (.tl 1017 (lM Attr.cs s11.1)))),(12,.s (aV (((lM Attr.cs attrs))))),(13,.s (aI (attrs.length:Int))),(14,.s (aI s11.2))],[(1017,.tail 5)],0⟩) hr (Conv.trans (Conv.nil 6 1019 5 0 zz zz) (Conv.mk (tau [(1017,1019)]) ⟨cl zz,cl zz,cl zz,cl zz,cl zz,tv⟩ ⟨zz,tv⟩ zz zz zz zz)) ?_)))))))
 clear hr
 intro again12 s11 hr
 unfold gZ at hr
 refine af (ac (aa (aB (decide (s11.2<(attrs.length:Int)))) (ab (af ?_))))
 refine ah (b:=decide (s11.2<(attrs.length:Int))) zz (fun h13=>?_) (fun h13=>?_)
 have hr:=selT h13 hr
 refine aj (af (am (af (ac ?_))))
 obtain ⟨x14,hx14,hr⟩:=bq hr
 refine ae (aM (enc:=Attr.cs) (L:=attrs) (row:=[dS x14.Name,dI x14.Value.Kind,dI x14.Value.N,dS x14.Value.S,.sl (lM AValue.cs x14.Value.L)]) hx14 zz zz zz zz (fun _=>zz) tv zz) (aa (.agg [cS x14.Name,cI x14.Value.Kind,cI x14.Value.N,cS x14.Value.S,dV ((lM AValue.cs x14.Value.L))]) (ak 0 (aw (j:=3) (cs:=[cS ByteArray.empty,cI 0,cI 0,cS ByteArray.empty,.d (.v (.slice none 0 0))]) zz zz zz zz) (aq (al (cs':=[cS x14.Name,cI x14.Value.Kind,cI x14.Value.N,cS x14.Value.S,dV ((lM AValue.cs x14.Value.L))]) zz zz zz zz zz zz zz zz zz) (ab (aF (by kernel_rfl) (ar (.c (.tl 1017 (lM Attr.cs s11.1))) zz tv zz (ar (.c (.loc 3 0)) zz tv zz (ar (aS x14.Name) zz tv zz (ar (.c (.loc 3 1)) zz tv zz (ar (.agg [cI x14.Value.Kind,cI x14.Value.N,cS x14.Value.S,dV ((lM AValue.cs x14.Value.L))]) zz tv zz ?_))))))))))
 obtain ⟨x15,hx15,hr⟩:=bq hr
 refine av (aL (tau []) (.s (.agg [cI x15.Kind,cI x15.N,cS x15.S,dV ((lM AValue.cs x15.L))])) [] (nK _ _ hx15) zz ⟨.inl zz,tv⟩ tv pq tv) (ar (.agg [cS x14.Name,cI x15.Kind,cI x15.N,cS x15.S,dV ((lM AValue.cs x15.L))]) zz tv zz (gY 0 (cp (sz:=5) (enc:=Attr.cs) (j:=4) ([(Attr.mk x14.Name x15)]) zz zz zz zz zz zz zz zz (fun _=>zz) tv zz zz) ?_))
 obtain ⟨x16,hx16,hr⟩:=bq hr
 refine OkD.m2 0 (dQ (enc:=Attr.cs) (L:=s11.1) (X:=[(Attr.mk x14.Name x15)]) (j:=1017) (j':=5) hx16 zz zz zz zz zz zz (fun _=>zz) (fun _=>zz) (by decide) tv zz zz) (ar (.c (.tl 5 (lM Attr.cs x16))) zz tv zz (aY (by kernel_rfl) (ac (aa (aI (wq (s11.2+1))) (aa (aI (wq (s11.2+1))) (ab ?_))))))
 exact ⟨(x16,wq (s11.2+1)),hr,(Conv.mk (tau [(1017,5)]) ⟨cl zz,cl zz,cl zz,cl zz,cl zz,tv⟩ ⟨zz,tv⟩ zz zz zz zz)⟩
 have hr:=selF h13 hr
 refine aE ?_
 exact ⟨s11.1,hr,(Conv.mk (tau [(1004,1017)]) ⟨cl zz,cl zz,tv⟩ ⟨zz,tv⟩ zz zz zz zz)⟩
theorem mE (self0:(List (Int×Node))→Int→Option (List Int)) (hself0:∀ (nodes:(List (Int×Node))) (id:Int) {r:(List Int)},self0 nodes id=some r→Con Tryz.prog 125 [.c (.d (.mp true (encM (kInt .i64) Node.cs nodes))),aI id] [] (.s (aV (((lI r))))) []) (nodes:(List (Int×Node))) (id:Int) {r:(List Int)} (hr:eN self0 nodes id=some r):Con Tryz.prog 125 [.c (.d (.mp true (encM (kInt .i64) Node.cs nodes))),aI id] [] (.s (aV (((lI r))))) []:=by
 unfold eN at hr
 refine ap 26 0 [.tmp 4] [(0,.s (.c (.d (.mp true (encM (kInt .i64) Node.cs nodes))))),(1,.s (aI id))] Tryz.func125 zz zz zz zz zz zz zz zz fun w g M ρ _=>(af (ac (aa (.c (.d (.v (.slice none 0 0)))) (ab (af (ac (aa (aI id) (ak 0 (cp (sz:=1) (enc:=eI) (j:=0) ([id]) zz zz zz zz zz zz zz zz (fun _=>zz) tv zz zz) (aa (.c (.tl 0 (lI ([id])))) (ab ?_))))))))))
 obtain ⟨k2,hk2,hr⟩:=ax hr
 refine ay (fun (s1:(List Int))=>⟨[(5,.s (.c (.tl 1003 (lI s1))))],[(1003,.tail 1)],0⟩) k2 r (fun s1 hr=>?_) ?_
 rw [hk2] at hr
 refine af (ac (aa (.c (.tl 1003 (lI s1))) (aa (.c (.tl 1003 (lI s1))) (ab (ao ?_)))))
 obtain rfl:=sq hr
 exact ⟨_,zz,.inr zz,tv⟩
 clear hk2
 refine af (ac (aa (.c (.d (.mp true (encM (kInt .i64) Node.cs nodes)))) (aa (aI id) ?_)))
 obtain ⟨x3,hx3,hr⟩:=bq hr
 refine ae (gv (agg:=true) (ek:=(kInt .i64)) (ev:=Node.cs) (L:=nodes) (r:=.agg [cI x3.1.ID,cI x3.1.Parent,cI x3.1.Kind,cS x3.1.Key,dV ((lM Attr.cs x3.1.Attrs)),dV ((lM Action.cs x3.1.Actions)),dV ((lI x3.1.Kids))]) hx3 zz zz zz (keyInt Tryz.underlying3) zz zz (fun h=>by cases h) zz tv zz) ?_
 refine aa (aV (((lI x3.1.Kids)))) (ae (aK (enc:=eI) x3.1.Kids zz zz tv zz) (aa (aI 0) (ab (am (az (fun (s4:(List Int)×Int)=>⟨[(0,.s (.c (.d (.mp true (encM (kInt .i64) Node.cs nodes))))),(5,.s (.c (.tl 1005 (lI s4.1)))),(13,.s (aV (((lI x3.1.Kids))))),(14,.s (aI (x3.1.Kids.length:Int))),(15,.s (aI s4.2))],[(1005,.tail 1)],0⟩) hr (Conv.mk (tau [(1005,0)]) ⟨cl zz,cl zz,cl zz,cl zz,cl zz,tv⟩ ⟨zz,tv⟩ zz zz zz zz) ?_)))))
 clear hr
 intro again5 s4 hr
 unfold fw at hr
 refine af (ac (aa (aB (decide (s4.2<(x3.1.Kids.length:Int)))) (ab (af ?_))))
 refine ah (b:=decide (s4.2<(x3.1.Kids.length:Int))) zz (fun h6=>?_) (fun h6=>?_)
 have hr:=selT h6 hr
 refine aj (af (am (af (ac ?_))))
 obtain ⟨x7,hx7,hr⟩:=bq hr
 refine ae (aM (enc:=eI) (L:=x3.1.Kids) (row:=[dI x7]) hx7 zz zz zz zz (fun _=>zz) tv zz) (aa (aI x7) (aa (aI x7) (ab (ac (aa (.c (.tl 1005 (lI s4.1))) (aa (.c (.d (.mp true (encM (kInt .i64) Node.cs nodes)))) (aa (aI x7) ?_)))))))
 obtain ⟨x8,hx8,hr⟩:=bq hr
 refine ae (aL (tau []) (.s (aV (((lI x8))))) [] (hself0 _ _ hx8) zz ⟨.inl zz,.inl zz,tv⟩ tv pp tv) ?_
 obtain ⟨x9,hx9,hr⟩:=bq hr
 refine bW 0 (dQ (enc:=eI) (L:=s4.1) (X:=x8) (j:=1005) (j':=1) hx9 zz zz zz zz zz zz (fun _=>zz) (fun _=>zz) (by decide) tv zz zz) (aa (.c (.tl 1 (lI x9))) (ab (ac (aa (aI (wq (s4.2+1))) (aa (aI (wq (s4.2+1))) (ab ?_))))))
 exact ⟨(x9,wq (s4.2+1)),hr,(Conv.mk (tau [(1005,1)]) ⟨cl zz,cl zz,cl zz,cl zz,cl zz,tv⟩ ⟨zz,tv⟩ zz zz zz zz)⟩
 have hr:=selF h6 hr
 refine aE ?_
 exact ⟨s4.1,hr,(Conv.mk (tau [(1003,1005)]) ⟨cl zz,tv⟩ ⟨zz,tv⟩ zz zz zz zz)⟩
theorem mD:∀ n:Nat,(∀ (nodes:(List (Int×Node))) (id:Int) {r:(List Int)},ef n nodes id=some r→Con Tryz.prog 125 [.c (.d (.mp true (encM (kInt .i64) Node.cs nodes))),aI id] [] (.s (aV (((lI r))))) [])∧True:=by
 intro n
 induction n with
 | zero=>exact ⟨(by intros;rename_i hr;cases hr),tv⟩
 | succ n ih=>exact ⟨(by intros;rename_i hr;exact mE _ ih.1 _ _ hr),tv⟩
theorem kH (n:Nat) (nodes:(List (Int×Node))) (id:Int) {r:(List Int)} (hr:ef n nodes id=some r):Con Tryz.prog 125 [.c (.d (.mp true (encM (kInt .i64) Node.cs nodes))),aI id] [] (.s (aV (((lI r))))) []:=(mD n).1 nodes id hr
theorem tQ (t:Tree) {r:(List (Int×Node))×Bool} (hr:kI t=some r):Con Tryz.prog 159 [.agg (tC t)] [] (.tup [.c (.d (.mp true (encM (kInt .i64) Node.cs r.1))),aB r.2]) []:=by
 unfold kI at hr
 refine ap 139 0 [.tmp 2,.tmp 3] [(0,.s (.agg (tC t)))] Tryz.func159 zz zz zz zz zz zz zz zz fun w g M ρ _=>(af (ac (ak 0 (aP (j:=0) (cs:=(tC t)) zz zz zz zz zz) (aa (.c (.d (.v (.map none)))) (aa (aB false) (ab (af (af (ac (aa (.c (.loc 0 1)) (aa (aI t.Next) (aa (aB (decide (t.Next<2))) (aa (aB (decide (t.Next<2))) (ae (ai (x:=.c (.loc 0 1)) zz zz tv zz) (ae (ai (x:=aI t.Next) zz zz ⟨fun h=>h,tv⟩ zz) ?_)))))))))))))))
 refine ae (ai (x:=aB (decide (t.Next>1099511627776))) zz zz ⟨fun h=>h,tv⟩ zz) ?_
 refine ae (bj zz zz (fun h=>by rw [h];rfl) zz) ?_
 refine aa (aB ((decide (t.Next<2))||(decide (t.Next>1099511627776)))) (ae (ai (x:=.c (.loc 0 2)) zz zz tv zz) (ae (ai (x:=aV (((lM Node.cs t.Nodes)))) zz zz ⟨fun h=>h,tv⟩ zz) (ae (cy (enc:=Node.cs) t.Nodes zz zz zz ⟨fun h=>h,tv⟩ zz) (ae (ai (x:=aB (decide ((t.Nodes.length:Int)<1))) zz zz ⟨fun h=>h,tv⟩ zz) ?_))))
 refine ae (bj zz zz (fun h=>by rw [h];rfl) zz) ?_
 refine aa (aB (((decide (t.Next<2))||(decide (t.Next>1099511627776)))||(decide ((t.Nodes.length:Int)<1)))) (ae (ai (x:=.c (.loc 0 2)) zz zz tv zz) (ae (ai (x:=aV (((lM Node.cs t.Nodes)))) zz zz ⟨fun h=>h,tv⟩ zz) (ae (cy (enc:=Node.cs) t.Nodes zz zz zz ⟨fun h=>h,tv⟩ zz) (ae (ai (x:=aB (decide ((t.Nodes.length:Int)>400))) zz zz ⟨fun h=>h,tv⟩ zz) ?_))))
 refine ae (bj zz zz (fun h=>by rw [h];rfl) zz) ?_
 refine ab ?_
 refine ah (b:=(((decide (t.Next<2))||(decide (t.Next>1099511627776)))||(decide ((t.Nodes.length:Int)<1)))||(decide ((t.Nodes.length:Int)>400))) zz (fun h1=>?_) (fun h1=>?_)
 have hr:=selT h1 hr
 refine af (ac (aa (.c (.d (.v (.map none)))) (aa (aB false) (ab (Ok.conv (iP 2 true zz) (ao ?_))))))
 obtain rfl:=sq hr
 exact ⟨_,zz,.inl zz,tv⟩
 have hr:=selF h1 hr
 refine aj (af (ac (ak 0 (g9 (j:=1) true zz zz) (aa (.c (.own 1)) (ab (af (ac (aa (aI 0) (ab ?_)))))))))
 obtain ⟨k3,hk3,hr⟩:=ax hr
 refine ay (fun (s2:(List (Int×Node)))=>⟨[(1,.s (.c (.loc 0 0))),(4,.s (.c (.own 1)))],[(0,.blk (tC t) 30),(1,.mp true (encM (kInt .i64) Node.cs s2))],0⟩) k3 r (fun s2 hr=>?_) ?_
 rw [hk3] at hr
 refine af (af (ac (aa (.c (.own 1)) (aa (.c (.loc 0 0)) (aa (aI t.Root) ?_)))))
 obtain ⟨x4,hx4,hr⟩:=bq hr
 refine ae (r9 (agg:=true) (ek:=(kInt .i64)) (ev:=Node.cs) (L:=s2) (r:=.agg [cI x4.1.ID,cI x4.1.Parent,cI x4.1.Kind,cS x4.1.Key,dV ((lM Attr.cs x4.1.Attrs)),dV ((lM Action.cs x4.1.Actions)),dV ((lI x4.1.Kids))]) hx4 zz zz zz (keyInt Tryz.underlying3) zz zz (fun h=>by cases h) zz tv zz) ?_
 refine ae (dk (v:=.tup [.agg [cI x4.1.ID,cI x4.1.Parent,cI x4.1.Kind,cS x4.1.Key,dV ((lM Attr.cs x4.1.Attrs)),dV ((lM Action.cs x4.1.Actions)),dV ((lI x4.1.Kids))],aB x4.2]) zz zz) (aa (.agg [cI x4.1.ID,cI x4.1.Parent,cI x4.1.Kind,cS x4.1.Key,dV ((lM Attr.cs x4.1.Attrs)),dV ((lM Action.cs x4.1.Actions)),dV ((lI x4.1.Kids))]) (aa (aB x4.2) (ak 0 (aw (j:=2) (cs:=[cI 0,cI 0,cI 0,cS ByteArray.empty,.d (.v (.slice none 0 0)),.d (.v (.slice none 0 0)),.d (.v (.slice none 0 0))]) zz zz zz zz) (aq (al (cs':=[cI x4.1.ID,cI x4.1.Parent,cI x4.1.Kind,cS x4.1.Key,dV ((lM Attr.cs x4.1.Attrs)),dV ((lM Action.cs x4.1.Actions)),dV ((lI x4.1.Kids))]) zz zz zz zz zz zz zz zz zz) (aa (aB x4.2) (ab (af (ac (aa (aB x4.2) (aa (aB (!x4.2)) (ab ?_)))))))))))
 refine ah (b:=!x4.2) zz (fun h5=>?_) (fun h5=>?_)
 have hr:=selT h5 hr
 refine af (ac (aa (.c (.d (.v (.map none)))) (aa (aB false) (ab (Ok.conv (iP 2 true zz) (ao ?_))))))
 obtain rfl:=sq hr
 exact ⟨_,zz,.inl zz,tv⟩
 have hr:=selF h5 hr
 refine aj (af (ac (ak 0 (g9 (j:=3) false zz zz) (aa (.c (.loc 0 0)) (aa (aI t.Root) (aq (uy (ek:=(kInt .i64)) (ev:=eBool) (L:=([]:(List (Int×Bool)))) (z:=true) zz zz zz zz zz zz (keyInt Tryz.underlying3) (fun _ _=>zz) zz tv) (aa (.c (.own 3)) (aa (.c (.own 3)) (ab ?_)))))))))
 obtain ⟨k7,hk7,hr⟩:=ax hr
 refine ay (fun (s6:(List (Int×Bool)))=>⟨[(1,.s (.c (.loc 0 0))),(4,.s (.c (.own 1))),(10,.s (.c (.own 3)))],[(0,.blk (tC t) 30),(1,.mp true (encM (kInt .i64) Node.cs s2)),(3,.mp false (encM (kInt .i64) eBool s6))],0⟩) k7 r (fun s6 hr=>?_) ?_
 rw [hk7] at hr
 refine af (af (ac (aa (.c (.own 3)) (ae (qS (ek:=(kInt .i64)) (ev:=eBool) s6 zz zz tv zz) (aa (.c (.own 1)) (ae (qS (ek:=(kInt .i64)) (ev:=Node.cs) s2 zz zz tv zz) (aa (aB ((s6.length:Int) != (s2.length:Int))) (ab ?_))))))))
 refine ah (b:=(s6.length:Int) != (s2.length:Int)) zz (fun h8=>?_) (fun h8=>?_)
 have hr:=selT h8 hr
 refine af (ac (aa (.c (.d (.v (.map none)))) (aa (aB false) (ab (Ok.conv (iP 2 true zz) (ao ?_))))))
 obtain rfl:=sq hr
 exact ⟨_,zz,.inl zz,tv⟩
 have hr:=selF h8 hr
 refine aj (af (ac (aa (.c (.own 1)) (aa (.c (.own 1)) (aa (.c (.loc 0 0)) (aa (aI t.Root) (OkOps.conv (bH [(4,.s (.c (.d (.mp true (encM (kInt .i64) Node.cs s2))))),(127,.s (.c (.d (.mp true (encM (kInt .i64) Node.cs s2))))),(130,.s (.c (.d (.mp true (encM (kInt .i64) Node.cs s2))))),(131,.s (.c (.d (.mp true (encM (kInt .i64) Node.cs s2)))))] [] 1 0 zz ⟨⟨_,zz,zz⟩,⟨_,zz,zz⟩,⟨_,zz,zz⟩,⟨_,zz,zz⟩,tv⟩ tv) ?_)))))))
 obtain ⟨x9,hx9,hr⟩:=bq hr
 refine ae (aL (tau []) (.s (aV (((lI x9))))) [] (kH _ _ _ hx9) zz ⟨.inl zz,.inl zz,tv⟩ tv pp tv) (ae (aK (enc:=eI) x9 zz zz tv zz) (aa (.c (.d (.mp true (encM (kInt .i64) Node.cs s2)))) (ae (qS (ek:=(kInt .i64)) (ev:=Node.cs) s2 zz zz tv zz) (aa (aB ((x9.length:Int)==(s2.length:Int))) (aa (.c (.d (.mp true (encM (kInt .i64) Node.cs s2)))) (aa (aB ((x9.length:Int)==(s2.length:Int))) (ab (ao ?_))))))))
 obtain rfl:=sq hr
 exact ⟨_,zz,.inl zz,tv⟩
 clear hk7
 refine af (ac (aa (.c (.loc 0 2)) (aa (aV (((lM Node.cs t.Nodes)))) (ae (aK (enc:=Node.cs) t.Nodes zz zz tv zz) (aa (aI 0) (ab (am (az (fun (s10:Int×(List (Int×Bool)))=>⟨[(1,.s (.c (.loc 0 0))),(4,.s (.c (.own 1))),(10,.s (.c (.own 3))),(88,.s (aV (((lM Node.cs t.Nodes))))),(89,.s (aI (t.Nodes.length:Int))),(90,.s (aI s10.1))],[(0,.blk (tC t) 30),(1,.mp true (encM (kInt .i64) Node.cs s2)),(3,.mp false (encM (kInt .i64) eBool s10.2))],0⟩) hr (Conv.mk (tau []) ⟨cl zz,cl zz,cl zz,cl zz,cl zz,cl zz,tv⟩ ⟨zz,zz,zz,tv⟩ zz zz zz zz) ?_))))))))
 clear hr
 intro again11 s10 hr
 unfold gq at hr
 refine af (ac (aa (aB (decide (s10.1<(t.Nodes.length:Int)))) (ab (af ?_))))
 refine ah (b:=decide (s10.1<(t.Nodes.length:Int))) zz (fun h12=>?_) (fun h12=>?_)
 have hr:=selT h12 hr
 refine aj ?_
 obtain ⟨k14,hk14,hr⟩:=ax hr
 refine ay (fun (s13:(List (Int×Bool)))=>⟨[(1,.s (.c (.loc 0 0))),(4,.s (.c (.own 1))),(10,.s (.c (.own 3))),(88,.s (aV (((lM Node.cs t.Nodes))))),(89,.s (aI (t.Nodes.length:Int))),(90,.s (aI s10.1))],[(0,.blk (tC t) 30),(1,.mp true (encM (kInt .i64) Node.cs s2)),(3,.mp false (encM (kInt .i64) eBool s13))],0⟩) k14 r (fun s13 hr=>?_) ?_
 rw [hk14] at hr
 refine ac (aa (aI (wq (s10.1+1))) (aa (aI (wq (s10.1+1))) (ab ?_)))
 exact ⟨(wq (s10.1+1),s13),hr,(Conv.mk (tau []) ⟨cl zz,cl zz,cl zz,cl zz,cl zz,cl zz,tv⟩ ⟨zz,zz,zz,tv⟩ zz zz zz zz)⟩
 clear hk14
 refine am (af (ac ?_))
 obtain ⟨x15,hx15,hr⟩:=bq hr
 refine ae (aM (enc:=Node.cs) (L:=t.Nodes) (row:=[dI x15.ID,dI x15.Parent,dI x15.Kind,dS x15.Key,.sl (lM Attr.cs x15.Attrs),.sl (lM Action.cs x15.Actions),.sl (lI x15.Kids)]) hx15 zz zz zz zz (fun _=>zz) tv zz) (aa (.agg [cI x15.ID,cI x15.Parent,cI x15.Kind,cS x15.Key,dV ((lM Attr.cs x15.Attrs)),dV ((lM Action.cs x15.Actions)),dV ((lI x15.Kids))]) (ak 0 (aw (j:=4) (cs:=[cI 0,cI 0,cI 0,cS ByteArray.empty,.d (.v (.slice none 0 0)),.d (.v (.slice none 0 0)),.d (.v (.slice none 0 0))]) zz zz zz zz) (aq (al (cs':=[cI x15.ID,cI x15.Parent,cI x15.Kind,cS x15.Key,dV ((lM Attr.cs x15.Attrs)),dV ((lM Action.cs x15.Actions)),dV ((lI x15.Kids))]) zz zz zz zz zz zz zz zz zz) (ab (af (ac (aa (.c (.loc 4 6)) (aa (aV (((lI x15.Kids)))) (ae (aK (enc:=eI) x15.Kids zz zz tv zz) (aa (aI 0) (ab ?_)))))))))))
 obtain ⟨k17,hk17,hr⟩:=ax hr
 refine bZ (fun (s16:(List (Int×Bool)))=>⟨[(1,.s (.c (.loc 0 0))),(4,.s (.c (.own 1))),(10,.s (.c (.own 3))),(88,.s (aV (((lM Node.cs t.Nodes))))),(89,.s (aI (t.Nodes.length:Int))),(90,.s (aI s10.1))],[(0,.blk (tC t) 30),(1,.mp true (encM (kInt .i64) Node.cs s2)),(3,.mp false (encM (kInt .i64) eBool s16))],0⟩) k17 r (fun s16 hr=>?_) ?_
 rw [hk17] at hr
 exact ⟨s16,hr,(Conv.mk (tau []) ⟨cl zz,cl zz,cl zz,cl zz,cl zz,cl zz,tv⟩ ⟨zz,zz,zz,tv⟩ zz zz zz zz)⟩
 clear hk17
 refine am (az (fun (s18:Int×(List (Int×Bool)))=>⟨[(1,.s (.c (.loc 0 0))),(4,.s (.c (.own 1))),(10,.s (.c (.own 3))),(12,.s (.c (.loc 4 0))),(88,.s (aV (((lM Node.cs t.Nodes))))),(89,.s (aI (t.Nodes.length:Int))),(90,.s (aI s10.1)),(95,.s (aV (((lI x15.Kids))))),(96,.s (aI (x15.Kids.length:Int))),(97,.s (aI s18.1))],[(0,.blk (tC t) 30),(1,.mp true (encM (kInt .i64) Node.cs s2)),(3,.mp false (encM (kInt .i64) eBool s18.2)),(4,.blk [cI x15.ID,cI x15.Parent,cI x15.Kind,cS x15.Key,dV ((lM Attr.cs x15.Attrs)),dV ((lM Action.cs x15.Actions)),dV ((lI x15.Kids))] 61)],0⟩) hr (Conv.mk (tau []) ⟨cl zz,cl zz,cl zz,cl zz,cl zz,cl zz,cl zz,cl zz,cl zz,cl zz,tv⟩ ⟨zz,zz,zz,zz,tv⟩ zz zz zz zz) ?_)
 clear hr
 intro again19 s18 hr
 unfold ff at hr
 refine af (ac (aa (aB (decide (s18.1<(x15.Kids.length:Int)))) (ab (af ?_))))
 refine ah (b:=decide (s18.1<(x15.Kids.length:Int))) zz (fun h20=>?_) (fun h20=>?_)
 have hr:=selT h20 hr
 refine aj (af (am (af (ac ?_))))
 obtain ⟨x21,hx21,hr⟩:=bq hr
 refine ae (aM (enc:=eI) (L:=x15.Kids) (row:=[dI x21]) hx21 zz zz zz zz (fun _=>zz) tv zz) (aa (aI x21) (aa (aI x21) (ab (af (af (ac (aa (.c (.own 1)) (aa (aI x21) ?_))))))))
 obtain ⟨x22,hx22,hr⟩:=bq hr
 refine ae (r9 (agg:=true) (ek:=(kInt .i64)) (ev:=Node.cs) (L:=s2) (r:=.agg [cI x22.1.ID,cI x22.1.Parent,cI x22.1.Kind,cS x22.1.Key,dV ((lM Attr.cs x22.1.Attrs)),dV ((lM Action.cs x22.1.Actions)),dV ((lI x22.1.Kids))]) hx22 zz zz zz (keyInt Tryz.underlying3) zz zz (fun h=>by cases h) zz tv zz) ?_
 refine ae (dk (v:=.tup [.agg [cI x22.1.ID,cI x22.1.Parent,cI x22.1.Kind,cS x22.1.Key,dV ((lM Attr.cs x22.1.Attrs)),dV ((lM Action.cs x22.1.Actions)),dV ((lI x22.1.Kids))],aB x22.2]) zz zz) (aa (.agg [cI x22.1.ID,cI x22.1.Parent,cI x22.1.Kind,cS x22.1.Key,dV ((lM Attr.cs x22.1.Attrs)),dV ((lM Action.cs x22.1.Actions)),dV ((lI x22.1.Kids))]) (aa (aB x22.2) (ak 0 (aw (j:=5) (cs:=[cI 0,cI 0,cI 0,cS ByteArray.empty,.d (.v (.slice none 0 0)),.d (.v (.slice none 0 0)),.d (.v (.slice none 0 0))]) zz zz zz zz) (aq (al (cs':=[cI x22.1.ID,cI x22.1.Parent,cI x22.1.Kind,cS x22.1.Key,dV ((lM Attr.cs x22.1.Attrs)),dV ((lM Action.cs x22.1.Actions)),dV ((lI x22.1.Kids))]) zz zz zz zz zz zz zz zz zz) (aa (aB x22.2) (ab (af (ac (aa (aB x22.2) (aa (aB (!x22.2)) (aa (aB (!x22.2)) (ae (ai (x:=.c (.loc 5 1)) zz zz tv zz) (ae (ai (x:=aI x22.1.Parent) zz zz ⟨fun h=>h,tv⟩ zz) (ae (ai (x:=.c (.loc 4 0)) zz zz tv zz) (ae (ai (x:=aI x15.ID) zz zz ⟨fun h=>h,tv⟩ zz) ?_)))))))))))))))
 refine ae (ai (x:=aB (x22.1.Parent != x15.ID)) zz zz ⟨fun h=>h,⟨fun h=>h,tv⟩⟩ zz) ?_
 refine ae (bj zz zz (fun h=>by rw [h];rfl) zz) ?_
 refine aa (aB ((!x22.2)||(x22.1.Parent != x15.ID))) (ae (ai (x:=.c (.own 3)) zz zz tv zz) (ae (ai (x:=aI x21) zz zz tv zz) ?_))
 obtain ⟨x23,hx23,hr⟩:=bq hr
 refine ae (kN (agg:=false) (ek:=(kInt .i64)) (ev:=eBool) (L:=s18.2) (r:=aB x23.1) (cQ hx23) zz zz zz zz (keyInt Tryz.underlying3) zz zz (fun _ _=>zz) zz ⟨fun h=>h,⟨fun h=>h,tv⟩⟩ zz) ?_
 refine ae (bj zz zz (fun h=>by rw [h];rfl) zz) ?_
 refine ab ?_
 refine ah (b:=((!x22.2)||(x22.1.Parent != x15.ID))||x23.1) zz (fun h24=>?_) (fun h24=>?_)
 have hr:=selT h24 hr
 refine af (ac (aa (.c (.d (.v (.map none)))) (aa (aB false) (ab (Ok.conv (iP 2 true zz) (ao ?_))))))
 obtain rfl:=sq hr
 exact ⟨_,zz,.inl zz,tv⟩
 have hr:=selF h24 hr
 refine aj (ac (aa (.c (.own 3)) (aa (aI x21) (aq (hC (ek:=(kInt .i64)) (ev:=eBool) (L:=s18.2) (z:=true) zz zz zz zz zz zz (keyInt Tryz.underlying3) (fun _ _=>zz) zz tv) (ab (ac (aa (aI (wq (s18.1+1))) (aa (aI (wq (s18.1+1))) (ab ?_)))))))))
 exact ⟨(wq (s18.1+1),msetL s18.2 x21 true),hr,(Conv.mk (tau []) ⟨cl zz,cl zz,cl zz,cl zz,cl zz,cl zz,cl zz,cl zz,cl zz,cl zz,tv⟩ ⟨zz,zz,zz,zz,tv⟩ zz zz zz zz)⟩
 have hr:=selF h20 hr
 refine aE ?_
 exact ⟨s18.2,hr,(Conv.mk (tau []) ⟨cl zz,cl zz,cl zz,cl zz,cl zz,cl zz,tv⟩ ⟨zz,zz,zz,tv⟩ zz zz zz zz)⟩
 have hr:=selF h12 hr
 refine aE ?_
 exact ⟨s10.2,hr,(Conv.mk (tau []) ⟨cl zz,cl zz,cl zz,tv⟩ ⟨zz,zz,zz,tv⟩ zz zz zz zz)⟩
 clear hk3
 refine af (ac (aa (.c (.loc 0 2)) (aa (aV (((lM Node.cs t.Nodes)))) (ae (aK (enc:=Node.cs) t.Nodes zz zz tv zz) (aa (aI 0) (ab (am (az (fun (s25:Int×Int×(List (Int×Node)))=>⟨[(1,.s (.c (.loc 0 0))),(4,.s (.c (.own 1))),(5,.s (aI s25.1)),(39,.s (aV (((lM Node.cs t.Nodes))))),(40,.s (aI (t.Nodes.length:Int))),(41,.s (aI s25.2.1))],[(0,.blk (tC t) 30),(1,.mp true (encM (kInt .i64) Node.cs s25.2.2))],0⟩) hr (Conv.mk (tau []) ⟨cl zz,cl zz,cl zz,cl zz,cl zz,cl zz,tv⟩ ⟨zz,zz,tv⟩ zz zz zz zz) ?_))))))))
 clear hr
 intro again26 s25 hr
 unfold gp at hr
 refine af (ac (aa (aB (decide (s25.2.1<(t.Nodes.length:Int)))) (ab (af ?_))))
 refine ah (b:=decide (s25.2.1<(t.Nodes.length:Int))) zz (fun h27=>?_) (fun h27=>?_)
 have hr:=selT h27 hr
 refine aj (af (am (af (ac ?_))))
 obtain ⟨x28,hx28,hr⟩:=bq hr
 refine ae (aM (enc:=Node.cs) (L:=t.Nodes) (row:=[dI x28.ID,dI x28.Parent,dI x28.Kind,dS x28.Key,.sl (lM Attr.cs x28.Attrs),.sl (lM Action.cs x28.Actions),.sl (lI x28.Kids)]) hx28 zz zz zz zz (fun _=>zz) tv zz) (aa (.agg [cI x28.ID,cI x28.Parent,cI x28.Kind,cS x28.Key,dV ((lM Attr.cs x28.Attrs)),dV ((lM Action.cs x28.Actions)),dV ((lI x28.Kids))]) (ak 0 (aw (j:=6) (cs:=[cI 0,cI 0,cI 0,cS ByteArray.empty,.d (.v (.slice none 0 0)),.d (.v (.slice none 0 0)),.d (.v (.slice none 0 0))]) zz zz zz zz) (aq (al (cs':=[cI x28.ID,cI x28.Parent,cI x28.Kind,cS x28.Key,dV ((lM Attr.cs x28.Attrs)),dV ((lM Action.cs x28.Actions)),dV ((lI x28.Kids))]) zz zz zz zz zz zz zz zz zz) (ab (af (af (ac (aa (.c (.loc 6 0)) (aa (aI x28.ID) (aa (aI s25.1) (aa (aB (decide (x28.ID≤s25.1))) (aa (aB (decide (x28.ID≤s25.1))) (ae (ai (x:=.c (.loc 6 0)) zz zz tv zz) (ae (ai (x:=aI x28.ID) zz zz ⟨fun h=>h,tv⟩ zz) (ae (ai (x:=.c (.loc 0 1)) zz zz tv zz) ?_)))))))))))))))
 refine ae (ai (x:=aI t.Next) zz zz ⟨fun h=>h,tv⟩ zz) (ae (ai (x:=aB (decide (x28.ID≥t.Next))) zz zz ⟨fun h=>h,⟨fun h=>h,tv⟩⟩ zz) ?_)
 refine ae (bj zz zz (fun h=>by rw [h];rfl) zz) ?_
 refine aa (aB ((decide (x28.ID≤s25.1))||(decide (x28.ID≥t.Next)))) (ae (ai (x:=.c (.loc 6 1)) zz zz tv zz) (ae (ai (x:=aI x28.Parent) zz zz ⟨fun h=>h,tv⟩ zz) (ae (ai (x:=aB (x28.Parent==0)) zz zz ⟨fun h=>h,tv⟩ zz) (ae (ai (x:=.c (.loc 6 0)) zz zz tv zz) (ae (ai (x:=aI x28.ID) zz zz ⟨fun h=>h,tv⟩ zz) (ae (ai (x:=.c (.loc 0 0)) zz zz tv zz) (ae (ai (x:=aI t.Root) zz zz ⟨fun h=>h,tv⟩ zz) (ae (ai (x:=aB (x28.ID==t.Root)) zz zz ⟨fun h=>h,⟨fun h=>h,tv⟩⟩ zz) (ae (ai (x:=aB ((x28.Parent==0) != (x28.ID==t.Root))) zz zz ⟨fun h=>h,⟨fun h=>h,tv⟩⟩ zz) ?_)))))))))
 refine ae (bj zz zz (fun h=>by rw [h];rfl) zz) ?_
 refine ab ?_
 refine ah (b:=((decide (x28.ID≤s25.1))||(decide (x28.ID≥t.Next)))||((x28.Parent==0) != (x28.ID==t.Root))) zz (fun h29=>?_) (fun h29=>?_)
 have hr:=selT h29 hr
 refine af (ac (aa (.c (.d (.v (.map none)))) (aa (aB false) (ab (Ok.conv (iP 2 true zz) (ao ?_))))))
 obtain rfl:=sq hr
 exact ⟨_,zz,.inl zz,tv⟩
 have hr:=selF h29 hr
 refine aj (af (ac (aa (.c (.loc 6 0)) (aa (aI x28.ID) (aa (aI x28.ID) (ab (ac (aa (.c (.own 1)) (aa (.c (.loc 6 0)) (aa (aI x28.ID) (aa (.agg [cI x28.ID,cI x28.Parent,cI x28.Kind,cS x28.Key,dV ((lM Attr.cs x28.Attrs)),dV ((lM Action.cs x28.Actions)),dV ((lI x28.Kids))]) ?_)))))))))))
 refine aq (hC (ek:=(kInt .i64)) (ev:=Node.cs) (L:=s25.2.2) (z:=x28) zz zz zz zz zz zz (keyInt Tryz.underlying3) (fun h=>by cases h) zz tv) ?_
 refine ab (ac (aa (aI (wq (s25.2.1+1))) (aa (aI (wq (s25.2.1+1))) (ab ?_))))
 exact ⟨(x28.ID,wq (s25.2.1+1),msetL s25.2.2 x28.ID x28),hr,(Conv.mk (tau []) ⟨cl zz,cl zz,cl zz,cl zz,cl zz,cl zz,tv⟩ ⟨zz,zz,tv⟩ zz zz zz zz)⟩
 have hr:=selF h27 hr
 refine aE ?_
 exact ⟨s25.2.2,hr,(Conv.mk (tau []) ⟨cl zz,cl zz,tv⟩ ⟨zz,zz,tv⟩ zz zz zz zz)⟩
theorem mg (self0:(List (Int×Node))→Int→Option View) (hself0:∀ (nodes:(List (Int×Node))) (id:Int) {r:View},self0 nodes id=some r→Con Tryz.prog 160 [.c (.d (.mp true (encM (kInt .i64) Node.cs nodes))),aI id] [] (.s (.agg [cI r.Kind,cS r.Key,dV ((lM Attr.cs r.Attrs)),dV ((lM Action.cs r.Actions)),dV ((lM View.cs r.Kids))])) []) (nodes:(List (Int×Node))) (id:Int) {r:View} (hr:dU self0 nodes id=some r):Con Tryz.prog 160 [.c (.d (.mp true (encM (kInt .i64) Node.cs nodes))),aI id] [] (.s (.agg [cI r.Kind,cS r.Key,dV ((lM Attr.cs r.Attrs)),dV ((lM Action.cs r.Actions)),dV ((lM View.cs r.Kids))])) []:=by
 unfold dU at hr
 refine ap 38 0 [.cell 4 27] [(0,.s (.c (.d (.mp true (encM (kInt .i64) Node.cs nodes))))),(1,.s (aI id))] Tryz.func160 zz zz zz zz zz zz zz zz fun w g M ρ _=>(af (ac (ak 0 (aw (j:=0) (cs:=[cI 0,cS ByteArray.empty,.d (.v (.slice none 0 0)),.d (.v (.slice none 0 0)),.d (.v (.slice none 0 0))]) zz zz zz zz) (ab (af (ac (aa (.c (.d (.mp true (encM (kInt .i64) Node.cs nodes)))) (aa (aI id) ?_))))))))
 obtain ⟨x1,hx1,hr⟩:=bq hr
 refine ae (gv (agg:=true) (ek:=(kInt .i64)) (ev:=Node.cs) (L:=nodes) (r:=.agg [cI x1.1.ID,cI x1.1.Parent,cI x1.1.Kind,cS x1.1.Key,dV ((lM Attr.cs x1.1.Attrs)),dV ((lM Action.cs x1.1.Actions)),dV ((lI x1.1.Kids))]) hx1 zz zz zz (keyInt Tryz.underlying3) zz zz (fun h=>by cases h) zz tv zz) ?_
 refine ak 0 (aw (j:=1) (cs:=[cI 0,cI 0,cI 0,cS ByteArray.empty,.d (.v (.slice none 0 0)),.d (.v (.slice none 0 0)),.d (.v (.slice none 0 0))]) zz zz zz zz) (aq (al (cs':=[cI x1.1.ID,cI x1.1.Parent,cI x1.1.Kind,cS x1.1.Key,dV ((lM Attr.cs x1.1.Attrs)),dV ((lM Action.cs x1.1.Actions)),dV ((lI x1.1.Kids))]) zz zz zz zz zz zz zz zz zz) (ab (af (ac (aa (.c (.loc 1 2)) (aa (aI x1.1.Kind) (aa (.c (.loc 1 3)) (aa (aS x1.1.Key) (aa (.c (.loc 1 4)) (aa (aV (((lM Attr.cs x1.1.Attrs)))) (aa (.c (.loc 1 5)) (aa (aV (((lM Action.cs x1.1.Actions)))) (aa (.agg [cI x1.1.Kind,cS x1.1.Key,dV ((lM Attr.cs x1.1.Attrs)),dV ((lM Action.cs x1.1.Actions)),.d (.v (.slice none 0 0))]) (ak 0 (aw (j:=2) (cs:=[cI 0,cS ByteArray.empty,.d (.v (.slice none 0 0)),.d (.v (.slice none 0 0)),.d (.v (.slice none 0 0))]) zz zz zz zz) (aq (al (cs':=[cI x1.1.Kind,cS x1.1.Key,dV ((lM Attr.cs x1.1.Attrs)),dV ((lM Action.cs x1.1.Actions)),.d (.v (.slice none 0 0))]) zz zz zz zz zz zz zz zz zz) ?_)))))))))))))))
 refine ab ?_
 obtain ⟨k3,hk3,hr⟩:=ax hr
 refine ay (fun (s2:(List View))=>⟨[(4,.s (.c (.loc 0 0))),(6,.s (.c (.loc 2 0)))],[(0,.blk [cI 0,cS ByteArray.empty,.d (.v (.slice none 0 0)),.d (.v (.slice none 0 0)),.d (.v (.slice none 0 0))] 27),(2,.blk [cI x1.1.Kind,cS x1.1.Key,dV ((lM Attr.cs x1.1.Attrs)),dV ((lM Action.cs x1.1.Actions)),.tl 1004 (lM View.cs s2)] 27),(1004,.tail 5)],0⟩) k3 r (fun s2 hr=>?_) ?_
 rw [hk3] at hr
 refine af (ac (aa (.agg [cI x1.1.Kind,cS x1.1.Key,dV ((lM Attr.cs x1.1.Attrs)),dV ((lM Action.cs x1.1.Actions)),.tl 1004 (lM View.cs s2)]) (aq (al (cs':=[cI x1.1.Kind,cS x1.1.Key,dV ((lM Attr.cs x1.1.Attrs)),dV ((lM Action.cs x1.1.Actions)),.tl 1004 (lM View.cs s2)]) zz zz zz zz zz zz zz zz zz) (ab (ao ?_)))))
 obtain rfl:=sq hr
 exact ⟨_,zz,.inr zz,tv⟩
 clear hk3
 refine af (ac (aa (.c (.loc 1 6)) (aa (aV (((lI x1.1.Kids)))) (ae (aK (enc:=eI) x1.1.Kids zz zz tv zz) (aa (aI 0) (ab (am (az (fun (s4:Int×(List View))=>⟨[(0,.s (.c (.d (.mp true (encM (kInt .i64) Node.cs nodes))))),(4,.s (.c (.loc 0 0))),(6,.s (.c (.loc 2 0))),(22,.s (aV (((lI x1.1.Kids))))),(23,.s (aI (x1.1.Kids.length:Int))),(24,.s (aI s4.1))],[(0,.blk [cI 0,cS ByteArray.empty,.d (.v (.slice none 0 0)),.d (.v (.slice none 0 0)),.d (.v (.slice none 0 0))] 27),(2,.blk [cI x1.1.Kind,cS x1.1.Key,dV ((lM Attr.cs x1.1.Attrs)),dV ((lM Action.cs x1.1.Actions)),.tl 1007 (lM View.cs s4.2)] 27),(1007,.tail 5)],0⟩) hr (Conv.trans (lu 2 4 1009 5 [cI x1.1.Kind,cS x1.1.Key,dV ((lM Attr.cs x1.1.Attrs)),dV ((lM Action.cs x1.1.Actions)),.d (.v (.slice none 0 0))] [cI x1.1.Kind,cS x1.1.Key,dV ((lM Attr.cs x1.1.Attrs)),dV ((lM Action.cs x1.1.Actions)),.tl 1009 (lM View.cs ([]:(List View)))] 27 0 zz zz zz zz) (Conv.mk (tau [(1007,1009)]) ⟨cl zz,cl zz,cl zz,cl zz,cl zz,cl zz,tv⟩ ⟨zz,zz,zz,tv⟩ zz zz zz zz)) ?_))))))))
 clear hr
 intro again5 s4 hr
 unfold eO at hr
 refine af (ac (aa (aB (decide (s4.1<(x1.1.Kids.length:Int)))) (ab (af ?_))))
 refine ah (b:=decide (s4.1<(x1.1.Kids.length:Int))) zz (fun h6=>?_) (fun h6=>?_)
 have hr:=selT h6 hr
 refine aj (af (am (af (ac ?_))))
 obtain ⟨x7,hx7,hr⟩:=bq hr
 refine ae (aM (enc:=eI) (L:=x1.1.Kids) (row:=[dI x7]) hx7 zz zz zz zz (fun _=>zz) tv zz) (aa (aI x7) (aa (aI x7) (ab (aF (by kernel_rfl) (ar (.c (.loc 2 4)) zz tv zz (ar (.c (.tl 1007 (lM View.cs s4.2))) zz tv zz (ar (.c (.d (.mp true (encM (kInt .i64) Node.cs nodes)))) zz tv zz (ar (aI x7) zz tv zz ?_))))))))
 obtain ⟨x8,hx8,hr⟩:=bq hr
 refine av (aL (tau []) (.s (.agg [cI x8.Kind,cS x8.Key,dV ((lM Attr.cs x8.Attrs)),dV ((lM Action.cs x8.Actions)),dV ((lM View.cs x8.Kids))])) [] (hself0 _ _ hx8) zz ⟨.inl zz,.inl zz,tv⟩ tv tg tv) ?_
 refine gY 0 (cp (sz:=5) (enc:=View.cs) (j:=3) ([x8]) zz zz zz zz zz (rows:=[[dI x8.Kind,dS x8.Key,.sl (lM Attr.cs x8.Attrs),.sl (lM Action.cs x8.Actions),.sl (lM View.cs x8.Kids)]]) (by simp only [List.map,View.cs_eq]) zz zz (fun x=>by rw [View.cs_eq];rfl) tv zz zz) ?_
 obtain ⟨x9,hx9,hr⟩:=bq hr
 refine OkD.m2 0 (dQ (enc:=View.cs) (L:=s4.2) (X:=[x8]) (j:=1007) (j':=4) hx9 zz zz zz zz zz zz (fun x=>by rw [View.cs_eq];rfl) (fun x=>by rw [View.cs_eq];rfl) (by decide) tv zz zz) ?_
 refine ar (.c (.loc 2 4)) zz tv zz (iz (al (cs':=[cI x1.1.Kind,cS x1.1.Key,dV ((lM Attr.cs x1.1.Attrs)),dV ((lM Action.cs x1.1.Actions)),.tl 4 (lM View.cs x9)]) zz zz zz zz zz zz zz zz zz) (aY (by kernel_rfl) (ac (aa (aI (wq (s4.1+1))) (aa (aI (wq (s4.1+1))) (ab ?_))))))
 exact ⟨(wq (s4.1+1),x9),hr,(Conv.mk (tau [(1007,4)]) ⟨cl zz,cl zz,cl zz,cl zz,cl zz,cl zz,tv⟩ ⟨zz,zz,zz,tv⟩ zz zz zz zz)⟩
 have hr:=selF h6 hr
 refine aE ?_
 exact ⟨s4.2,hr,(Conv.mk (tau [(1004,1007)]) ⟨cl zz,cl zz,tv⟩ ⟨zz,zz,zz,tv⟩ zz zz zz zz)⟩
theorem mf:∀ n:Nat,(∀ (nodes:(List (Int×Node))) (id:Int) {r:View},ep n nodes id=some r→Con Tryz.prog 160 [.c (.d (.mp true (encM (kInt .i64) Node.cs nodes))),aI id] [] (.s (.agg [cI r.Kind,cS r.Key,dV ((lM Attr.cs r.Attrs)),dV ((lM Action.cs r.Actions)),dV ((lM View.cs r.Kids))])) [])∧True:=by
 intro n
 induction n with
 | zero=>exact ⟨(by intros;rename_i hr;cases hr),tv⟩
 | succ n ih=>exact ⟨(by intros;rename_i hr;exact mg _ ih.1 _ _ hr),tv⟩
theorem nB (n:Nat) (nodes:(List (Int×Node))) (id:Int) {r:View} (hr:ep n nodes id=some r):Con Tryz.prog 160 [.c (.d (.mp true (encM (kInt .i64) Node.cs nodes))),aI id] [] (.s (.agg [cI r.Kind,cS r.Key,dV ((lM Attr.cs r.Attrs)),dV ((lM Action.cs r.Actions)),dV ((lM View.cs r.Kids))])) []:=(mf n).1 nodes id hr
theorem lQ (t:Tree) {r:(List (Int×Node))×View×Int} (hr:dE t=some r):Con Tryz.prog 119 [.agg (tC t)] [] (.tup [.c (.d (.mp true (encM (kInt .i64) Node.cs r.1))),.agg [cI r.2.1.Kind,cS r.2.1.Key,dV ((lM Attr.cs r.2.1.Attrs)),dV ((lM Action.cs r.2.1.Actions)),dV ((lM View.cs r.2.1.Kids))],aI r.2.2]) []:=by
 unfold dE at hr
 refine ap 24 0 [.tmp 2,.cell 3 27,.tmp 4] [(0,.s (.agg (tC t)))] Tryz.func119 zz zz zz zz zz zz zz zz fun w g M ρ _=>(af (ac (ak 0 (aP (j:=0) (cs:=(tC t)) zz zz zz zz zz) (aa (.c (.d (.v (.map none)))) (ak 0 (aw (j:=1) (cs:=[cI 0,cS ByteArray.empty,.d (.v (.slice none 0 0)),.d (.v (.slice none 0 0)),.d (.v (.slice none 0 0))]) zz zz zz zz) (aa (aI 0) (ab (af (ac (aa (.agg (tC t)) ?_))))))))))
 obtain ⟨x1,hx1,hr⟩:=bq hr
 refine ae (aL (tau []) (.tup [.c (.d (.mp true (encM (kInt .i64) Node.cs x1.1))),aB x1.2]) [] (tQ _ hx1) zz ⟨.inl zz,tv⟩ tv xr tv) (ae (dk (v:=.tup [.c (.d (.mp true (encM (kInt .i64) Node.cs x1.1))),aB x1.2]) zz zz) (aa (.c (.d (.mp true (encM (kInt .i64) Node.cs x1.1)))) (aa (aB x1.2) (aa (.c (.d (.mp true (encM (kInt .i64) Node.cs x1.1)))) (aa (aB x1.2) (ab (af (af (ac (aa (aB x1.2) (aa (aB (!x1.2)) (ab ?_))))))))))))
 refine ah (b:=!x1.2) zz (fun h2=>?_) (fun h2=>?_)
 have hr:=selT h2 hr
 refine af (ac (aa (.agg [cI 0,cS ByteArray.empty,.d (.v (.slice none 0 0)),.d (.v (.slice none 0 0)),.d (.v (.slice none 0 0))]) (aa (.c (.d (.v (.map none)))) (aq (al (cs':=[cI 0,cS ByteArray.empty,.d (.v (.slice none 0 0)),.d (.v (.slice none 0 0)),.d (.v (.slice none 0 0))]) zz zz zz zz zz zz zz zz zz) (aa (aI 12) (ab (Ok.conv (iP 2 true zz) (ao ?_))))))))
 obtain rfl:=sq hr
 exact ⟨_,zz,.inr zz,tv⟩
 have hr:=selF h2 hr
 refine aj (af (ac (aa (.c (.d (.mp true (encM (kInt .i64) Node.cs x1.1)))) (aa (.c (.loc 0 0)) (aa (aI t.Root) ?_)))))
 obtain ⟨x3,hx3,hr⟩:=bq hr
 refine ae (aL (tau []) (.s (.agg [cI x3.Kind,cS x3.Key,dV ((lM Attr.cs x3.Attrs)),dV ((lM Action.cs x3.Actions)),dV ((lM View.cs x3.Kids))])) [] (nB _ _ _ hx3) zz ⟨.inl zz,.inl zz,tv⟩ tv tg tv) (ak 0 (aw (j:=2) (cs:=[cI 0,cS ByteArray.empty,.d (.v (.slice none 0 0)),.d (.v (.slice none 0 0)),.d (.v (.slice none 0 0))]) zz zz zz zz) (aq (al (cs':=[cI x3.Kind,cS x3.Key,dV ((lM Attr.cs x3.Attrs)),dV ((lM Action.cs x3.Actions)),dV ((lM View.cs x3.Kids))]) zz zz zz zz zz zz zz zz zz) (ab (af (aF (by kernel_rfl) (ar (.c (.d (.mp true (encM (kInt .i64) Node.cs x1.1)))) zz tv zz (ar (.agg [cI x3.Kind,cS x3.Key,dV ((lM Attr.cs x3.Attrs)),dV ((lM Action.cs x3.Actions)),dV ((lM View.cs x3.Kids))]) zz tv zz (ar (.agg [cI x3.Kind,cS x3.Key,dV ((lM Attr.cs x3.Attrs)),dV ((lM Action.cs x3.Actions)),dV ((lM View.cs x3.Kids))]) zz tv zz ?_))))))))
 obtain ⟨x4,hx4,hr⟩:=bq hr
 refine av (aL (tau []) (.s (aI x4)) [] (oz _ hx4) zz ⟨.inl zz,tv⟩ tv xq tv) (ar (.c (.d (.mp true (encM (kInt .i64) Node.cs x1.1)))) zz tv zz (iz (al (cs':=[cI x3.Kind,cS x3.Key,dV ((lM Attr.cs x3.Attrs)),dV ((lM Action.cs x3.Actions)),dV ((lM View.cs x3.Kids))]) zz zz zz zz zz zz zz zz zz) (ar (aI x4) zz tv zz (aY (by kernel_rfl) (ao ?_)))))
 obtain rfl:=sq hr
 exact ⟨_,zz,.inl zz,tv⟩
theorem tS (t:Tree) {r:Int} (hr:kK t=some r):Con Tryz.prog 115 [.agg (tC t)] [] (.s (aI r)) []:=by
 unfold kK at hr
 refine ap 13 0 [.tmp 2] [(0,.s (.agg (tC t)))] Tryz.func115 zz zz zz zz zz zz zz zz fun w g M ρ _=>(af (ac (ak 0 (aP (j:=0) (cs:=(tC t)) zz zz zz zz zz) (aa (aI 0) (ab (af (ac (aa (.agg (tC t)) ?_))))))))
 obtain ⟨x1,hx1,hr⟩:=bq hr
 refine ae (aL (tau []) (.tup [.c (.d (.mp true (encM (kInt .i64) Node.cs x1.1))),.agg [cI x1.2.1.Kind,cS x1.2.1.Key,dV ((lM Attr.cs x1.2.1.Attrs)),dV ((lM Action.cs x1.2.1.Actions)),dV ((lM View.cs x1.2.1.Kids))],aI x1.2.2]) [] (lQ _ hx1) zz ⟨.inl zz,tv⟩ tv tt tv) (ae (dk (v:=.tup [.c (.d (.mp true (encM (kInt .i64) Node.cs x1.1))),.agg [cI x1.2.1.Kind,cS x1.2.1.Key,dV ((lM Attr.cs x1.2.1.Attrs)),dV ((lM Action.cs x1.2.1.Actions)),dV ((lM View.cs x1.2.1.Kids))],aI x1.2.2]) zz zz) (aa (.c (.d (.mp true (encM (kInt .i64) Node.cs x1.1)))) (aa (.agg [cI x1.2.1.Kind,cS x1.2.1.Key,dV ((lM Attr.cs x1.2.1.Attrs)),dV ((lM Action.cs x1.2.1.Actions)),dV ((lM View.cs x1.2.1.Kids))]) (aa (aI x1.2.2) (ak 0 (aw (j:=1) (cs:=[cI 0,cS ByteArray.empty,.d (.v (.slice none 0 0)),.d (.v (.slice none 0 0)),.d (.v (.slice none 0 0))]) zz zz zz zz) (aa (.c (.d (.mp true (encM (kInt .i64) Node.cs x1.1)))) (aq (al (cs':=[cI x1.2.1.Kind,cS x1.2.1.Key,dV ((lM Attr.cs x1.2.1.Attrs)),dV ((lM Action.cs x1.2.1.Actions)),dV ((lM View.cs x1.2.1.Kids))]) zz zz zz zz zz zz zz zz zz) (aa (aI x1.2.2) (ab (af (ac (aa (aI x1.2.2) (aa (aI x1.2.2) (ab (ao ?_)))))))))))))))
 obtain rfl:=sq hr
 exact ⟨_,zz,.inl zz,tv⟩
theorem tP (t:Tree) {r:(List (Int×Node))×Bool} (hr:eM t=some r):Con Tryz.prog 79 [.agg (tC t)] [] (.tup [.c (.d (.mp true (encM (kInt .i64) Node.cs r.1))),aB r.2]) []:=by
 unfold eM at hr
 refine ap 16 0 [.tmp 2,.tmp 3] [(0,.s (.agg (tC t)))] Tryz.func79 zz zz zz zz zz zz zz zz fun w g M ρ _=>(af (ac (ak 0 (aP (j:=0) (cs:=(tC t)) zz zz zz zz zz) (aa (.c (.d (.v (.map none)))) (aa (aB false) (ab (af (ac (aa (.agg (tC t)) ?_)))))))))
 obtain ⟨x1,hx1,hr⟩:=bq hr
 refine ae (aL (tau []) (.tup [.c (.d (.mp true (encM (kInt .i64) Node.cs x1.1))),.agg [cI x1.2.1.Kind,cS x1.2.1.Key,dV ((lM Attr.cs x1.2.1.Attrs)),dV ((lM Action.cs x1.2.1.Actions)),dV ((lM View.cs x1.2.1.Kids))],aI x1.2.2]) [] (lQ _ hx1) zz ⟨.inl zz,tv⟩ tv tt tv) (ae (dk (v:=.tup [.c (.d (.mp true (encM (kInt .i64) Node.cs x1.1))),.agg [cI x1.2.1.Kind,cS x1.2.1.Key,dV ((lM Attr.cs x1.2.1.Attrs)),dV ((lM Action.cs x1.2.1.Actions)),dV ((lM View.cs x1.2.1.Kids))],aI x1.2.2]) zz zz) (aa (.c (.d (.mp true (encM (kInt .i64) Node.cs x1.1)))) (aa (.agg [cI x1.2.1.Kind,cS x1.2.1.Key,dV ((lM Attr.cs x1.2.1.Attrs)),dV ((lM Action.cs x1.2.1.Actions)),dV ((lM View.cs x1.2.1.Kids))]) (aa (aI x1.2.2) (ak 0 (aw (j:=1) (cs:=[cI 0,cS ByteArray.empty,.d (.v (.slice none 0 0)),.d (.v (.slice none 0 0)),.d (.v (.slice none 0 0))]) zz zz zz zz) (aa (.c (.d (.mp true (encM (kInt .i64) Node.cs x1.1)))) (aq (al (cs':=[cI x1.2.1.Kind,cS x1.2.1.Key,dV ((lM Attr.cs x1.2.1.Attrs)),dV ((lM Action.cs x1.2.1.Actions)),dV ((lM View.cs x1.2.1.Kids))]) zz zz zz zz zz zz zz zz zz) (aa (aI x1.2.2) (ab (af (ac (aa (.c (.d (.mp true (encM (kInt .i64) Node.cs x1.1)))) (aa (aI x1.2.2) (aa (aB (x1.2.2==0)) (aa (.c (.d (.mp true (encM (kInt .i64) Node.cs x1.1)))) ?_)))))))))))))))
 refine aa (aB (x1.2.2==0)) (ab (ao ?_))
 obtain rfl:=sq hr
 exact ⟨_,zz,.inl zz,tv⟩
end Go.Proofs.YtfoigppmcelgfaaGreatDoor
end
section
namespace Go.E2
variable {P:Program} {C:Ctx}
theorem uc {o:Oper} {a:Act} {w w':World} {l:Nat} {f:FuncId} {tmps:Array Value} {assign body:Code} {K:Act→World→Prop} {Q:Exit→Act→World→Prop} (h:(execOp a.eval o).run P w=.ok (.round l f tmps assign body) w')
  (hk:RoundIn (FR none) 0 P l f tmps assign body w' fun | .returned v,w''=>K (a.put o.dst v) w'' | .panicked chain,w''=>Q (.panic chain) a w'' | .outgrown,_=>LetsOut Q):o.wpIn (FR none) 0 P a w K Q:=by
 refine ⟨fun _ _=>trivial,?_⟩
 rw [show (FR none).round=none from rfl,ms h (fun d e=>by cases e)]
 exact ⟨fun h=>Bool.noConfusion h,hk⟩
def yl (l:Nat):Value:=.func (.yield l) #[] #[]
def nR (a:Act) (fid:FuncId) (D:Nat) (ps:Array Tmp) (assign body:Code) (s:LoopState) (pe:Option Code):Obj :=
 .loop { state:=s,pending:=pe,fn:=fid,tmps:=a.tmps,params:=ps,assign,body,defers:=D }
structure LoopE (C:Ctx) (st:AState) (ps:Array Tmp) (assign body:Code) (jl l:Nat) (ρ1:Env) (M1:Mem) (ob:LoopState→Option Code→Obj):Prop where
 ptr:ρ1 jl=.pointer (some ⟨l,0,none⟩)
 ex:∃ (a:Act) (fid:FuncId) (D:Nat),a.tmps.size=C.n∧(∀ ρ',Agree (look st.bl) ρ1 ρ'→∀ s v,look st.sl s=some v→v.rep ρ' M1 (a.tmps.getD s undef))∧ob=nR a fid D ps assign body
 old:C.w0.heap.size≤l
abbrev cxF (C:Ctx) (n1:Nat) (M1:Mem) (bl:List (Nat×Ob)) (ρ1:Env):Ctx:=ctxOf C.w0 n1 C.g M1 bl ρ1
abbrev cxR (C:Ctx) (M:Mem) (bl:List (Nat×Ob)) (ρ:Env) (l:Nat):Ctx:=ctxOf C.w0 C.n C.g M bl ρ (some l)
theorem z6 {t:Array Value} {p q:Nat} {v1 v2:Value}:((#[p,q]:Array Tmp).zip #[v1,v2]).foldl (fun tmps (t,a)=>tmps.setIfInBounds t a) t=(t.setIfInBounds p v1).setIfInBounds q v2:=by simp
theorem sP {t:Array Value} {p s:Nat} {v:Value} (hp:p<t.size):(t.setIfInBounds p v).getD s undef=if p=s then v else t.getD s undef:=by
 rw [Array.getD_eq_getD_getElem?,Array.getD_eq_getD_getElem?,Array.getElem?_setIfInBounds]
 by_cases h:p=s
 ·subst h;simp [hp]
 ·simp [h]
theorem RelW.objSet {bl bl':Nat→Option Ob} {ρ:Env} {M:Mem} {w:World} {j l:Nat} {o o':Obj} (h:RelW C bl ρ M w) (hj:bl j=some (.obj o)) (hp:ρ j=.pointer (some ⟨l,0,none⟩)) (ho:∀ c t f,o'≠.cells c t f) (hl:C.w0.heap.size≤l)
  (hbl:∀ k ob,bl' k=some ob→ob=.dead∨(bl k=some ob∧k≠j)∨(k=j∧ob=.obj o')):RelW C bl' ρ M (w.putObj l o'):=by
 have hb:blockOf (ρ j)=l:=by rw [hp];rfl
 have hi:=h.inv j _ hj
 obtain ⟨g1,g2,g3⟩:=hi
 rw [hb] at g1 g2
 have hlt:l<w.heap.size:=(Array.getElem?_eq_some_iff.1 g1).1
 have hcl:∀ o'' v,M.cell l o''≠some v:=fun o'' v hv=>by
  have hc:=h.mem.cell l o'' v hv
  unfold World.cell? at hc
  simp only [g1] at hc
  cases o <;> first | (exact absurd rfl (g3 _ _ _)) | (cases hc;done)
 refine h.change j (fun b=>b=l) (fun b hb _=>.inl (hb ▸ hl)) ⟨rfl,rfl,rfl,by rw [World.putObj_size];exact Nat.le_refl _⟩ (fun b _ hb=>World.putObj_heap_other hb) (Mem.le_refl _) (fun _ _ _=>⟨fun _=>rfl,rfl⟩) (fun b hb=>⟨fun o'' v hv=>?_,fun o'' hv=>?_⟩) (fun k ob hk=>?_) (fun b hb'=>h.noJunk hj (by rw [hb'];exact congrArg some hb))
 ·rcases hb with rfl | hb
  ·exact absurd hv (hcl _ _)
  ·have:=(h.mem.none hb).1 o'';rw [this] at hv;cases hv
 ·rcases hb with rfl | hb
  ·rw [g2] at hv;cases hv
  ·have:=(h.mem.none hb).2;rw [this] at hv;cases hv
 ·rcases hbl k ob hk with rfl | ⟨h1,h2⟩ | ⟨rfl,rfl⟩
  ·exact .inl rfl
  ·refine .inr (.inl ⟨h1,fun b hb' e=>?_⟩)
   subst e
   exact h2 (h.dist k j _ _ _ h1 hj hb' (by show some (blockOf (ρ j))=some b;rw [hb]))
  ·refine .inr (.inr ⟨rfl,⟨by rw [hb];exact World.putObj_heap_same hlt,by rw [hb];exact g2,ho⟩,fun b hb'=>.inl ?_⟩)
   have:some (blockOf (ρ k))=some b:=hb'
   rw [hb] at this;cases this;rfl
theorem kV {a:Act} {fid:FuncId} {D:Nat} {ps:Array Tmp} {assign body:Code} {s:LoopState} {pe:Option Code}:∀ c t f,nR a fid D ps assign body s pe≠.cells c t f:=fun _ _ _ h=>by cases h
def outOf:Exit→Option Code
 | .ret=>some .ret
 | .exit id=>some (.exit id)
 | _=>none
theorem OkOps.yield {st cur : AState} {p q : Nat} {assign body : Code} {jl l n1 nx : Nat} {ρ1 : Env} {M1 : Mem} {ob : LoopState → Option Code → Obj} {bl1 : List (Nat × Ob)} {ops : Array Oper} {rest : List Oper} {Q : AState → Prop} {d : Nat} {y x1 x2 : Operand} {tys : Array TypeId} {ty : TypeId} {pos : String} {after : Array Edge} {v1 v2 : A1}
    [hT : HasTab P (cxF C n1 M1 bl1 ρ1)] (E : LoopE C st #[p, q] assign body jl l ρ1 M1 ob) (_hpq : p ≠ q) (hp : Nat.blt p C.n = true) (hq : Nat.blt q C.n = true)
    (hy : rd cur.F y = some (.c (.d (.v (yl l))))) (hx : rds cur.F [x1, x2] = some [v1, v2]) (hs : sideOk cur.F true [y, x1, x2]) (hd : Nat.blt d n1 = true)
    (hjl : look cur.bl jl = some (.obj (ob .ready none))) (hdom : ∀ k, look st.bl k ≠ none → look bl1 k ≠ none) (hj1 : look bl1 jl ≠ none)
    (hbody : ∀ ρc Mc, HasTab P (cxR C Mc cur.bl ρc l) → Ok P (cxR C Mc cur.bl ρc l) assign (fun e s1 => e = .normal ∧ look s1.bl jl = some (.obj (ob .ready none)) ∧ Ok P (cxR C Mc cur.bl ρc l) body (fun e s2 => look s2.bl jl = some (.obj (ob .busy none)) ∧ match e with
        | .normal => OkOps P (cxF C n1 M1 bl1 ρ1) ops rest Q ⟨(d, .s (.c (.d (.v (.bool true))))) :: cur.sl, (jl, .obj (ob .ready none)) :: s2.bl, nx⟩
        | .ret => OkOps P (cxF C n1 M1 bl1 ρ1) ops rest Q ⟨(d, .s (.c (.d (.v (.bool false))))) :: cur.sl, (jl, .obj (ob .done (some .ret))) :: s2.bl, nx⟩
        | .exit id => OkOps P (cxF C n1 M1 bl1 ρ1) ops rest Q ⟨(d, .s (.c (.d (.v (.bool false))))) :: cur.sl, (jl, .obj (ob .done (some (.exit id)))) :: s2.bl, nx⟩
        | _ => False)
      ⟨s1.sl, (jl, .obj (ob .busy none)) :: s1.bl, nx⟩) ⟨(q, .s v2) :: (p, .s v1) :: st.sl, cur.bl, nx⟩) :
    OkOps P (cxF C n1 M1 bl1 ρ1) ops (⟨some d, .call ⟨.value y, #[x1, x2], tys⟩, ty, pos, after, none⟩ :: rest) Q cur := by
  intro Q' hQ ρ M a w hr
  unfold wpListIn
  rw [if_pos (cK          rfl)]
  have h0 := hr.at
  have hR := aR       h0 rfl hs
  have ey : a.eval y = yl l := bz        (hR y (by simp) _ hy)
  have hpj : ρ jl = .pointer (some ⟨l, 0, none⟩) := (h0.heap.names jl hj1).trans E.ptr
  obtain ⟨a0, fid, D, hsz, hent, rfl⟩ := E.ex
  have hpl := Nat.lt_of_lt_of_le (Nat.lt_succ_self p) (Nat.le_of_ble_eq_true hp)
  have hql := Nat.lt_of_lt_of_le (Nat.lt_succ_self q) (Nat.le_of_ble_eq_true hq)
  have hw : w.heap[l]? = some (nR   a0 fid D #[p, q] assign body .ready none) := by
    have := (h0.heap.inv jl _ hjl).1
    rw [hpj] at this
    exact this
  have hrun : (execOp a.eval ⟨some d, .call ⟨.value y, #[x1, x2], tys⟩, ty, pos, after, none⟩).run P w = .ok (.round l fid ((a0.tmps.setIfInBounds p (a.eval x1)).setIfInBounds q (a.eval x2)) assign body) w := by
    unfold execOp
    simp only [resolve, ey, yl, Deferred.ofValue, List.map_toArray, List.map_cons, List.map_nil, pure_bind, invoke, Array.empty_append]
    rw [run_yield hw rfl]
    simp only [z6  ]
  have hT2 : HasTab P (cxR C M cur.bl ρ l) := ⟨hT.tab.mono h0.heap.base⟩
  have hjk : look cur.bl jl ≠ none := by rw [hjl]; simp
  have hrel2 : Rel (cxR C M cur.bl ρ l) (AState.F ⟨(q, .s v2) :: (p, .s v1) :: st.sl, cur.bl, nx⟩) ρ M { tmps := (a0.tmps.setIfInBounds p (a.eval x1)).setIfInBounds q (a.eval x2), defers := [] } w := by
    intro ρ' ha
    have ha' : Agree (look cur.bl) ρ ρ' := ha
    have h1 := hr ρ' ha'
    have hR1 := aR       h1 rfl hs
    have hargs := iw      (xs := [x1, x2]) (fun x hx => hR1 x (List.mem_cons_of_mem _ hx)) hx
    obtain ⟨r1, r2, _⟩ := hargs
    refine ⟨Marks.nil, by show _ = C.n; simp [hsz], fun t u hu => ?_, ?_⟩
    · have hu' : look ((q, .s v2) :: (p, .s v1) :: st.sl) t = some u := hu
      rw [au       , au       ] at hu'
      show u.rep ρ' M (((a0.tmps.setIfInBounds p (a.eval x1)).setIfInBounds q (a.eval x2)).getD t undef)
      rw [sP       (by rw [Array.size_setIfInBounds, hsz]; exact hql), sP       (by rw [hsz]; exact hpl)]
      by_cases e1 : q = t
      · rw [if_pos e1] at hu' ⊢; cases hu'; exact r2
      · rw [if_neg e1] at hu' ⊢
        by_cases e2 : p = t
        · rw [if_pos e2] at hu' ⊢; cases hu'; exact r1
        · rw [if_neg e2] at hu' ⊢
          exact (hent ρ' (fun k hk => h1.heap.names k (hdom k hk)) t u hu').mono h1.heap.base
    · have hb := h1.heap
      exact ⟨hb.inv, hb.dist, hb.priv, hb.mem, Mem.le_refl _, fun _ _ _ => ⟨fun _ => rfl, rfl⟩, hb.kept, fun k hk => ha k hk, hb.junkP⟩
  refine uc         hrun (roundIn_of_wpIn trivial (wpIn_mono (hbody ρ M hT2 ρ M _ _ hrel2) ?_))
  rintro e a1 w1 ⟨s1, ρa, Ma, hra, rfl, hja, hbod⟩
  have hjpa : ∀ ρ'', Agree (look s1.bl) ρa ρ'' → ρ'' jl = .pointer (some ⟨l, 0, none⟩) := fun ρ'' ha => ((hra ρ'' ha).heap.names jl hjk).trans hpj
  have hwa : w1.heap[l]? = some (nR   a0 fid D #[p, q] assign body .ready none) := by
    have := (hra.at.heap.inv jl _ hja).1
    rw [hjpa ρa (Agree.refl _ _)] at this
    exact this
  refine ⟨_, run_beginRound hwa rfl, ?_⟩
  have hrelb : Rel (cxR C M cur.bl ρ l) (AState.F ⟨s1.sl, (jl, .obj (nR   a0 fid D #[p, q] assign body .busy none)) :: s1.bl, nx⟩) ρa Ma a1 (w1.putObj l (nR   a0 fid D #[p, q] assign body .busy none)) := by
    intro ρ'' ha
    have ha2 : Agree (look s1.bl) ρa ρ'' := fun k hk => ha k (by
      show look ((jl, Ob.obj (nR   a0 fid D #[p, q] assign body .busy none)) :: s1.bl) k ≠ none
      rw [au       ]
      by_cases e : jl = k
      · rw [if_pos e]; simp
      · rw [if_neg e]; exact hk)
    have h2 := hra ρ'' ha2
    exact ⟨h2.defers, h2.size, h2.slots, h2.heap.objSet (bl' := look ((jl, .obj (nR   a0 fid D #[p, q] assign body .busy none)) :: s1.bl)) hja (hjpa ρ'' ha2) (o' := nR   a0 fid D #[p, q] assign body .busy none) kV        E.old (fun k ob hk => by
      rw [au       ] at hk
      by_cases e : jl = k
      · rw [if_pos e] at hk; cases hk; exact .inr (.inr ⟨e.symm, rfl⟩)
      · rw [if_neg e] at hk; exact .inr (.inl ⟨hk, fun e' => e e'.symm⟩))⟩
  refine wpIn_mono (hbod ρa Ma _ _ hrelb) ?_
  rintro e a' w' ⟨s2, ρ', M', hr2, hjb, hq⟩
  have hjp2 : ∀ ρ'', Agree (look s2.bl) ρ' ρ'' → ρ'' jl = .pointer (some ⟨l, 0, none⟩) := fun ρ'' ha => ((hr2 ρ'' ha).heap.names jl hjk).trans hpj
  have hw' : w'.heap[l]? = some (nR   a0 fid D #[p, q] assign body .busy none) := by
    have := (hr2.at.heap.inv jl _ hjb).1
    rw [hjp2 ρ' (Agree.refl _ _)] at this
    exact this
  have fin : ∀ (s : LoopState) (pe : Option Code) (b : Bool), Rel (cxF C n1 M1 bl1 ρ1) (AState.F ⟨(d, .s (.c (.d (.v (.bool b))))) :: cur.sl, (jl, .obj (nR   a0 fid D #[p, q] assign body s pe)) :: s2.bl, nx⟩) ρ' M' (a.put (some d) (.bool b)) (w'.putObj l (nR   a0 fid D #[p, q] assign body s pe)) := by
    intro s pe b ρ'' ha
    have ha2 : Agree (look s2.bl) ρ' ρ'' := fun k hk => ha k (by
      show look ((jl, Ob.obj (nR   a0 fid D #[p, q] assign body s pe)) :: s2.bl) k ≠ none
      rw [au       ]
      by_cases e : jl = k
      · rw [if_pos e]; simp
      · rw [if_neg e]; exact hk)
    have h2 := hr2 ρ'' ha2
    have hac : Agree (look cur.bl) ρ ρ'' := fun k hk => h2.heap.names k hk
    have h1 := hr ρ'' hac
    have hle : M.le M' := h2.heap.base
    have hput : RelW (cxF C n1 M1 bl1 ρ1) (look ((jl, Ob.obj (nR   a0 fid D #[p, q] assign body s pe)) :: s2.bl)) ρ'' M' (w'.putObj l (nR   a0 fid D #[p, q] assign body s pe)) → Rel0 (cxF C n1 M1 bl1 ρ1) (AState.F ⟨(d, .s (.c (.d (.v (.bool b))))) :: cur.sl, (jl, .obj (nR   a0 fid D #[p, q] assign body s pe)) :: s2.bl, nx⟩) ρ'' M' (a.put (some d) (.bool b)) (w'.putObj l (nR   a0 fid D #[p, q] assign body s pe)) := fun hh => by
      have := Rel0.put (F := cur.F) h1 (Nat.lt_of_lt_of_le (Nat.lt_succ_self d) (Nat.le_of_ble_eq_true hd)) (v := .s (.c (.d (.v (.bool b))))) (.v _) hle hh
      rw [show cur.F.sl = look cur.sl from rfl, jv       ] at this
      exact this
    refine hput ?_
    have hb := h2.heap.objSet (bl' := look ((jl, .obj (nR   a0 fid D #[p, q] assign body s pe)) :: s2.bl)) hjb (hjp2 ρ'' ha2) (o' := nR   a0 fid D #[p, q] assign body s pe) kV        E.old (fun k ob hk => by
      rw [au       ] at hk
      by_cases e : jl = k
      · rw [if_pos e] at hk; cases hk; exact .inr (.inr ⟨e.symm, rfl⟩)
      · rw [if_neg e] at hk; exact .inr (.inl ⟨hk, fun e' => e e'.symm⟩))
    refine ⟨hb.inv, hb.dist, hb.priv, hb.mem, h1.heap.base.trans hle, fun b hb' hg => ?_, hb.kept, h1.heap.names, hb.junkP⟩
    obtain ⟨g1, g2⟩ := hb.fresh b hb' hg
    obtain ⟨k1, k2⟩ := h1.heap.fresh b hb' hg
    exact ⟨fun o => (g1 o).trans (k1 o), g2.trans k2⟩
  cases e with
  | normal => exact ⟨_, _, run_endRound none hw', hq Q' hQ ρ' M' _ _ (fin .ready none true)⟩
  | ret => exact ⟨_, _, run_endRound (some .ret) hw', hq Q' hQ ρ' M' _ _ (fin .done (some .ret) false)⟩
  | exit id => exact ⟨_, _, run_endRound (some (.exit id)) hw', hq Q' hQ ρ' M' _ _ (fin .done (some (.exit id)) false)⟩
  | _ => exact hq.elim
theorem RelW.allocMark {bl:Nat→Option Ob} {ρ:Env} {M:Mem} {w:World} {o:Obj} (h:RelW C bl ρ M w) (ho:notCells o=true):RelW C bl ρ (M.setO w.heap.size o) (w.alloc o):=by
 have hnone:=(h.mem.none (Nat.le_refl w.heap.size)).2
 refine h.change 0 (fun _=>False) (fun _ h=>h.elim) ⟨rfl,rfl,rfl,by rw [dN];simp⟩ (fun b hb _=>iO hb) (kF (Mem.le_refl _) hnone) (fun b hb _=>⟨fun _=>rfl,cb (by omega)⟩) (fun b hb=>?_) (fun k ob hk=>.inr (.inl ⟨hk,fun _ _ h=>h⟩))
 rcases hb with hb | hb
 ·exact hb.elim
 ·have hn:=h.mem.none hb
  refine ⟨fun o' v hv=>?_,fun o' hv=>?_⟩
  ·have:M.cell b o'=some v:=hv
   rw [hn.1 o'] at this;cases this
  ·by_cases e:b=w.heap.size
   ·subst e
    rw [jb] at hv;cases hv
    exact ⟨fe _ _,ho⟩
   ·rw [cb e,hn.2] at hv;cases hv
theorem sH {ρ:Env} {M:Mem}:∀ {l:List (Nat×Nat)},A1.reps ρ M (l.map (fun x=>.c (.loc x.1 x.2))) (l.map fun (x:Nat×Nat)=>Go.E2.ptr ρ x.1 x.2)
 | []=>trivial
 | _ :: _=>⟨rfl,sH⟩
theorem ny {st : AState} {t : Nat} {p q : Nat} {assign body c1 : Code} {f : FuncId} {fn : Func} {caps : List (Nat × Nat)} {n1 jl nx1 nx : Nat} {Q : Exit → AState → Prop}
  [hT : HasTab P C] (hro : C.ro = none) (hg : rd st.F (.tmp t) = some (.c (.fn f caps))) (hs : sideOk st.F true [.tmp t])
  (hf : P.funcs[f]? = some fn) (hb : fn.body = some c1) (hnm : (fn.name == "runtime.NumGoroutine") = false) (hn : fn.ntmps = n1) (hres : fn.results.toList = []) (hj : look st.bl jl = none) (hn1 : Nat.ble (caps.length + 1) n1 = true)
  (H : ∀ (l : Nat) (ρ1 : Env) (M1 : Mem) (ob : LoopState → Option Code → Obj),HasTab P (cxF C n1 M1 ((jl,.obj (ob .ready none)) :: st.bl) ρ1) → LoopE C st #[p,q] assign body jl l ρ1 M1 ob →
   Ok P (cxF C n1 M1 ((jl,.obj (ob .ready none)) :: st.bl) ρ1) c1 (fun e s1=>(e = .ret ∨ e = .normal) ∧ ((look s1.bl jl = some (.obj (ob .ready none)) ∧ Q .normal ⟨st.sl,(jl,.dead) :: s1.bl,nx⟩) ∨ ∃ e' c,outOf e' = some c ∧ look s1.bl jl = some (.obj (ob .done (some c))) ∧ Q e' ⟨st.sl,(jl,.dead) :: s1.bl,nx⟩))
    ⟨startA 0 (.c (.d (.v (yl l))) :: caps.map (fun x=>.c (.loc x.1 x.2))),(jl,.obj (ob .ready none)) :: st.bl,nx1⟩) :
  Ok P C (.rangeFunc (.tmp t) #[p,q] assign body) Q st:=by
 subst hn
 intro ρ M a w hr
 rw [hro]
 have h0:=hr.at
 have hcl : ∀ ρ',Agree (look st.bl) ρ ρ' → a.eval (.tmp t) = .func (.func f) #[] (caps.map fun (x : Nat × Nat)=>Go.E2.ptr ρ' x.1 x.2).toArray:=fun ρ' ha=>aR (hr ρ' ha) rfl hs _ (by simp) _ hg
 refine wpIn_rangeFunc (fun fid _=>?_)
 have hro2 : (FR none).round = none:=rfl
 rw [hro2]
 have hlp : ∃ l,l = w.heap.size + 1:=⟨_,rfl⟩
 obtain ⟨l,hl⟩:=hlp
 let ob:=nR a fid w.heap.size #[p,q] assign body
 let ρ1 : Env:=fun k=>if k = jl then .pointer (some ⟨l,0,none⟩) else ρ k
 let M1:=M.setO w.heap.size (.deferred (some []))
 let W1:=(w.alloc (.deferred (some []))).alloc (ob .ready none)
 have hnone:=(h0.heap.mem.none (Nat.le_refl w.heap.size)).2
 have hle1 : M.le M1:=kF (Mem.le_refl _) hnone
 have hag : ∀ ρ',Agree (look ((jl,Ob.obj (ob .ready none)) :: st.bl)) ρ1 ρ' → Agree (look st.bl) ρ ρ' ∧ ρ' jl = .pointer (some ⟨l,0,none⟩):=fun ρ' ha=>by
  refine ⟨fun k hk=>?_,?_⟩
  ·have hne : jl ≠ k:=fun e=>hk (e ▸ hj)
   rw [ha k (by rw [au,if_neg hne];exact hk)]
   exact if_neg (fun e=>hne e.symm)
  ·rw [ha jl (by rw [au,if_pos rfl];simp)]
   exact if_pos rfl
 have hrel : ∀ ρ',Agree (look ((jl,Ob.obj (ob .ready none)) :: st.bl)) ρ1 ρ' → RelW C (look ((jl,Ob.obj (ob .ready none)) :: st.bl)) ρ' M1 W1:=fun ρ' ha=>by
  obtain ⟨h1,h2⟩:=hag ρ' ha
  have h3:=(hr ρ' h1).heap.allocMark (o:=.deferred (some [])) rfl
  have hsz : (w.alloc (.deferred (some []))).heap.size = l:=by rw [dN,hl];simp
  have:=h3.allocO (o:=ob .ready none) (ob:=.obj (ob .ready none)) (j:=jl) ⟨by rw [h2];show ((w.alloc (.deferred (some []))).alloc (ob .ready none)).heap[l]? = _;rw [← hsz];exact fe _ _,by rw [h2];exact (h3.mem.none (by rw [hsz];exact Nat.le_refl l)).2,kV⟩ (fun b hb'=>by
   rw [h2] at hb';cases hb';rw [hsz];exact Nat.le_refl l)
  rw [show st.F.bl = look st.bl from rfl,jv] at this
  exact this
 have hT1 : HasTab P (cxF C fn.ntmps M1 ((jl,.obj (ob .ready none)) :: st.bl) ρ1):=⟨(hT.tab.mono h0.heap.base).mono hle1⟩
 have hold : C.w0.heap.size ≤ w.heap.size:=h0.heap.kept.size
 have E : LoopE C st #[p,q] assign body jl l ρ1 M1 ob:=by
  refine ⟨if_pos rfl,⟨a,fid,w.heap.size,h0.size,fun ρ' ha s v hv=>?_,rfl⟩,by omega⟩
  have hag' : Agree (look st.bl) ρ ρ':=fun k hk=>by
   have hne : k ≠ jl:=fun e=>hk (e ▸ hj)
   rw [ha k hk];exact if_neg hne
  exact ((hr ρ' hag').slots s v hv).mono hle1
 let vs : List Value:=yl l :: caps.map fun (x : Nat × Nat)=>Go.E2.ptr ρ x.1 x.2
 have hcl0:=hcl ρ (Agree.refl _ _)
 refine ⟨l,[{ target:=.collected w.heap.size,args:=#[] }],W1,{ target:=.fn (.func f) (caps.map fun (x : Nat × Nat)=>Go.E2.ptr ρ x.1 x.2).toArray,args:=#[yl l] },W1,f,vs.toArray,W1,by rw [hl];exact run_enterLoop_outer _ _ _ _ _,?_,fun _ _=>trivial,?_,fun h=>Bool.noConfusion h,?_⟩
 ·simp only [resolve,hcl0]
  simp [go_sem,yl,Act.eval,Deferred.ofValue]
 ·have e1 : #[yl l] ++ (caps.map fun (x : Nat × Nat)=>Go.E2.ptr ρ x.1 x.2).toArray = vs.toArray:=by apply Array.ext';simp [vs]
  simp only [invoke,callFunc,e1]
  show (Sem.program _).run P W1 = _
  simp only [Sem.run,Sem.bind,hf]
  rw [if_neg (by rw [hnm];simp),if_neg (by rw [hb];simp)]
  rfl
 ·have hlen : vs.length ≤ fn.ntmps:=by
   have:=Nat.le_of_ble_eq_true hn1
   simp only [vs,List.length_cons,List.length_map]
   exact this
  have hstart : Rel (cxF C fn.ntmps M1 ((jl,.obj (ob .ready none)) :: st.bl) ρ1) (AState.F ⟨startA 0 (.c (.d (.v (yl l))) :: caps.map (fun x=>.c (.loc x.1 x.2))),(jl,.obj (ob .ready none)) :: st.bl,nx1⟩) ρ1 M1 { tmps:=vs.toArray ++ Array.replicate (fn.ntmps - vs.toArray.size) undef,defers:=[] } W1:=by
   intro ρ' ha
   have hR:=hrel ρ' ha
   obtain ⟨h1,h2⟩:=hag ρ' ha
   refine ⟨Marks.nil,?_,fun s v hv=>?_,⟨hR.inv,hR.dist,hR.priv,hR.mem,Mem.le_refl _,fun _ _ _=>⟨fun _=>rfl,rfl⟩,hR.kept,fun k hk=>ha k hk,hR.junkP⟩⟩
   ·show (vs.toArray ++ Array.replicate (fn.ntmps - vs.toArray.size) undef).size = fn.ntmps
    rw [Array.size_append,Array.size_replicate,List.size_toArray];omega
   ·have hcr : A1.reps ρ' M1 (.c (.d (.v (yl l))) :: caps.map (fun x=>.c (.loc x.1 x.2))) vs:=by
     refine ⟨Rep.v _,?_⟩
     have e:=(hcl ρ' h1).symm.trans hcl0
     have e2 : (caps.map fun (x : Nat × Nat)=>Go.E2.ptr ρ' x.1 x.2) = caps.map fun (x : Nat × Nat)=>Go.E2.ptr ρ x.1 x.2:=by
      injection e with _ _ e3
      simpa using e3
     show A1.reps ρ' M1 (caps.map (fun x=>.c (.loc x.1 x.2))) (caps.map fun (x : Nat × Nat)=>Go.E2.ptr ρ x.1 x.2)
     rw [← e2]
     exact sH
    obtain ⟨u,_,q2,q3⟩:=kg _ vs 0 s v hcr hv
    simp only [Nat.sub_zero] at q2
    have hs' : s < vs.length:=(List.getElem?_eq_some_iff.1 q2).1
    rw [Array.getD_eq_getD_getElem?,Array.getElem?_append_left (by simpa using hs')]
    simpa [q2] using q3
  refine callsIn_of_wp_marks hf hb trivial (wpIn_mono (H l ρ1 M1 ob hT1 E ρ1 M1 _ _ hstart) ?_)
  rintro e a' w' ⟨s1,ρ',M',hr',he,hq⟩
  have fin : LeavesInM (FR none) 0 P fn a'.tmps (rangePost (FR none) 0 P l (sem C Q) { a with defers:=[{ target:=.collected w.heap.size,args:=#[] }] ++ a.defers }) a'.defers .returning w':=by
   refine ks (C:=cxF C fn.ntmps M1 ((jl,.obj (ob .ready none)) :: st.bl) ρ1) (bl:=s1.F.bl) (S:=fun ρ''=>Agree s1.F.bl ρ' ρ'') a'.defers M' w' hr'.at.defers ⟨fun _ _ _ h=>h,fun _ _ _ h=>h,fun _ _ h=>h⟩ (fun ρ'' ha=>(hr' ρ'' ha).heap) ⟨ρ',Agree.refl _ _⟩ (fun M2 w2 hsim h2=>?_)
   have hR : Rel0 (cxF C fn.ntmps M1 ((jl,.obj (ob .ready none)) :: st.bl) ρ1) s1.F ρ' M2 { a' with defers:=[] } w2:=⟨Marks.nil,hr'.at.size,fun s x hx=>AV.rep.monoS hsim (hr'.at.slots s x hx),h2 ρ' (Agree.refl _ _)⟩
   obtain ⟨u,g1,_⟩:=nP (P:=P) (v:=.tup []) hR (fn:=fn) (by rw [hres];rfl)
   refine ⟨u,g1,?_⟩
   have hjl : look ((jl,Ob.obj (ob .ready none)) :: st.bl) jl ≠ none:=by rw [au,if_pos rfl];simp
   have hpj : ∀ ρ'',Agree s1.F.bl ρ' ρ'' → ρ'' jl = .pointer (some ⟨l,0,none⟩):=fun ρ'' ha=>((h2 ρ'' ha).names jl hjl).trans (if_pos rfl)
   have back : ∀ (s : LoopState) (pe : Option Code),look s1.bl jl = some (.obj (ob s pe)) → Rel C (AState.F ⟨st.sl,(jl,.dead) :: s1.bl,nx⟩) ρ' M2 { a with defers:=[{ target:=.collected w.heap.size,args:=#[] }] ++ a.defers } (w2.putObj l (ob .exhausted pe)):=by
    intro s pe hjs ρ'' ha
    have ha2 : Agree s1.F.bl ρ' ρ'':=fun k hk=>ha k (by
     show look ((jl,Ob.dead) :: s1.bl) k ≠ none
     rw [au]
     by_cases e : jl = k
     ·rw [if_pos e];simp
     ·rw [if_neg e];exact hk)
    have hW:=h2 ρ'' ha2
    have hst : Agree (look st.bl) ρ ρ'':=fun k hk=>by
     have hne : k ≠ jl:=fun e=>hk (e ▸ hj)
     rw [hW.names k (by show look ((jl,Ob.obj (ob .ready none)) :: st.bl) k ≠ none;rw [au,if_neg (fun e=>hne e.symm)];exact hk)]
     exact if_neg hne
    have h1:=hr ρ'' hst
    have hle2 : M1.le M2:=hW.base
    have hb':=hW.objSet (bl':=look ((jl,.dead) :: s1.bl)) hjs (hpj ρ'' ha2) (o':=ob .exhausted pe) kV (by show C.w0.heap.size ≤ l;omega) (fun k o hk=>by
     rw [au] at hk
     by_cases e : jl = k
     ·rw [if_pos e] at hk;cases hk;exact .inl rfl
     ·rw [if_neg e] at hk;exact .inr (.inl ⟨hk,fun e'=>e e'.symm⟩))
    refine ⟨⟨List.nodup_cons.2 ⟨fun hm=>?_,h1.defers.nd⟩,fun d hd=>?_⟩,h1.size,fun s v hv=>(h1.slots s v hv).mono (hle1.trans hle2),⟨hb'.inv,hb'.dist,hb'.priv,hb'.mem,(h1.heap.base.trans hle1).trans hle2,fun b hbb hg'=>?_,hb'.kept,h1.heap.names,hb'.junkP⟩⟩
    ·obtain ⟨D',e1,e2,_⟩:=h1.defers.all _ hm
     cases e1
     rw [hnone] at e2;cases e2
    ·rcases List.mem_cons.1 hd with rfl | hd
     ·refine ⟨w.heap.size,rfl,hle2.obj _ _ (jb _ _ _),hold,?_⟩
      cases hm0 : C.M0.obj w.heap.size with
      | none=>rfl
      | some o=>have:=h0.heap.base.obj _ _ hm0;rw [hnone] at this;cases this
     ·obtain ⟨D',e1,e2,e3,e4⟩:=h1.defers.all d hd
      exact ⟨D',e1,(hle1.trans hle2).obj _ _ e2,e3,e4⟩
    ·obtain ⟨k1,k2⟩:=hb'.fresh b hbb hg'
     obtain ⟨k3,k4⟩:=h1.heap.fresh b hbb hg'
     have k5 : M1.obj b = M.obj b:=cb (by have : b < C.w0.heap.size:=hbb;omega)
     exact ⟨fun o=>(k1 o).trans (k3 o),k2.trans (k5.trans k4)⟩
   have hw2 : ∀ (s : LoopState) (pe : Option Code),look s1.bl jl = some (.obj (ob s pe)) → w2.heap[l]? = some (ob s pe):=fun s pe hjs=>by
    have:=((h2 ρ' (Agree.refl _ _)).inv jl _ hjs).1
    rw [hpj ρ' (Agree.refl _ _)] at this
    exact this
   rcases hq with ⟨hjs,hq⟩ | ⟨e',c,ho,hjs,hq⟩
   ·exact ⟨none,_,run_endLoop (hw2 _ _ hjs) (by simp),⟨_,ρ',M2,back _ _ hjs,hq⟩⟩
   ·refine ⟨some c,_,run_endLoop (hw2 _ _ hjs) (by simp),?_⟩
    have hsem : sem C Q e' { a with defers:=[{ target:=.collected w.heap.size,args:=#[] }] ++ a.defers } (w2.putObj l (ob .exhausted (some c))):=⟨_,ρ',M2,back _ _ hjs,hq⟩
    cases e' with
    | ret=>cases ho;exact wpIn_ret hsem
    | exit id=>cases ho;exact wpIn_exit hsem
    | _=>cases ho
  rcases he with rfl | rfl
  ·exact fin
  ·exact fin
theorem pv {jl:Nat} {o:Ob} {bl:List (Nat×Ob)}:∀ k,look bl k≠none→look ((jl,o) :: bl) k≠none:=fun k hk=>by
 rw [au]
 by_cases e:jl=k
 ·rw [if_pos e];simp
 ·rw [if_neg e];exact hk
theorem pu {jl:Nat} {o:Ob} {bl:List (Nat×Ob)}:look ((jl,o) :: bl) jl≠none:=by rw [au,if_pos rfl];simp
end Go.E2
end
section
namespace Go.E2
variable {P:Program} {C:Ctx} {F:FS} {ops:Array Oper} {dst:Nat} {op:Op} {ty:TypeId} {pos:String} {after:Array Edge}
theorem zA {α:Type} {enc:α→List D} (X:List α) {j:Nat} {t e sz len:Nat} {parts:Array (Nat×Operand)} {ps:List A1} {z:List Value} {cs:List Cell} (hps:rds F (parts.toList.map (·.2))=some ps) (ht:slInfo P t=some (e,sz)) (hz:zeroCells P e=some z) (h24:Nat.ble (len*sz) 16777216=true)
  (hf:fillA (fun i=>some (i*sz,sz)) ((zlist z (len*sz)).map zcell) (parts.toList.map (·.1)) ps=some cs) {rows:List (List D)} (hrows:X.map enc=rows) (hD:rowD cs=some rows.flatten) (hX:X.length=len) (hsz:allR sz enc) (hs:sideOk F true (parts.toList.map (·.2))) (hd:Nat.blt dst C.n=true) (hj:F.bl j=none) :
  TriL P C ops ⟨some dst,.buildSlice t len parts,ty,pos,after,none⟩ ⟨slotsOf (parts.toList.map (·.2)),[j],[dst],[j]⟩ [(dst,.s (.c (.own j)))] [(j,.vec sz (X.map enc))] F:=by
 subst hrows
 refine ⟨⟨rfl,rfl⟩,fun F' hS=>?_⟩
 have h1:=aG hS.1
 have hps':=(fy h1).trans hps
 have hs':=aC h1 hs
 refine Tri.val [j] rfl rfl hd (fun k hk=>by simp at hk;subst hk;exact (hS.2 k (by simp)).trans hj) (fun k hk=>cJ hk) (fun k hk=>by simp at hk;subst hk;rw [bP,if_pos rfl];simp) (fun ρ M a w hr=>?_)
 have hR:=aR hr rfl hs'
 obtain ⟨vs,g1,g2⟩:=ka (P:=P) ht hz h24 hf (iw hR hps') w
 refine ⟨.slice (some ⟨w.heap.size,0,none⟩) len len,w.alloc (.cells vs.toArray e),M,fun _=>.slice (some ⟨w.heap.size,0,none⟩) len len,?_,Mem.le_refl _,fun ρ' h0' hnv=>?_⟩
 ·unfold execOp
  simp only
  rw [kG]
  exact aA g1
 ·have hnj:=hnv j (by simp)
  have hrep:=iW hD g2
  refine ⟨hnj.symm,h0'.heap.allocO ?_ (fun b hb=>?_)⟩
  ·rw [hnj]
   rw [show (Value.slice (some ⟨w.heap.size,0,none⟩) len len)=.slice (some ⟨w.heap.size,0,none⟩) X.length len by rw [hX]]
   have hlen:vs.length=len*sz:=by rw [hrep.len,a6 (aO hsz X),List.length_map,hX]
   refine nM (vs:=vs) hsz (by rw [hX];exact Nat.le_refl _) (fe _ _) (by simp [hlen]) (fun o=>(h0'.heap.mem.none (Nat.le_refl _)).1 o) hrep (fun k u hk=>?_)
   rw [Nat.zero_add];simpa using hk
  ·rw [hnj] at hb
   simp only [Ob.blkOf] at hb
   split at hb
   ·cases hb;exact Nat.le_refl _
   ·cases hb
end Go.E2
end
section
namespace Go.E2
variable {P:Program} {C:Ctx} {F:FS} {ops:Array Oper} {dst:Nat} {op:Op} {ty:TypeId} {pos:String} {after:Array Edge}
theorem mK {t e sz:Nat} {a:Option Addr} {len cap lo hi:Nat} {ol oh:Option Value} (ht:slInfo P t=some (e,sz)) (hl:Bnd ol 0 lo) (hh:Bnd oh len hi) (h1:lo≤hi) (h2:hi≤len) (hc:len≤cap) (w:World) :
  (Instr.sliceAt t (.slice a len cap) ol oh none).run P w=.ok (.slice (if cap=lo then a else a.map (·.add (lo*sz))) (hi - lo) (cap - lo)) w:=by
 have hb:(Instr.sliceBounds true len cap ol oh none).run P w=.ok (lo,hi,cap) w:=by
  unfold Instr.sliceBounds
  simp only [pure_bind]
  rcases hh with ⟨rfl,e0⟩ | ⟨k,rfl⟩
  ·have e1:hi=len:=by omega
   subst e1
   rcases hl with ⟨rfl,e2⟩ | ⟨k',rfl⟩
   ·have:lo=0:=by omega
    subst this;rfl
   ·simp only
    rw [ag (bJ (by omega) (by omega) w)]
    rfl
  ·simp only
   rw [ag (bJ (by omega) (by omega) w)]
   rcases hl with ⟨rfl,e2⟩ | ⟨k',rfl⟩
   ·have:lo=0:=by omega
    subst this;rfl
   ·simp only
    rw [ag (bJ (by omega) (by omega) w)]
    rfl
 have hu:=bt ht w
 unfold Instr.sliceAt
 rw [ag hu]
 simp only
 unfold Instr.slice
 rw [ag hu]
 simp only
 rw [ag hb]
 simp only
 rw [ag (bM ht w)]
 rfl
theorem ux {α:Type} {enc:α→List D} {L:List α} {t e sz j j':Nat} {x hi:Operand} {k:IntKind} {i:Int} {n:Nat} (hi0:ixO (L.length+1) i=some n) (hx:opnd F x=some (.s (.c (.own j)))) (hj:F.bl j=some (.vec sz (L.map enc))) (hh:rdV F hi=some (.int k i)) (ht:slInfo P t=some (e,sz)) (hsz:allR sz enc) (hs:sideOk F true [x,hi]) (hd:Nat.blt dst C.n=true) (hj':F.bl j'=none) :
  TriL P C ops ⟨some dst,.slice t x none (some hi) none,ty,pos,after,none⟩ ⟨slotsOf [x,hi],[j,j'],[dst],[j',j]⟩ [(dst,.s (.c (.tl j' ((L.take n).map enc))))] [(j',.tail sz),(j,.dead)] F:=by
 obtain ⟨rfl,hn⟩:=e9 hi0
 refine ⟨⟨rfl,rfl⟩,fun F' hS=>?_⟩
 have h1:=aG hS.1
 have hx':=(h1 x (by simp)).trans hx
 have hj1:F'.bl j=some (.vec sz (L.map enc)):=(hS.2 j (by simp)).trans hj
 have hj2:F'.bl j'=none:=(hS.2 j' (by simp)).trans hj'
 have hne:j'≠j:=fun e=>by subst e;rw [hj1] at hj2;cases hj2
 refine Tri.val [j'] rfl rfl hd (fun k hk=>by simp at hk;subst hk;exact hj2) (fun k hk=>cJ hk) (fun k hk=>by simp at hk;subst hk;simp [over,look]) (fun ρ M a w hr=>?_)
 have hR:=aR hr rfl (aC h1 hs)
 have ex:a.eval x=ρ j:=aU hr hx'
 have eh:a.eval hi=.int k n:=a7 hR (by simp) ((ba (h1 hi (by simp))).trans hh)
 obtain ⟨ad,cap,e1,hc,hx2⟩:=dF (hr.heap.inv j _ hj1)
 have hrun:∀ u,u=Value.slice ad n cap→(execOp a.eval ⟨some dst,.slice t x none (some hi) none,ty,pos,after,none⟩).run P w=.ok (.value u) w:=fun u hu=>by
  subst hu
  unfold execOp
  simp only
  refine aA ?_
  have:=mK (P:=P) (a:=ad) (len:=L.length) (cap:=cap) (lo:=0) (hi:=n) (ol:=none) (oh:=some (.int k n)) ht (.inl ⟨rfl,rfl⟩) (.inr ⟨k,rfl⟩) (Nat.zero_le _) (by omega) hc w
  rw [ex,e1]
  simp only [Option.map_none,Option.map_some,eh]
  rw [this]
  congr 2
  by_cases h0:cap=0
  ·simp [h0]
  ·rw [if_neg h0]
   cases ad with
   | none=>rfl
   | some ad=>obtain ⟨b,o,s⟩:=ad;simp [Addr.add]
 have hov:∀ k' ob,over [(j',Ob.tail sz),(j,Ob.dead)] F'.bl k'=some ob→(k'=j'∧ob=.tail sz)∨ob=.dead∨(k'≠j∧F'.bl k'=some ob):=fun k' ob hk'=>by
  unfold over at hk'
  rw [au,au] at hk'
  by_cases q1:j'=k'
  ·subst q1;rw [if_pos rfl] at hk';cases hk';exact .inl ⟨rfl,rfl⟩
  ·rw [if_neg q1] at hk'
   by_cases q2:j=k'
   ·subst q2;rw [if_pos rfl] at hk';cases hk';exact .inr (.inl rfl)
   ·rw [if_neg q2] at hk'
    exact .inr (.inr ⟨fun e=>q2 e.symm,hk'⟩)
 by_cases hcap:0<cap
 ·obtain ⟨b,off,arr,ty',vs,rfl,g1,g2,g3,g4,g5⟩:=hx2 hcap
  have hvl:vs.length=L.length*sz:=by rw [g4.len,a6 (aO hsz L),List.length_map]
  have hns:n*sz≤L.length*sz:=Nat.mul_le_mul_right sz (by omega)
  have hns2:L.length*sz≤cap*sz:=Nat.mul_le_mul_right sz hc
  have hle:M.le (M.put b off (vs.take (n*sz))):=dP (fun o _=>g3 o)
  have hnl:(L.take n).length=n:=by simp;omega
  have hrep:Rep (M.put b off (vs.take (n*sz))) (.sl ((L.take n).map enc)) (.slice (some ⟨b,off,none⟩) n cap):=by
   have:=dO (M:=M.put b off (vs.take (n*sz))) (l:=(L.take n).map enc) (b:=b) (off:=off) (cap:=cap) (sz:=sz) (vs:=vs.take (n*sz)) (by rw [List.length_map,hnl];omega) (aO hsz _) (by
    rw [List.map_take,fO (sz:=sz) _ (aO hsz L)]
    exact (g4.mono hle).take _) (fun k u hk=>fv hk)
   rwa [List.length_map,hnl] at this
  refine ⟨_,w,M.put b off (vs.take (n*sz)),fun _=>.slice (some ⟨b,off,none⟩) n cap,hrun _ rfl,hle,fun ρ' h0 hnv=>⟨⟨(hnv j' (by simp)).symm,hrep⟩,?_⟩⟩
  have hj3:ρ' j'=.slice (some ⟨b,off,none⟩) n cap:=hnv j' (by simp)
  have ex':a.eval x=ρ' j:=aU h0 hx'
  have hρj:ρ' j=.slice (some ⟨b,off,none⟩) L.length cap:=by rw [← ex',ex,e1]
  have hown:(Ob.vec sz (L.map enc)).blkOf (ρ' j)=some b:=by rw [hρj];simp [Ob.blkOf,hcap]
  refine h0.heap.change j' (fun x=>x=b) ?_ ⟨rfl,rfl,rfl,Nat.le_refl _⟩ (fun _ _ _=>rfl) hle (fun x _ hx=>⟨fun o=>cP hx,rfl⟩) ?_ ?_ (fun x hx=>by rw [hx];exact h0.heap.noJunk hj1 hown)
  ·rintro x rfl _
   exact h0.heap.priv j _ _ hj1 hown
  ·rintro x hx
   refine ⟨fun o v hv=>?_,fun o ho=>h0.heap.mem.obj x o ho⟩
   by_cases hxb:x=b
   ·subst hxb
    rcases gT hv with ⟨h2,h3⟩ | h3
    ·rw [List.getElem?_take] at h3
     split at h3
     ·have:=g5 _ _ h3
      simp only [World.cell?,g1]
      rw [show off+(o - off)=o by omega] at this
      simpa using this
     ·cases h3
    ·rw [g3 o] at h3;cases h3
   ·rw [cP hxb] at hv;exact h0.heap.mem.cell x o v hv
  ·intro k' ob hk'
   rcases hov k' ob hk' with ⟨rfl,rfl⟩ | rfl | ⟨hkj,hk2⟩
   ·refine .inr (.inr ⟨rfl,?_,fun x hx=>.inl ?_⟩)
    ·rw [hj3]
     refine ⟨_,_,_,rfl,by omega,fun hlt=>⟨b,off,arr,ty',rfl,g1,g2,fun o ho=>?_⟩⟩
     simp only [Mem.put]
     rw [if_neg (by rw [List.length_take];omega)]
     exact g3 o
    ·rw [hj3] at hx
     simp only [Ob.blkOf] at hx
     split at hx
     ·cases hx;rfl
     ·cases hx
   ·exact .inl rfl
   ·refine .inr (.inl ⟨hk2,fun x hxb hS'=>?_⟩)
    subst hS'
    exact hkj (h0.heap.dist k' j _ _ _ hk2 hj1 hxb hown)
 ·have hL:L=[]:=List.eq_nil_of_length_eq_zero (by omega)
  subst hL
  have hn0:n=0:=by simpa using hn
  subst hn0
  have hcap0:cap=0:=by omega
  subst hcap0
  refine ⟨_,w,M,fun _=>.slice ad 0 0,hrun _ rfl,Mem.le_refl _,fun ρ' h0 hnv=>⟨⟨(hnv j' (by simp)).symm,Rep.nil⟩,?_⟩⟩
  have hj3:ρ' j'=.slice ad 0 0:=hnv j' (by simp)
  refine h0.heap.change j' (fun _=>False) (fun _ h=>h.elim) ⟨rfl,rfl,rfl,Nat.le_refl _⟩ (fun _ _ _=>rfl) (Mem.le_refl _) (fun _ _ _=>⟨fun _=>rfl,rfl⟩) (fun b _=>⟨fun o v hv=>h0.heap.mem.cell b o v hv,fun o ho=>h0.heap.mem.obj b o ho⟩) (fun k' ob hk'=>?_)
  rcases hov k' ob hk' with ⟨rfl,rfl⟩ | rfl | ⟨hkj,hk2⟩
  ·refine .inr (.inr ⟨rfl,?_,fun x hx=>?_⟩)
   ·rw [hj3];exact ⟨_,_,_,rfl,Nat.le_refl _,fun h=>absurd h (by simp)⟩
   ·rw [hj3] at hx
    cases ad with
    | none=>cases hx
    | some ad=>simp [Ob.blkOf] at hx
  ·exact .inl rfl
  ·exact .inr (.inl ⟨hk2,fun _ _ h=>h⟩)
theorem Rel.putNone {sl:List (Nat×AV)} {bl:Nat→Option Ob} {ρ:Env} {M:Mem} {a:Act} {w:World} {d:Nat} {u:Value} (hr:Rel C ⟨look sl,bl⟩ ρ M a w) (hd:look sl d=none):Rel C ⟨look sl,bl⟩ ρ M (a.put (some d) u) w:=by
 intro ρ' ha
 have h0:=hr ρ' ha
 refine ⟨h0.defers,by simpa [Act.put] using h0.size,fun s v hv=>?_,h0.heap⟩
 have hne:d≠s:=fun e=>by subst e;rw [show (FS.mk (look sl) bl).sl d=look sl d from rfl,hd] at hv;cases hv
 rw [nl hne];exact h0.slots s v hv
theorem wo {t e m cap b off:Nat} {ty:TypeId} {w w':World} {zv:Value} (hut:(underlying t).run P w=.ok (.slice e) w) (hzv:(zeroValue e).run P w=.ok zv w) (hst:(storeCells ⟨b,off,none⟩ (Builtin.zeroCells zv.cells (m+1)).toList).run P w=.ok () w') :
  (Builtin.clear_ #[t] ty #[.slice (some ⟨b,off,none⟩) (m+1) cap]).run P w=.ok (.tuple #[]) w':=by
 refine (ag hut).trans ?_
 refine (ag hzv).trans ?_
 refine (ag hst).trans ?_
 rfl
theorem ow {α:Type} {enc:α→List D} {L:List α} {t e sz j d:Nat} {x lo:Operand} {k:IntKind} {i:Int} {n:Nat} {z:List Value} {sl:List (Nat×AV)} {bl:List (Nat×Ob)} {nx:Nat} {rest:List Oper} {Q:AState→Prop} {ty2:TypeId} {pos2:String} {after2:Array Edge} (zr:α)
  (hi0:ixO (L.length+1) i=some n) (hx:opnd ⟨look sl,look bl⟩ x=some (.s (.c (.own j)))) (hj:look bl j=some (.vec sz (L.map enc))) (hlo:rdV ⟨look sl,look bl⟩ lo=some (.int k i)) (ht:slInfo P t=some (e,sz)) (hz:zeroCells P e=some z) (hzr:enc zr=z.map D.v) (hzm:(z.all notMany&&!z.isEmpty)=true) (hsz:allR sz enc) (hs:sideOk ⟨look sl,look bl⟩ true [x,lo]) (hd:look sl d=none) (hdn:Nat.blt d C.n=true)
  (h:OkOps P C ops rest Q ⟨sl,(j,.vec sz ((L.take n++List.replicate (L.length - n) zr).map enc)) :: bl,nx⟩) :
  OkOps P C ops (⟨some d,.slice t x (some lo) none none,ty,pos,after,none⟩ :: ⟨none,.call ⟨.builtin .clear,#[.tmp d],#[t]⟩,ty2,pos2,after2,none⟩ :: rest) Q ⟨sl,bl,nx⟩:=by
 obtain ⟨rfl,hn⟩:=e9 hi0
 intro Q' hQ ρ M a w hr
 have hr0:=hr.at
 have hR:=aR hr0 rfl hs
 have ex:a.eval x=ρ j:=aU hr0 hx
 have eh:a.eval lo=.int k n:=a7 hR (by simp) hlo
 obtain ⟨ad,cap,e1,hc,hx2⟩:=dF (hr0.heap.inv j _ hj)
 have hze:∃ zv,(zeroValue e).run P w=.ok zv w∧zv.cells=z.toArray:=eH hz w
 obtain ⟨zv,hzv,hzc⟩:=hze
 have hzl:z.length=sz:=by have:=hsz zr;rw [hzr,List.length_map] at this;exact this
 have hz0:z≠[]:=by
  intro e0;subst e0;simp at hzm
 -- the part
 have r1:(execOp a.eval ⟨some d,.slice t x (some lo) none none,ty,pos,after,none⟩).run P w=.ok (.value (.slice (if cap=n then ad else ad.map (·.add (n*sz))) (L.length - n) (cap - n))) w:=by
  unfold execOp
  simp only
  refine aA ?_
  have:=mK (P:=P) (a:=ad) (len:=L.length) (cap:=cap) (lo:=n) (hi:=L.length) (ol:=some (.int k n)) (oh:=none) ht (.inr ⟨k,rfl⟩) (.inl ⟨rfl,rfl⟩) (by omega) (Nat.le_refl _) hc w
  rw [ex,e1]
  simp only [Option.map_none,Option.map_some,eh]
  exact this
 unfold wpListIn
 rw [if_pos (cK rfl)]
 refine gl r1 ?_
 have hr2:=hr.putNone (u:=.slice (if cap=n then ad else ad.map (·.add (n*sz))) (L.length - n) (cap - n)) hd
 generalize ha1:a.put (some d) (.slice (if cap=n then ad else ad.map (·.add (n*sz))) (L.length - n) (cap - n))=a1 at hr2
 have ed:a1.eval (.tmp d)=.slice (if cap=n then ad else ad.map (·.add (n*sz))) (L.length - n) (cap - n):=by
  rw [← ha1]
  exact nn (by rw [hr0.size];exact Nat.blt_eq.mp hdn)
 unfold wpListIn
 rw [if_pos (cK rfl)]
 have hut:∀ w:World,(underlying t).run P w=.ok (.slice e) w:=fun w=>bt ht w
 by_cases hlt:n<L.length
 ·obtain ⟨b,off,arr,ty',vs,rfl,g1,g2,g3,g4,g5⟩:=hx2 (by omega)
  have hvl:vs.length=L.length*sz:=by rw [g4.len,a6 (aO hsz L),List.length_map]
  have hcs:L.length*sz≤cap*sz:=Nat.mul_le_mul_right sz hc
  have hsplit:n*sz+(L.length - n)*sz=L.length*sz:=by rw [← Nat.add_mul];congr 1;omega
  obtain ⟨us,hus⟩:∃ us,us=zlist z ((L.length - n)*z.length):=⟨_,rfl⟩
  have husl:us.length=(L.length - n)*sz:=by rw [hus,jh,hzl]
  have husm:∀ u∈us,notMany u=true:=by
   intro u hu
   rw [hus] at hu
   simp only [zlist,List.mem_map,List.mem_range] at hu
   obtain ⟨q,_,rfl⟩:=hu
   have hzp:0<z.length:=by cases z with | nil=>exact absurd rfl hz0 | cons _ _=>simp
   have h3:q % z.toArray.size<z.length:=by simpa using Nat.mod_lt q hzp
   rw [getElem!_pos z.toArray (q % z.toArray.size) (by simpa using h3)]
   have hall:=(Bool.and_eq_true_iff.1 hzm).1
   exact List.all_eq_true.1 hall _ (by simp)
  obtain ⟨w',q1,q2,q3,q4,q5,q6,q7⟩:=ca (P:=P) (b:=b) (off:=off+n*sz) (ty:=ty') us 0 w arr g1 husm (by omega)
  rw [Nat.add_zero] at q2
  have r2:(execOp a1.eval ⟨none,.call ⟨.builtin .clear,#[.tmp d],#[t]⟩,ty2,pos2,after2,none⟩).run P w=.ok (.value (.tuple #[])) w':=by
   unfold execOp
   simp only [resolve,List.map_toArray,List.map_cons,List.map_nil,pure_bind,invoke,ed]
   refine aA ?_
   rw [if_neg (by omega)]
   obtain ⟨m,hm⟩:∃ m,L.length - n=m+1:=⟨L.length - n - 1,by omega⟩
   rw [hm,show Option.map (fun x=>Addr.add x (n*sz)) (some (⟨b,off,none⟩:Addr))=some ⟨b,off+n*sz,none⟩ by rw [Option.map_some,d9]]
   refine wo (hut w) hzv ?_
   rw [hzc,show (Builtin.zeroCells z.toArray (m+1)).toList=us by rw [hus,hm];simp [Builtin.zeroCells,zlist,Array.toList_range]]
   exact q1
  refine gl r2 ?_
  refine h Q' hQ ρ M _ w' fun ρ' ha=>?_
  have h0:=hr2 ρ' (fun i hi=>ha i (by
   show look ((j,_) :: bl) i≠none
   rw [au];split
   ·simp
   ·exact hi))
  refine ⟨h0.defers,h0.size,fun s v hv=>h0.slots s v hv,?_⟩
  have hag:ρ' j=ρ j:=ha j (by show look ((j,_) :: bl) j≠none;rw [au,if_pos rfl];simp)
  have hown:(Ob.vec sz (L.map enc)).blkOf (ρ' j)=some b:=by rw [hag,e1];simp [Ob.blkOf];omega
  have hchg:=h0.heap.change (bl':=over [(j,.vec sz ((L.take n++List.replicate (L.length - n) zr).map enc))] (look bl)) (M':=M) (w':=w') j (fun x=>x=b) (by rintro x rfl _;exact h0.heap.priv j _ _ hj hown) ⟨q5,q6,q7,Nat.le_of_eq q4.symm⟩ (fun x _ hx=>q3 x hx) (Mem.le_refl _) (fun _ _ _=>⟨fun _=>rfl,rfl⟩) (by
   rintro x (rfl | hx)
   ·exact ⟨fun o v hv=>(by rw [g3 o] at hv;cases hv),fun o ho=>(by rw [h0.heap.mem.noObj g1] at ho;cases ho)⟩
   ·have:=h0.heap.mem.none hx
    exact ⟨fun o v hv=>(by rw [this.1 o] at hv;cases hv),fun o ho=>(by rw [this.2] at ho;cases ho)⟩) (by
   intro k' ob hk'
   rw [bP] at hk'
   split at hk'
   ·rename_i ek
    subst ek
    cases hk'
    refine .inr (.inr ⟨rfl,?_,fun x hx=>.inl (by rw [show (Ob.vec sz ((L.take n++List.replicate (L.length - n) zr).map enc)).blkOf (ρ' j)=(Ob.vec sz (L.map enc)).blkOf (ρ' j) by rw [hag,e1];rfl,hown] at hx;cases hx;rfl)⟩)
    rw [hag,e1]
    have hLl:(L.take n++List.replicate (L.length - n) zr).length=L.length:=by simp;omega
    rw [show (Value.slice (some ⟨b,off,none⟩) L.length cap)=.slice (some ⟨b,off,none⟩) (L.take n++List.replicate (L.length - n) zr).length cap by rw [hLl]]
    refine nM (vs:=vs.take (n*sz)++us) hsz (by rw [hLl];exact hc) q2 (by simp [fX];exact g2) g3 ?_ (fun q u hq=>?_)
    ·rw [List.map_append,List.map_take,List.flatten_append,fO (sz:=sz) _ (aO hsz L),List.map_replicate,hus]
     refine (g4.take _).append (pD ?_ hz0 _)
     rw [hzr]
     clear hus husl husm hzc hzl hz0 hzm hzr hz
     induction z with
     | nil=>trivial
     | cons u r ih=>exact ⟨Rep.v u,ih⟩
    ·rw [List.getElem?_toArray,fx us arr.toList (off+n*sz) (off+q) (by have:arr.toList.length=arr.size:=Array.length_toList;omega)]
     have htl:(vs.take (n*sz)).length=n*sz:=by rw [List.length_take];omega
     rcases Nat.lt_or_ge q (n*sz) with h2 | h2
     ·rw [List.getElem?_append_left (by omega),List.getElem?_take,if_pos h2] at hq
      rw [if_neg (by omega)]
      simpa using g5 q u hq
     ·rw [List.getElem?_append_right (by omega),htl] at hq
      have hql:=(List.getElem?_eq_some_iff.1 hq).1
      rw [if_pos (by omega),show off+q - (off+n*sz)=q - n*sz by omega];exact hq
   ·rename_i ek
    refine .inr (.inl ⟨hk',fun x hx hS'=>?_⟩)
    subst hS'
    exact ek ((h0.heap.dist k' j _ _ _ hk' hj hx hown).symm)) (fun x hx=>by rw [hx];exact h0.heap.noJunk hj hown)
  have eo:over [(j,Ob.vec sz ((L.take n++List.replicate (L.length - n) zr).map enc))] (look bl)=look ((j,Ob.vec sz ((L.take n++List.replicate (L.length - n) zr).map enc)) :: bl):=by
   rw [jv];rfl
  rw [eo] at hchg
  exact hchg
 ·have hnL:n=L.length:=by omega
  have r2:(execOp a1.eval ⟨none,.call ⟨.builtin .clear,#[.tmp d],#[t]⟩,ty2,pos2,after2,none⟩).run P w=.ok (.value (.tuple #[])) w:=by
   unfold execOp
   simp only [resolve,List.map_toArray,List.map_cons,List.map_nil,pure_bind,invoke,ed]
   refine aA ?_
   show (Builtin.clear_ _ _ _).run P w=_
   unfold Builtin.clear_
   rw [show L.length - n=0 by omega]
   refine (ag (hut w)).trans ?_
   cases (if cap=n then ad else ad.map (·.add (n*sz))) <;> rfl
  refine gl r2 ?_
  refine h Q' hQ ρ M _ w fun ρ' ha=>?_
  have h0:=hr2 ρ' (fun i hi=>ha i (by
   show look ((j,_) :: bl) i≠none
   rw [au];split
   ·simp
   ·exact hi))
  refine ⟨h0.defers,h0.size,fun s v hv=>h0.slots s v hv,?_⟩
  have eL:L.take n++List.replicate (L.length - n) zr=L:=by rw [hnL];simp
  rw [eL]
  have eo:look ((j,Ob.vec sz (L.map enc)) :: bl)=look bl:=by
   funext q;rw [au];split
   ·rename_i e;subst e;exact hj.symm
   ·rfl
  show RelW C (look ((j,Ob.vec sz (L.map enc)) :: bl)) ρ' M w
  rw [eo];exact h0.heap
def keptOk (F:FS):List (Nat×Ob)→Prop
 | []=>True
 | (k,o) :: r=>F.bl k=some o∧keptOk F r
theorem m9 {F F':FS}:∀ {Wb:List (Nat×Ob)},keptOk F Wb→(∀ k∈Wb.map (·.1),F'.bl k=F.bl k)→over Wb F'.bl=F'.bl
 | [],_,_=>bF _
 | (k,o) :: r,h,hs=>by
  have ih:=m9 h.2 (fun j hj=>hs j (by simp [hj]))
  funext n
  unfold over at ih ⊢
  rw [au]
  by_cases e:k=n
  ·subst e;rw [if_pos rfl];simp only;rw [hs k (by simp),h.1]
  ·rw [if_neg e];exact congrFun ih n
theorem TriL.keep {o:Oper} {rs rb ws wb:List Nat} {Ws:List (Nat×AV)} {Wb:List (Nat×Ob)} (h:TriL P C ops o ⟨rs,rb,ws,wb⟩ Ws Wb F) (hk:keptOk F Wb):TriL P C ops o ⟨rs,rb++Wb.map (·.1),ws,[]⟩ Ws [] F:=by
 refine ⟨⟨h.1.1,rfl⟩,fun F' hS=>?_⟩
 have h2:=h.2 F' ⟨hS.1,fun j hj=>hS.2 j (List.mem_append_left _ hj)⟩
 have e:F'.upd Ws Wb=F'.upd Ws []:=by
  unfold FS.upd
  rw [m9 hk (fun k hk'=>hS.2 k (List.mem_append_right _ hk')),bF]
 rw [← e];exact h2
theorem TriL.guard {op:Op} {gk d:Nat} {want g:Bool} {rs rb:List Nat} {x:A1} (hb:guardB F ops gk want=some g) (hn:Nat.blt d C.n=true) (h:g=true→TriL P C ops ⟨some d,op,ty,pos,after,none⟩ ⟨rs,rb,[d],[]⟩ [(d,.s x)] [] F) :
  TriL P C ops ⟨some d,op,ty,pos,after,some (gk,want)⟩ ⟨gSlot ops gk++rs,rb,[d],[]⟩ [(d,.gd g x)] [] F:=by
 refine ⟨⟨rfl,rfl⟩,fun F' hS=>?_⟩
 have hb':=(bS (want:=want) (fun t ht=>hS.1 t (by simp [ht]))).trans hb
 intro Q' K' hK ρ M a w hr
 cases g with
 | false =>
  rw [da hr.at rfl hb',if_neg (by simp)]
  refine hK ρ M _ _ fun ρ' ha=>?_
  have h0:=hr ρ' (fun j hj=>ha j (by rw [FS.upd,bF];exact hj))
  exact h0.put (v:=.gd false x) (Nat.blt_eq.mp hn) rfl (Mem.le_refl _) (by rw [bF];exact h0.heap)
 | true =>
  rw [da hr.at rfl hb',if_pos rfl]
  have h3:=(h rfl).2 F' ⟨fun t ht=>hS.1 t (List.mem_append_right _ ht),hS.2⟩ Q' K' (fun ρ1 M1 a1 w1 hr1=>hK ρ1 M1 a1 w1 (fun ρ' ha=>?_)) ρ M a w hr
  ·rw [if_pos (cK rfl)] at h3
   exact h3
  ·have h0:=hr1 ρ' ha
   refine ⟨h0.defers,h0.size,fun s v hv=>?_,h0.heap⟩
   simp only [FS.upd,bP] at hv
   split at hv
   ·cases hv
    exact h0.slots s (.s x) (by simp only [FS.upd,bP];rename_i e;rw [if_pos e])
   ·rename_i e
    exact h0.slots s v (by simp only [FS.upd,bP];rw [if_neg e];exact hv)
end Go.E2
end
section
namespace Go.E2
open Go.RowKit (Below)
variable {P:Program}
theorem InW.below {M:Mem} {w w':World} (h:InW M w) (hb:Below w.heap.size w w'):InW M w':=by
 refine ⟨fun b o v hc=>?_,fun b o ho=>?_,fun b s hs=>?_⟩
 ·have h1:=h.cell b o v hc
  have hl:=h.lt hc
  unfold World.cell? at h1 ⊢
  simp only at h1 ⊢
  rw [hb.block b hl];exact h1
 ·obtain ⟨h1,h2⟩:=h.obj b o ho
  exact ⟨(hb.block b (h.ltO ho)).trans h1,h2⟩
 ·obtain ⟨⟨arr,ty,h1,h2⟩,h3⟩:=h.junk b s hs
  exact ⟨⟨arr,ty,(hb.block b (h.ltJ hs)).trans h1,h2⟩,h3⟩
end Go.E2
end
section
set_option maxRecDepth 100000
namespace Go.Proofs.YtfoigppmcelgfaaGreatDoor
open Go Go.E2
theorem iQ (prop:Int) {r:Bool} (hr:cA prop=some r):Con Tryz.prog 181 [aI prop] [] (.s (aB r)) []:=by
 unfold cA at hr
 refine ap 9 0 [.tmp 2] [(0,.s (aI prop))] Tryz.func181 zz zz zz zz zz zz zz zz fun w g M ρ _=>(af (ac (aa (aB false) (ab (af (ac (aa (aI prop) (aa (aB (decide (prop≥0))) (aa (aB (decide (prop≥0))) (ae (ai (x:=aI prop) zz zz tv zz) (ae (ai (x:=aB (decide (prop<22))) zz zz ⟨fun h=>h,tv⟩ zz) (ae (bb zz zz (fun h=>h) zz) (aa (aB ((decide (prop≥0))&&(decide (prop<22)))) (ab (ao ?_)))))))))))))))
 obtain rfl:=sq hr
 exact ⟨_,zz,.inl zz,tv⟩
theorem iA (prop:Int) (p_n:Int) {r:Bool} (hr:bX prop p_n=some r):Con Tryz.prog 156 [aI prop,aI p_n] [] (.s (aB r)) []:=by
 unfold bX at hr
 refine ap 23 0 [.tmp 4] [(0,.s (aI prop)),(1,.s (aI p_n))] Tryz.func156 zz zz zz zz zz zz zz zz fun w g M ρ _=>(af (ac (aa (aB false) (ab (af (ac (aa (aI prop) ?_)))))))
 obtain ⟨x1,hx1,hr⟩:=bq hr
 refine ae (aL (tau []) (.s (aB x1)) [] (iQ _ hx1) zz ⟨.inl zz,tv⟩ tv xj tv) (aa (aB x1) (ae (ai (x:=aI p_n) zz zz tv zz) (ae (ai (x:=aI prop) zz zz tv zz) ?_)))
 obtain ⟨x2,hx2,hr⟩:=bq hr
 refine ae (uw (y:=x2) (fun hg=>cQ hx2 hg) (by kernel_rfl) zz zz zz ⟨fun h=>h,tv⟩ zz) (ae (ai (x:=.c (.pt [dI x2.2.1,dI x2.2.2.1,dI x2.2.2.2])) zz zz ⟨fun h=>h,tv⟩ zz) (ae (ai (x:=aI x2.2.1) zz zz ⟨fun h=>h,tv⟩ zz) (ae (ai (x:=aB (decide (p_n≥x2.2.1))) zz zz ⟨fun h=>h,⟨fun h=>h,tv⟩⟩ zz) (ae (bb zz zz (fun h=>h) zz) (aa (aB (x1&&(decide (p_n≥x2.2.1)))) (ae (ai (x:=aI p_n) zz zz tv zz) (ae (ai (x:=aI prop) zz zz tv zz) ?_)))))))
 obtain ⟨x3,hx3,hr⟩:=bq hr
 refine ae (uw (y:=x3) (fun hg=>cQ hx3 hg) (by kernel_rfl) zz zz zz ⟨fun h=>h,tv⟩ zz) (ae (ai (x:=.c (.pt [dI x3.2.2.1,dI x3.2.2.2])) zz zz ⟨fun h=>h,tv⟩ zz) (ae (ai (x:=aI x3.2.2.1) zz zz ⟨fun h=>h,tv⟩ zz) (ae (ai (x:=aB (decide (p_n≤x3.2.2.1))) zz zz ⟨fun h=>h,⟨fun h=>h,tv⟩⟩ zz) (ae (bb zz zz (fun h=>h) zz) (aa (aB ((x1&&(decide (p_n≥x2.2.1)))&&(decide (p_n≤x3.2.2.1)))) (ab (ao ?_)))))))
 obtain rfl:=sq hr
 exact ⟨_,zz,.inl zz,tv⟩
theorem oK  {r:(Nat→Int)} (hr:kj  = some r):Con Tryz.prog 50 [] [] (.s (.agg [cI (r 0),cI (r 1),cI (r 2),cI (r 3),cI (r 4),cI (r 5),cI (r 6),cI (r 7),cI (r 8),cI (r 9),cI (r 10),cI (r 11),cI (r 12),cI (r 13),cI (r 14),cI (r 15),cI (r 16),cI (r 17),cI (r 18),cI (r 19),cI (r 20),cI (r 21)])) []:=by
 unfold kj at hr
 refine ap 11 0 [.cell 0 96] [] Tryz.func50 zz zz zz zz zz zz zz zz fun w g M ρ _=>(af (ac (ak 0 (aw (j:=0) (cs:=([]++(arrC 22 (dInt .i64) (fun _=>0)++[]))) zz zz zz zz) (ab (af (ac (ak 0 (aw (j:=1) (cs:=([]++(arrC 22 (dInt .i64) (fun _=>0)++[]))) zz zz zz zz) (ab (af (ac (aa (.c (.loc 1 1)) (aq (al (cs':=([]++(arrC 22 (dInt .i64) (upd (fun _=>0) 1 (-1))++[]))) zz zz zz zz zz zz zz zz zz) (ab (af (ac ?_)))))))))))))))
 refine aa (.c (.loc 1 2)) (aq (al (cs':=([]++(arrC 22 (dInt .i64) (upd (upd (fun _=>0) 1 (-1)) 2 16)++[]))) zz zz zz zz zz zz zz zz zz) (ab (af (ac (aa (.c (.loc 1 5)) (aq (al (cs':=([]++(arrC 22 (dInt .i64) (upd (upd (upd (fun _=>0) 1 (-1)) 2 16) 5 1)++[]))) zz zz zz zz zz zz zz zz zz) (ab (af (ac (aa (.c (.loc 1 6)) (aq (al (cs':=([]++(arrC 22 (dInt .i64) (upd (upd (upd (upd (fun _=>0) 1 (-1)) 2 16) 5 1) 6 3)++[]))) zz zz zz zz zz zz zz zz zz) (ab (af (ac (aa (.c (.loc 1 11)) ?_)))))))))))))))
 refine aq (al (cs':=([]++(arrC 22 (dInt .i64) (upd (upd (upd (upd (upd (fun _=>0) 1 (-1)) 2 16) 5 1) 6 3) 11 1)++[]))) zz zz zz zz zz zz zz zz zz) (ab (af (ac (aa (.c (.loc 1 12)) (aq (al (cs':=([]++(arrC 22 (dInt .i64) (upd (upd (upd (upd (upd (upd (fun _=>0) 1 (-1)) 2 16) 5 1) 6 3) 11 1) 12 (-1))++[]))) zz zz zz zz zz zz zz zz zz) (ab (af (ac (aa (.c (.loc 1 14)) (aq (al (cs':=([]++(arrC 22 (dInt .i64) (upd (upd (upd (upd (upd (upd (upd (fun _=>0) 1 (-1)) 2 16) 5 1) 6 3) 11 1) 12 (-1)) 14 1048576)++[]))) zz zz zz zz zz zz zz zz zz) (ab (af (ac (aa (.c (.loc 1 16)) (aq (al (cs':=([]++(arrC 22 (dInt .i64) (upd (upd (upd (upd (upd (upd (upd (upd (fun _=>0) 1 (-1)) 2 16) 5 1) 6 3) 11 1) 12 (-1)) 14 1048576) 16 1048576)++[]))) zz zz zz zz zz zz zz zz zz) ?_)))))))))))))))
 refine ab (af (ac (aa (.agg [cI ((upd (upd (upd (upd (upd (upd (upd (upd (fun _=>0) 1 (-1)) 2 16) 5 1) 6 3) 11 1) 12 (-1)) 14 1048576) 16 1048576) 0),cI ((upd (upd (upd (upd (upd (upd (upd (upd (fun _=>0) 1 (-1)) 2 16) 5 1) 6 3) 11 1) 12 (-1)) 14 1048576) 16 1048576) 1),cI ((upd (upd (upd (upd (upd (upd (upd (upd (fun _=>0) 1 (-1)) 2 16) 5 1) 6 3) 11 1) 12 (-1)) 14 1048576) 16 1048576) 2),cI ((upd (upd (upd (upd (upd (upd (upd (upd (fun _=>0) 1 (-1)) 2 16) 5 1) 6 3) 11 1) 12 (-1)) 14 1048576) 16 1048576) 3),cI ((upd (upd (upd (upd (upd (upd (upd (upd (fun _=>0) 1 (-1)) 2 16) 5 1) 6 3) 11 1) 12 (-1)) 14 1048576) 16 1048576) 4),cI ((upd (upd (upd (upd (upd (upd (upd (upd (fun _=>0) 1 (-1)) 2 16) 5 1) 6 3) 11 1) 12 (-1)) 14 1048576) 16 1048576) 5),cI ((upd (upd (upd (upd (upd (upd (upd (upd (fun _=>0) 1 (-1)) 2 16) 5 1) 6 3) 11 1) 12 (-1)) 14 1048576) 16 1048576) 6),cI ((upd (upd (upd (upd (upd (upd (upd (upd (fun _=>0) 1 (-1)) 2 16) 5 1) 6 3) 11 1) 12 (-1)) 14 1048576) 16 1048576) 7),cI ((upd (upd (upd (upd (upd (upd (upd (upd (fun _=>0) 1 (-1)) 2 16) 5 1) 6 3) 11 1) 12 (-1)) 14 1048576) 16 1048576) 8),cI ((upd (upd (upd (upd (upd (upd (upd (upd (fun _=>0) 1 (-1)) 2 16) 5 1) 6 3) 11 1) 12 (-1)) 14 1048576) 16 1048576) 9),cI ((upd (upd (upd (upd (upd (upd (upd (upd (fun _=>0) 1 (-1)) 2 16) 5 1) 6 3) 11 1) 12 (-1)) 14 1048576) 16 1048576) 10),cI ((upd (upd (upd (upd (upd (upd (upd (upd (fun _=>0) 1 (-1)) 2 16) 5 1) 6 3) 11 1) 12 (-1)) 14 1048576) 16 1048576) 11),cI ((upd (upd (upd (upd (upd (upd (upd (upd (fun _=>0) 1 (-1)) 2 16) 5 1) 6 3) 11 1) 12 (-1)) 14 1048576) 16 1048576) 12),cI ((upd (upd (upd (upd (upd (upd (upd (upd (fun _=>0) 1 (-1)) 2 16) 5 1) 6 3) 11 1) 12 (-1)) 14 1048576) 16 1048576) 13),cI ((upd (upd (upd (upd (upd (upd (upd (upd (fun _=>0) 1 (-1)) 2 16) 5 1) 6 3) 11 1) 12 (-1)) 14 1048576) 16 1048576) 14),cI ((upd (upd (upd (upd (upd (upd (upd (upd (fun _=>0) 1 (-1)) 2 16) 5 1) 6 3) 11 1) 12 (-1)) 14 1048576) 16 1048576) 15),cI ((upd (upd (upd (upd (upd (upd (upd (upd (fun _=>0) 1 (-1)) 2 16) 5 1) 6 3) 11 1) 12 (-1)) 14 1048576) 16 1048576) 16),cI ((upd (upd (upd (upd (upd (upd (upd (upd (fun _=>0) 1 (-1)) 2 16) 5 1) 6 3) 11 1) 12 (-1)) 14 1048576) 16 1048576) 17),cI ((upd (upd (upd (upd (upd (upd (upd (upd (fun _=>0) 1 (-1)) 2 16) 5 1) 6 3) 11 1) 12 (-1)) 14 1048576) 16 1048576) 18),cI ((upd (upd (upd (upd (upd (upd (upd (upd (fun _=>0) 1 (-1)) 2 16) 5 1) 6 3) 11 1) 12 (-1)) 14 1048576) 16 1048576) 19),cI ((upd (upd (upd (upd (upd (upd (upd (upd (fun _=>0) 1 (-1)) 2 16) 5 1) 6 3) 11 1) 12 (-1)) 14 1048576) 16 1048576) 20),cI ((upd (upd (upd (upd (upd (upd (upd (upd (fun _=>0) 1 (-1)) 2 16) 5 1) 6 3) 11 1) 12 (-1)) 14 1048576) 16 1048576) 21)]) (aq (al (cs':=([]++(arrC 22 (dInt .i64) (upd (upd (upd (upd (upd (upd (upd (upd (fun _=>0) 1 (-1)) 2 16) 5 1) 6 3) 11 1) 12 (-1)) 14 1048576) 16 1048576)++[]))) zz zz zz zz zz zz zz zz (by kernel_rfl)) (ab (ao ?_))))))
 obtain rfl:=sq hr
 exact ⟨_,zz,.inl zz,tv⟩
end Go.Proofs.YtfoigppmcelgfaaGreatDoor
end
section
set_option maxRecDepth 100000
namespace Go.Proofs.YtfoigppmcelgfaaGreatDoor
open Go Go.E2
theorem pK (l:(List Attr)) (name:Str) {r:AValue×Bool} (hr:lw l name=some r):Con Tryz.prog 84 [aV (((lM Attr.cs l))),aS name] [] (.tup [.agg [cI r.1.Kind,cI r.1.N,cS r.1.S,dV ((lM AValue.cs r.1.L))],aB r.2]) []:=by
 unfold lw at hr
 refine ap 23 0 [.cell 4 53,.tmp 5] [(0,.s (aV (((lM Attr.cs l))))),(1,.s (aS name))] Tryz.func84 zz zz zz zz zz zz zz zz fun w g M ρ _=>(af (ac (ak 0 (aw (j:=0) (cs:=[cI 0,cI 0,cS ByteArray.empty,.d (.v (.slice none 0 0))]) zz zz zz zz) (aa (aB false) (ab ?_)))))
 obtain ⟨k2,hk2,hr⟩:=ax hr
 refine ay (fun (s1:Unit)=>⟨[(4,.s (.c (.loc 0 0)))],[(0,.blk [cI 0,cI 0,cS ByteArray.empty,.d (.v (.slice none 0 0))] 53)],0⟩) k2 r (fun s1 hr=>?_) ?_
 rw [hk2] at hr
 refine af (ac (aa (.agg [cI 0,cI 0,cS ByteArray.empty,.d (.v (.slice none 0 0))]) (aq (al (cs':=[cI 0,cI 0,cS ByteArray.empty,.d (.v (.slice none 0 0))]) zz zz zz zz zz zz zz zz zz) (aa (aB false) (ab (ao ?_))))))
 obtain rfl:=sq hr
 exact ⟨_,zz,.inr zz,tv⟩
 clear hk2
 refine af (ac (aa (aV (((lM Attr.cs l)))) (ae (aK (enc:=Attr.cs) l zz zz tv zz) (aa (aI 0) (ab (am (az (fun (s3:Int)=>⟨[(1,.s (aS name)),(4,.s (.c (.loc 0 0))),(8,.s (aV (((lM Attr.cs l))))),(9,.s (aI (l.length:Int))),(10,.s (aI s3))],[(0,.blk [cI 0,cI 0,cS ByteArray.empty,.d (.v (.slice none 0 0))] 53)],0⟩) hr (Conv.mk (tau []) ⟨cl zz,cl zz,cl zz,cl zz,cl zz,tv⟩ ⟨zz,tv⟩ zz zz zz zz) ?_)))))))
 clear hr
 intro again4 s3 hr
 unfold f9 at hr
 refine af (ac (aa (aB (decide (s3<(l.length:Int)))) (ab (af ?_))))
 refine ah (b:=decide (s3<(l.length:Int))) zz (fun h5=>?_) (fun h5=>?_)
 have hr:=selT h5 hr
 refine aj (af (am (af (ac ?_))))
 obtain ⟨x6,hx6,hr⟩:=bq hr
 refine ae (aM (enc:=Attr.cs) (L:=l) (row:=[dS x6.Name,dI x6.Value.Kind,dI x6.Value.N,dS x6.Value.S,.sl (lM AValue.cs x6.Value.L)]) hx6 zz zz zz zz (fun _=>zz) tv zz) (aa (.agg [cS x6.Name,cI x6.Value.Kind,cI x6.Value.N,cS x6.Value.S,dV ((lM AValue.cs x6.Value.L))]) (ak 0 (aw (j:=1) (cs:=[cS ByteArray.empty,cI 0,cI 0,cS ByteArray.empty,.d (.v (.slice none 0 0))]) zz zz zz zz) (aq (al (cs':=[cS x6.Name,cI x6.Value.Kind,cI x6.Value.N,cS x6.Value.S,dV ((lM AValue.cs x6.Value.L))]) zz zz zz zz zz zz zz zz zz) (ab (af (ac (aa (.c (.loc 1 0)) (aa (aS x6.Name) (aa (aS name) (aa (aB (x6.Name.toList==name.toList)) (ab ?_)))))))))))
 refine ah (b:=x6.Name.toList==name.toList) zz (fun h7=>?_) (fun h7=>?_)
 have hr:=selT h7 hr
 refine af (ac (aa (.c (.loc 1 1)) (aa (.agg [cI x6.Value.Kind,cI x6.Value.N,cS x6.Value.S,dV ((lM AValue.cs x6.Value.L))]) ?_)))
 obtain ⟨x8,hx8,hr⟩:=bq hr
 refine ae (aL (tau []) (.s (.agg [cI x8.Kind,cI x8.N,cS x8.S,dV ((lM AValue.cs x8.L))])) [] (nK _ _ hx8) zz ⟨.inl zz,tv⟩ tv pq tv) (aq (al (cs':=[cI x8.Kind,cI x8.N,cS x8.S,dV ((lM AValue.cs x8.L))]) zz zz zz zz zz zz zz zz zz) (aa (aB true) (ab (ao ?_))))
 obtain rfl:=sq hr
 exact ⟨_,zz,.inl zz,tv⟩
 have hr:=selF h7 hr
 refine aj (ac (aa (aI (wq (s3+1))) (aa (aI (wq (s3+1))) (ab ?_))))
 exact ⟨wq (s3+1),hr,(Conv.mk (tau []) ⟨cl zz,cl zz,cl zz,cl zz,cl zz,tv⟩ ⟨zz,tv⟩ zz zz zz zz)⟩
 have hr:=selF h5 hr
 refine aE ?_
 exact ⟨(),hr,(Conv.mk (tau []) ⟨cl zz,tv⟩ ⟨zz,tv⟩ zz zz zz zz)⟩
theorem qR (l:(List Attr)) (name:Str) (other:Int) {r:Int} (hr:iF l name other=some r):Con Tryz.prog 44 [aV (((lM Attr.cs l))),aS name,aI other] [] (.s (aI r)) []:=by
 unfold iF at hr
 refine ap 21 0 [.tmp 6] [(0,.s (aV (((lM Attr.cs l))))),(1,.s (aS name)),(2,.s (aI other))] Tryz.func44 zz zz zz zz zz zz zz zz fun w g M ρ _=>(af (ac (aa (aI 0) (ab (af (af (ac (aa (aV (((lM Attr.cs l)))) (aa (aS name) ?_)))))))))
 obtain ⟨x1,hx1,hr⟩:=bq hr
 refine ae (aL (tau []) (.tup [.agg [cI x1.1.Kind,cI x1.1.N,cS x1.1.S,dV ((lM AValue.cs x1.1.L))],aB x1.2]) [] (pK _ _ hx1) zz ⟨.inl zz,.inl zz,tv⟩ tv vR tv) (ae (dk (v:=.tup [.agg [cI x1.1.Kind,cI x1.1.N,cS x1.1.S,dV ((lM AValue.cs x1.1.L))],aB x1.2]) zz zz) (aa (.agg [cI x1.1.Kind,cI x1.1.N,cS x1.1.S,dV ((lM AValue.cs x1.1.L))]) (aa (aB x1.2) (ak 0 (aw (j:=0) (cs:=[cI 0,cI 0,cS ByteArray.empty,.d (.v (.slice none 0 0))]) zz zz zz zz) (aq (al (cs':=[cI x1.1.Kind,cI x1.1.N,cS x1.1.S,dV ((lM AValue.cs x1.1.L))]) zz zz zz zz zz zz zz zz zz) (aa (aB x1.2) (ab (af (ac (aa (.c (.loc 0 0)) (aa (aI x1.1.Kind) (aa (aB (x1.1.Kind==1)) (ab ?_)))))))))))))
 refine ah (b:=x1.1.Kind==1) zz (fun h2=>?_) (fun h2=>?_)
 have hr:=selT h2 hr
 refine af (ac (aa (.c (.loc 0 1)) (aa (aI x1.1.N) (aa (aI x1.1.N) (ab (ao ?_))))))
 obtain rfl:=sq hr
 exact ⟨_,zz,.inl zz,tv⟩
 have hr:=selF h2 hr
 refine aj (af (ac (aa (aI other) (aa (aI other) (ab (ao ?_))))))
 obtain rfl:=sq hr
 exact ⟨_,zz,.inl zz,tv⟩
theorem mG (l:(List Attr)) (name:Str) {r:Bool} (hr:gr l name=some r):Con Tryz.prog 45 [aV (((lM Attr.cs l))),aS name] [] (.s (aB r)) []:=by
 unfold gr at hr
 refine ap 21 0 [.tmp 4] [(0,.s (aV (((lM Attr.cs l))))),(1,.s (aS name))] Tryz.func45 zz zz zz zz zz zz zz zz fun w g M ρ _=>(af (ac (aa (aB false) (ab (af (ac (aa (aV (((lM Attr.cs l)))) (aa (aS name) ?_))))))))
 obtain ⟨x1,hx1,hr⟩:=bq hr
 refine ae (aL (tau []) (.tup [.agg [cI x1.1.Kind,cI x1.1.N,cS x1.1.S,dV ((lM AValue.cs x1.1.L))],aB x1.2]) [] (pK _ _ hx1) zz ⟨.inl zz,.inl zz,tv⟩ tv vR tv) (ae (dk (v:=.tup [.agg [cI x1.1.Kind,cI x1.1.N,cS x1.1.S,dV ((lM AValue.cs x1.1.L))],aB x1.2]) zz zz) (aa (.agg [cI x1.1.Kind,cI x1.1.N,cS x1.1.S,dV ((lM AValue.cs x1.1.L))]) (aa (aB x1.2) (ak 0 (aw (j:=0) (cs:=[cI 0,cI 0,cS ByteArray.empty,.d (.v (.slice none 0 0))]) zz zz zz zz) (aq (al (cs':=[cI x1.1.Kind,cI x1.1.N,cS x1.1.S,dV ((lM AValue.cs x1.1.L))]) zz zz zz zz zz zz zz zz zz) (aa (aB x1.2) (ab (af (ac (aa (.c (.loc 0 0)) (aa (aI x1.1.Kind) (aa (aB (x1.1.Kind==2)) (aa (aB (x1.1.Kind==2)) (ae (ai (x:=.c (.loc 0 1)) zz zz tv zz) (ae (ai (x:=aI x1.1.N) zz zz ⟨fun h=>h,tv⟩ zz) ?_)))))))))))))))
 refine ae (ai (x:=aB (x1.1.N==1)) zz zz ⟨fun h=>h,tv⟩ zz) (ae (bb zz zz (fun h=>h) zz) (aa (aB ((x1.1.Kind==2)&&(x1.1.N==1))) (ab (ao ?_))))
 obtain rfl:=sq hr
 exact ⟨_,zz,.inl zz,tv⟩
theorem nV (l:(List Attr)) (name:Str) {r:AValue×Bool} (hr:jQ l name=some r):Con Tryz.prog 171 [aV (((lM Attr.cs l))),aS name] [] (.tup [.agg [cI r.1.Kind,cI r.1.N,cS r.1.S,dV ((lM AValue.cs r.1.L))],aB r.2]) []:=by
 unfold jQ at hr
 refine ap 26 0 [.cell 4 53,.tmp 5] [(0,.s (aV (((lM Attr.cs l))))),(1,.s (aS name))] Tryz.func171 zz zz zz zz zz zz zz zz fun w g M ρ _=>(af (ac (ak 0 (aw (j:=0) (cs:=[cI 0,cI 0,cS ByteArray.empty,.d (.v (.slice none 0 0))]) zz zz zz zz) (aa (aB false) (ab ?_)))))
 obtain ⟨k2,hk2,hr⟩:=ax hr
 refine ay (fun (s1:Unit)=>⟨[(4,.s (.c (.loc 0 0)))],[(0,.blk [cI 0,cI 0,cS ByteArray.empty,.d (.v (.slice none 0 0))] 53)],0⟩) k2 r (fun s1 hr=>?_) ?_
 rw [hk2] at hr
 refine af (ac (aa (.agg [cI 0,cI 0,cS ByteArray.empty,.d (.v (.slice none 0 0))]) (aq (al (cs':=[cI 0,cI 0,cS ByteArray.empty,.d (.v (.slice none 0 0))]) zz zz zz zz zz zz zz zz zz) (aa (aB false) (ab (ao ?_))))))
 obtain rfl:=sq hr
 exact ⟨_,zz,.inr zz,tv⟩
 clear hk2
 refine af (ac (aa (aI 0) (ab (am (az (fun (s3:Int)=>⟨[(0,.s (aV (((lM Attr.cs l))))),(1,.s (aS name)),(4,.s (.c (.loc 0 0))),(6,.s (aI s3))],[(0,.blk [cI 0,cI 0,cS ByteArray.empty,.d (.v (.slice none 0 0))] 53)],0⟩) hr (Conv.mk (tau []) ⟨cl zz,cl zz,cl zz,cl zz,tv⟩ ⟨zz,tv⟩ zz zz zz zz) ?_)))))
 clear hr
 intro again4 s3 hr
 unfold fm at hr
 refine af (af (ac (aa (aI s3) (aa (aV (((lM Attr.cs l)))) (ae (aK (enc:=Attr.cs) l zz zz tv zz) (aa (aB (decide (s3<(l.length:Int)))) (ab ?_)))))))
 refine ah (b:=decide (s3<(l.length:Int))) zz (fun h5=>?_) (fun h5=>?_)
 have hr:=selT h5 hr
 refine aj (af (am (af (ac (aa (aV (((lM Attr.cs l)))) (aa (aI s3) ?_))))))
 obtain ⟨x6,hx6,hr⟩:=bq hr
 refine ae (aM (enc:=Attr.cs) (L:=l) (row:=[dS x6.Name,dI x6.Value.Kind,dI x6.Value.N,dS x6.Value.S,.sl (lM AValue.cs x6.Value.L)]) hx6 zz zz zz zz (fun _=>zz) tv zz) (aa (.c (.pt [dS x6.Name,dI x6.Value.Kind,dI x6.Value.N,dS x6.Value.S,.sl (lM AValue.cs x6.Value.L)])) (aa (aS x6.Name) (aa (aS name) (aa (aB (x6.Name.toList==name.toList)) (ab ?_)))))
 refine ah (b:=x6.Name.toList==name.toList) zz (fun h7=>?_) (fun h7=>?_)
 have hr:=selT h7 hr
 refine af (ac (aa (aV (((lM Attr.cs l)))) (aa (aI s3) ?_)))
 obtain ⟨x8,hx8,hr⟩:=bq hr
 refine ae (aM (enc:=Attr.cs) (L:=l) (row:=[dS x8.Name,dI x8.Value.Kind,dI x8.Value.N,dS x8.Value.S,.sl (lM AValue.cs x8.Value.L)]) hx8 zz zz zz zz (fun _=>zz) tv zz) (aa (.c (.pt [dI x8.Value.Kind,dI x8.Value.N,dS x8.Value.S,.sl (lM AValue.cs x8.Value.L)])) (aa (.agg [cI x8.Value.Kind,cI x8.Value.N,cS x8.Value.S,dV ((lM AValue.cs x8.Value.L))]) (aq (al (cs':=[cI x8.Value.Kind,cI x8.Value.N,cS x8.Value.S,dV ((lM AValue.cs x8.Value.L))]) zz zz zz zz zz zz zz zz zz) (aa (aB true) (ab (ao ?_))))))
 obtain rfl:=sq hr
 exact ⟨_,zz,.inl zz,tv⟩
 have hr:=selF h7 hr
 refine aj (ac (aa (aI s3) (aa (aI (wq (s3+1))) (aa (aI (wq (s3+1))) (ab ?_)))))
 exact ⟨wq (s3+1),hr,(Conv.mk (tau []) ⟨cl zz,cl zz,cl zz,cl zz,tv⟩ ⟨zz,tv⟩ zz zz zz zz)⟩
 have hr:=selF h5 hr
 refine aE ?_
 exact ⟨(),hr,(Conv.mk (tau []) ⟨cl zz,tv⟩ ⟨zz,tv⟩ zz zz zz zz)⟩
theorem ql (l:(List Attr)) (name:Str) (other:Int) {r:Int} (hr:gh l name other=some r):Con Tryz.prog 140 [aV (((lM Attr.cs l))),aS name,aI other] [] (.s (aI r)) []:=by
 unfold gh at hr
 refine ap 21 0 [.tmp 6] [(0,.s (aV (((lM Attr.cs l))))),(1,.s (aS name)),(2,.s (aI other))] Tryz.func140 zz zz zz zz zz zz zz zz fun w g M ρ _=>(af (ac (aa (aI 0) (ab (af (ac (aa (aV (((lM Attr.cs l)))) (aa (aS name) ?_))))))))
 obtain ⟨x1,hx1,hr⟩:=bq hr
 refine ae (aL (tau []) (.tup [.agg [cI x1.1.Kind,cI x1.1.N,cS x1.1.S,dV ((lM AValue.cs x1.1.L))],aB x1.2]) [] (nV _ _ hx1) zz ⟨.inl zz,.inl zz,tv⟩ tv te tv) (ae (dk (v:=.tup [.agg [cI x1.1.Kind,cI x1.1.N,cS x1.1.S,dV ((lM AValue.cs x1.1.L))],aB x1.2]) zz zz) (aa (.agg [cI x1.1.Kind,cI x1.1.N,cS x1.1.S,dV ((lM AValue.cs x1.1.L))]) (aa (aB x1.2) (ak 0 (aw (j:=0) (cs:=[cI 0,cI 0,cS ByteArray.empty,.d (.v (.slice none 0 0))]) zz zz zz zz) (aq (al (cs':=[cI x1.1.Kind,cI x1.1.N,cS x1.1.S,dV ((lM AValue.cs x1.1.L))]) zz zz zz zz zz zz zz zz zz) (aa (aB x1.2) (ab (af (af (ac (aa (.c (.loc 0 0)) (aa (aI x1.1.Kind) (aa (aB (x1.1.Kind != 1)) (ab ?_))))))))))))))
 refine ah (b:=x1.1.Kind != 1) zz (fun h2=>?_) (fun h2=>?_)
 have hr:=selT h2 hr
 refine af (ac (aa (aI other) (aa (aI other) (ab (ao ?_)))))
 obtain rfl:=sq hr
 exact ⟨_,zz,.inl zz,tv⟩
 have hr:=selF h2 hr
 refine aj (af (ac (aa (.c (.loc 0 1)) (aa (aI x1.1.N) (aa (aI x1.1.N) (ab (ao ?_)))))))
 obtain rfl:=sq hr
 exact ⟨_,zz,.inl zz,tv⟩
theorem lB (l:(List Attr)) (name:Str) {r:Bool} (hr:dJ l name=some r):Con Tryz.prog 137 [aV (((lM Attr.cs l))),aS name] [] (.s (aB r)) []:=by
 unfold dJ at hr
 refine ap 21 0 [.tmp 4] [(0,.s (aV (((lM Attr.cs l))))),(1,.s (aS name))] Tryz.func137 zz zz zz zz zz zz zz zz fun w g M ρ _=>(af (ac (aa (aB false) (ab (af (ac (aa (aV (((lM Attr.cs l)))) (aa (aS name) ?_))))))))
 obtain ⟨x1,hx1,hr⟩:=bq hr
 refine ae (aL (tau []) (.tup [.agg [cI x1.1.Kind,cI x1.1.N,cS x1.1.S,dV ((lM AValue.cs x1.1.L))],aB x1.2]) [] (nV _ _ hx1) zz ⟨.inl zz,.inl zz,tv⟩ tv te tv) (ae (dk (v:=.tup [.agg [cI x1.1.Kind,cI x1.1.N,cS x1.1.S,dV ((lM AValue.cs x1.1.L))],aB x1.2]) zz zz) (aa (.agg [cI x1.1.Kind,cI x1.1.N,cS x1.1.S,dV ((lM AValue.cs x1.1.L))]) (aa (aB x1.2) (ak 0 (aw (j:=0) (cs:=[cI 0,cI 0,cS ByteArray.empty,.d (.v (.slice none 0 0))]) zz zz zz zz) (aq (al (cs':=[cI x1.1.Kind,cI x1.1.N,cS x1.1.S,dV ((lM AValue.cs x1.1.L))]) zz zz zz zz zz zz zz zz zz) (aa (aB x1.2) (ab (af (ac (aa (.c (.loc 0 0)) (aa (aI x1.1.Kind) (aa (aB (x1.1.Kind==2)) (aa (aB (x1.1.Kind==2)) (ae (ai (x:=.c (.loc 0 1)) zz zz tv zz) (ae (ai (x:=aI x1.1.N) zz zz ⟨fun h=>h,tv⟩ zz) ?_)))))))))))))))
 refine ae (ai (x:=aB (x1.1.N==1)) zz zz ⟨fun h=>h,tv⟩ zz) (ae (bb zz zz (fun h=>h) zz) (aa (aB ((x1.1.Kind==2)&&(x1.1.N==1))) (ab (ao ?_))))
 obtain rfl:=sq hr
 exact ⟨_,zz,.inl zz,tv⟩
end Go.Proofs.YtfoigppmcelgfaaGreatDoor
end
section
set_option maxRecDepth 100000
namespace Go.Proofs.YtfoigppmcelgfaaGreatDoor
open Go Go.E2
theorem iC (kind:Int) {r:Bool} (hr:cu kind=some r):Con Tryz.prog 182 [aI kind] [] (.s (aB r)) []:=by
 unfold cu at hr
 refine ap 17 0 [.tmp 2] [(0,.s (aI kind))] Tryz.func182 zz zz zz zz zz zz zz zz fun w g M ρ _=>(af (ac (aa (aB false) (ab (af (ac (aa (aI kind) (aa (aB (kind==2)) (aa (aB (kind==2)) (ae (ai (x:=aI kind) zz zz tv zz) (ae (ai (x:=aB (kind==4)) zz zz ⟨fun h=>h,tv⟩ zz) ?_)))))))))))
 refine ae (bj zz zz (fun h=>by rw [h];rfl) zz) ?_
 refine aa (aB ((kind==2)||(kind==4))) (ae (ai (x:=aI kind) zz zz tv zz) (ae (ai (x:=aB (kind==7)) zz zz ⟨fun h=>h,tv⟩ zz) ?_))
 refine ae (bj zz zz (fun h=>by rw [h];rfl) zz) ?_
 refine aa (aB (((kind==2)||(kind==4))||(kind==7))) (ae (ai (x:=aI kind) zz zz tv zz) (ae (ai (x:=aB (kind==9)) zz zz ⟨fun h=>h,tv⟩ zz) ?_))
 refine ae (bj zz zz (fun h=>by rw [h];rfl) zz) ?_
 refine aa (aB ((((kind==2)||(kind==4))||(kind==7))||(kind==9))) (ab (ao ?_))
 obtain rfl:=sq hr
 exact ⟨_,zz,.inl zz,tv⟩
theorem gU (kind:Int) {r:Bool} (hr:cd kind=some r):Con Tryz.prog 183 [aI kind] [] (.s (aB r)) []:=by
 unfold cd at hr
 refine ap 9 0 [.tmp 2] [(0,.s (aI kind))] Tryz.func183 zz zz zz zz zz zz zz zz fun w g M ρ _=>(af (ac (aa (aB false) (ab (af (ac (aa (aI kind) (aa (aB (kind==5)) (aa (aB (kind==5)) (ae (ai (x:=aI kind) zz zz tv zz) (ae (ai (x:=aB (kind==13)) zz zz ⟨fun h=>h,tv⟩ zz) ?_)))))))))))
 refine ae (bj zz zz (fun h=>by rw [h];rfl) zz) ?_
 refine aa (aB ((kind==5)||(kind==13))) (ab (ao ?_))
 obtain rfl:=sq hr
 exact ⟨_,zz,.inl zz,tv⟩
theorem fV (p_n:Node) (p_s:Styled) {r:Bool} (hr:bU p_n p_s=some r):Con Tryz.prog 155 [.agg [cI p_n.ID,cI p_n.Parent,cI p_n.Kind,cS p_n.Key,dV ((lM Attr.cs p_n.Attrs)),dV ((lM Action.cs p_n.Actions)),dV ((lI p_n.Kids))],.agg [cI p_s.ID,cI (p_s.Style 0),cI (p_s.Style 1),cI (p_s.Style 2),cI (p_s.Style 3),cI (p_s.Style 4),cI (p_s.Style 5),cI (p_s.Style 6),cI (p_s.Style 7),cI (p_s.Style 8),cI (p_s.Style 9),cI (p_s.Style 10),cI (p_s.Style 11),cI (p_s.Style 12),cI (p_s.Style 13),cI (p_s.Style 14),cI (p_s.Style 15),cI (p_s.Style 16),cI (p_s.Style 17),cI (p_s.Style 18),cI (p_s.Style 19),cI (p_s.Style 20),cI (p_s.Style 21)]] [] (.s (aB r)) []:=by
 unfold bU at hr
 refine ap 10 0 [.tmp 4] [(0,.s (.agg [cI p_n.ID,cI p_n.Parent,cI p_n.Kind,cS p_n.Key,dV ((lM Attr.cs p_n.Attrs)),dV ((lM Action.cs p_n.Actions)),dV ((lI p_n.Kids))])),(1,.s (.agg [cI p_s.ID,cI (p_s.Style 0),cI (p_s.Style 1),cI (p_s.Style 2),cI (p_s.Style 3),cI (p_s.Style 4),cI (p_s.Style 5),cI (p_s.Style 6),cI (p_s.Style 7),cI (p_s.Style 8),cI (p_s.Style 9),cI (p_s.Style 10),cI (p_s.Style 11),cI (p_s.Style 12),cI (p_s.Style 13),cI (p_s.Style 14),cI (p_s.Style 15),cI (p_s.Style 16),cI (p_s.Style 17),cI (p_s.Style 18),cI (p_s.Style 19),cI (p_s.Style 20),cI (p_s.Style 21)]))] Tryz.func155 zz zz zz zz zz zz zz zz fun w g M ρ _=>(af (ac (ak 0 (aP (j:=0) (cs:=[cI p_n.ID,cI p_n.Parent,cI p_n.Kind,cS p_n.Key,dV ((lM Attr.cs p_n.Attrs)),dV ((lM Action.cs p_n.Actions)),dV ((lI p_n.Kids))]) zz zz zz zz zz) (ak 0 (aP (j:=1) (cs:=[cI p_s.ID,cI (p_s.Style 0),cI (p_s.Style 1),cI (p_s.Style 2),cI (p_s.Style 3),cI (p_s.Style 4),cI (p_s.Style 5),cI (p_s.Style 6),cI (p_s.Style 7),cI (p_s.Style 8),cI (p_s.Style 9),cI (p_s.Style 10),cI (p_s.Style 11),cI (p_s.Style 12),cI (p_s.Style 13),cI (p_s.Style 14),cI (p_s.Style 15),cI (p_s.Style 16),cI (p_s.Style 17),cI (p_s.Style 18),cI (p_s.Style 19),cI (p_s.Style 20),cI (p_s.Style 21)]) zz zz zz zz zz) (aa (aB false) (ab (af (ac (aa (.c (.loc 0 0)) (aa (aI p_n.ID) (aa (.c (.loc 1 0)) (aa (aI p_s.ID) (aa (aB (p_n.ID==p_s.ID)) (aa (aB (p_n.ID==p_s.ID)) (ab ?_)))))))))))))))
 refine ao ?_
 obtain rfl:=sq hr
 exact ⟨_,zz,.inl zz,tv⟩
theorem cD (p_s1:(List Node)) (p_s2:(List Styled)) {r:Bool} (hr:aX p_s1 p_s2=some r):Con Tryz.prog 154 [aV (((lM Node.cs p_s1))),aV (((lM Styled.cs p_s2))),.c (.fn 155 [])] [] (.s (aB r)) []:=by
 unfold aX at hr
 refine ap 32 0 [.tmp 6] [(0,.s (aV (((lM Node.cs p_s1))))),(1,.s (aV (((lM Styled.cs p_s2))))),(2,.s (.c (.fn 155 [])))] Tryz.func154 zz zz zz zz zz zz zz zz fun w g M ρ _=>(af (ac (aa (aB false) (ab (af (af (ac (aa (aV (((lM Node.cs p_s1)))) (ae (aK (enc:=Node.cs) p_s1 zz zz tv zz) (aa (aV (((lM Styled.cs p_s2)))) (ae (aK (enc:=Styled.cs) p_s2 zz zz tv zz) (aa (aB ((p_s1.length:Int) != (p_s2.length:Int))) (ab ?_)))))))))))))
 refine ah (b:=(p_s1.length:Int) != (p_s2.length:Int)) zz (fun h1=>?_) (fun h1=>?_)
 have hr:=selT h1 hr
 refine af (ac (aa (aB false) (ab (ao ?_))))
 obtain rfl:=sq hr
 exact ⟨_,zz,.inl zz,tv⟩
 have hr:=selF h1 hr
 refine aj ?_
 obtain ⟨k3,hk3,hr⟩:=ax hr
 refine ay (fun (s2:Unit)=>⟨[],[],0⟩) k3 r (fun s2 hr=>?_) ?_
 rw [hk3] at hr
 refine af (ac (aa (aB true) (ab (ao ?_))))
 obtain rfl:=sq hr
 exact ⟨_,zz,.inl zz,tv⟩
 clear hk3
 refine af (ac (aa (aV (((lM Node.cs p_s1)))) (ae (aK (enc:=Node.cs) p_s1 zz zz tv zz) (aa (aI 0) (ab (am (az (fun (s4:Int)=>⟨[(1,.s (aV (((lM Styled.cs p_s2))))),(2,.s (.c (.fn 155 []))),(15,.s (aV (((lM Node.cs p_s1))))),(16,.s (aI (p_s1.length:Int))),(17,.s (aI s4))],[],0⟩) hr (Conv.mk (tau []) ⟨cl zz,cl zz,cl zz,cl zz,cl zz,tv⟩ tv zz zz zz zz) ?_)))))))
 clear hr
 intro again5 s4 hr
 unfold aW at hr
 refine af (ac (aa (aB (decide (s4<(p_s1.length:Int)))) (ab (af ?_))))
 refine ah (b:=decide (s4<(p_s1.length:Int))) zz (fun h6=>?_) (fun h6=>?_)
 have hr:=selT h6 hr
 refine aj (af (am (af (ac (aa (aI s4) ?_)))))
 obtain ⟨x7,hx7,hr⟩:=bq hr
 refine ae (aM (enc:=Node.cs) (L:=p_s1) (row:=[dI x7.ID,dI x7.Parent,dI x7.Kind,dS x7.Key,.sl (lM Attr.cs x7.Attrs),.sl (lM Action.cs x7.Actions),.sl (lI x7.Kids)]) hx7 zz zz zz zz (fun _=>zz) tv zz) (aa (.agg [cI x7.ID,cI x7.Parent,cI x7.Kind,cS x7.Key,dV ((lM Attr.cs x7.Attrs)),dV ((lM Action.cs x7.Actions)),dV ((lI x7.Kids))]) (ak 0 (aw (j:=0) (cs:=[cI 0,cI 0,cI 0,cS ByteArray.empty,.d (.v (.slice none 0 0)),.d (.v (.slice none 0 0)),.d (.v (.slice none 0 0))]) zz zz zz zz) (aa (aI s4) (aq (al (cs':=[cI x7.ID,cI x7.Parent,cI x7.Kind,cS x7.Key,dV ((lM Attr.cs x7.Attrs)),dV ((lM Action.cs x7.Actions)),dV ((lI x7.Kids))]) zz zz zz zz zz zz zz zz zz) (ab (af (ac (aa (aV (((lM Styled.cs p_s2)))) (aa (aI s4) ?_)))))))))
 obtain ⟨x8,hx8,hr⟩:=bq hr
 refine ae (aM (enc:=Styled.cs) (L:=p_s2) (row:=[dI x8.ID,dI (x8.Style 0),dI (x8.Style 1),dI (x8.Style 2),dI (x8.Style 3),dI (x8.Style 4),dI (x8.Style 5),dI (x8.Style 6),dI (x8.Style 7),dI (x8.Style 8),dI (x8.Style 9),dI (x8.Style 10),dI (x8.Style 11),dI (x8.Style 12),dI (x8.Style 13),dI (x8.Style 14),dI (x8.Style 15),dI (x8.Style 16),dI (x8.Style 17),dI (x8.Style 18),dI (x8.Style 19),dI (x8.Style 20),dI (x8.Style 21)]) hx8 zz zz zz zz (fun _=>zz) tv zz) (aa (.agg [cI x8.ID,cI (x8.Style 0),cI (x8.Style 1),cI (x8.Style 2),cI (x8.Style 3),cI (x8.Style 4),cI (x8.Style 5),cI (x8.Style 6),cI (x8.Style 7),cI (x8.Style 8),cI (x8.Style 9),cI (x8.Style 10),cI (x8.Style 11),cI (x8.Style 12),cI (x8.Style 13),cI (x8.Style 14),cI (x8.Style 15),cI (x8.Style 16),cI (x8.Style 17),cI (x8.Style 18),cI (x8.Style 19),cI (x8.Style 20),cI (x8.Style 21)]) (ak 0 (aw (j:=1) (cs:=[cI 0,cI 0,cI 0,cI 0,cI 0,cI 0,cI 0,cI 0,cI 0,cI 0,cI 0,cI 0,cI 0,cI 0,cI 0,cI 0,cI 0,cI 0,cI 0,cI 0,cI 0,cI 0,cI 0]) zz zz zz zz) (aq (al (cs':=[cI x8.ID,cI (x8.Style 0),cI (x8.Style 1),cI (x8.Style 2),cI (x8.Style 3),cI (x8.Style 4),cI (x8.Style 5),cI (x8.Style 6),cI (x8.Style 7),cI (x8.Style 8),cI (x8.Style 9),cI (x8.Style 10),cI (x8.Style 11),cI (x8.Style 12),cI (x8.Style 13),cI (x8.Style 14),cI (x8.Style 15),cI (x8.Style 16),cI (x8.Style 17),cI (x8.Style 18),cI (x8.Style 19),cI (x8.Style 20),cI (x8.Style 21)]) zz zz zz zz zz zz zz zz (by kernel_rfl)) (ab (af (ac (aa (.c (.fn 155 [])) (aa (.agg [cI x7.ID,cI x7.Parent,cI x7.Kind,cS x7.Key,dV ((lM Attr.cs x7.Attrs)),dV ((lM Action.cs x7.Actions)),dV ((lI x7.Kids))]) (aa (.agg [cI x8.ID,cI (x8.Style 0),cI (x8.Style 1),cI (x8.Style 2),cI (x8.Style 3),cI (x8.Style 4),cI (x8.Style 5),cI (x8.Style 6),cI (x8.Style 7),cI (x8.Style 8),cI (x8.Style 9),cI (x8.Style 10),cI (x8.Style 11),cI (x8.Style 12),cI (x8.Style 13),cI (x8.Style 14),cI (x8.Style 15),cI (x8.Style 16),cI (x8.Style 17),cI (x8.Style 18),cI (x8.Style 19),cI (x8.Style 20),cI (x8.Style 21)]) ?_)))))))))
 obtain ⟨x9,hx9,hr⟩:=bq hr
 refine ae (dg (caps:=[]) (tau []) (.s (aB x9)) [] zz (fV _ _ hx9) zz ⟨.inl zz,.inl zz,tv⟩ tv xu tv zz zz zz zz tv zz zz zz) (aa (aB (!x9)) (ab ?_))
 refine ah (b:=!x9) zz (fun h10=>?_) (fun h10=>?_)
 have hr:=selT h10 hr
 refine af (ac (aa (aB false) (ab (ao ?_))))
 obtain rfl:=sq hr
 exact ⟨_,zz,.inl zz,tv⟩
 have hr:=selF h10 hr
 refine aj (ac (aa (aI (wq (s4+1))) (aa (aI (wq (s4+1))) (ab ?_))))
 exact ⟨wq (s4+1),hr,(Conv.mk (tau []) ⟨cl zz,cl zz,cl zz,cl zz,cl zz,tv⟩ tv zz zz zz zz)⟩
 have hr:=selF h6 hr
 refine aE ?_
 exact ⟨(),hr,(Conv.mk (tau []) tv tv zz zz zz zz)⟩
theorem gV (t:Tree) (st:(List Styled)) {r:Bool} (hr:bv t st=some r):Con Tryz.prog 116 [.agg (tC t),aV (((lM Styled.cs st)))] [] (.s (aB r)) []:=by
 unfold bv at hr
 refine ap 9 0 [.tmp 4] [(0,.s (.agg (tC t))),(1,.s (aV (((lM Styled.cs st)))))] Tryz.func116 zz zz zz zz zz zz zz zz fun w g M ρ _=>(af (ac (ak 0 (aP (j:=0) (cs:=(tC t)) zz zz zz zz zz) (aa (aB false) (ab (af (ac (aa (.c (.loc 0 2)) (aa (aV (((lM Node.cs t.Nodes)))) (aa (aV (((lM Styled.cs st)))) ?_))))))))))
 obtain ⟨x1,hx1,hr⟩:=bq hr
 refine ae (aL (tau []) (.s (aB x1)) [] (cD _ _ hx1) zz ⟨.inl zz,.inl zz,.inl zz,tv⟩ tv xv tv) (aa (aB x1) (ab (ao ?_)))
 obtain rfl:=sq hr
 exact ⟨_,zz,.inl zz,tv⟩
theorem iB (st:(List Styled)) {r:Bool} (hr:bu st=some r):Con Tryz.prog 117 [aV (((lM Styled.cs st)))] [] (.s (aB r)) []:=by
 unfold bu at hr
 refine ap 25 0 [.tmp 2] [(0,.s (aV (((lM Styled.cs st)))))] Tryz.func117 zz zz zz zz zz zz zz zz fun w g M ρ _=>(af (ac (aa (aB false) (ab ?_))))
 obtain ⟨k2,hk2,hr⟩:=ax hr
 refine ay (fun (s1:Unit)=>⟨[],[],0⟩) k2 r (fun s1 hr=>?_) ?_
 rw [hk2] at hr
 refine af (ac (aa (aB true) (ab (ao ?_))))
 obtain rfl:=sq hr
 exact ⟨_,zz,.inl zz,tv⟩
 clear hk2
 refine af (ac (aa (aV (((lM Styled.cs st)))) (ae (aK (enc:=Styled.cs) st zz zz tv zz) (aa (aI 0) (ab (am (az (fun (s3:Int)=>⟨[(7,.s (aV (((lM Styled.cs st))))),(8,.s (aI (st.length:Int))),(9,.s (aI s3))],[],0⟩) hr (Conv.mk (tau []) ⟨cl zz,cl zz,cl zz,tv⟩ tv zz zz zz zz) ?_)))))))
 clear hr
 intro again4 s3 hr
 unfold b8 at hr
 refine af (ac (aa (aB (decide (s3<(st.length:Int)))) (ab (af ?_))))
 refine ah (b:=decide (s3<(st.length:Int))) zz (fun h5=>?_) (fun h5=>?_)
 have hr:=selT h5 hr
 refine aj ?_
 obtain ⟨k7,hk7,hr⟩:=ax hr
 refine ay (fun (s6:Unit)=>⟨[(7,.s (aV (((lM Styled.cs st))))),(8,.s (aI (st.length:Int))),(9,.s (aI s3))],[],0⟩) k7 r (fun s6 hr=>?_) ?_
 rw [hk7] at hr
 refine ac (aa (aI (wq (s3+1))) (aa (aI (wq (s3+1))) (ab ?_)))
 exact ⟨wq (s3+1),hr,(Conv.mk (tau []) ⟨cl zz,cl zz,cl zz,tv⟩ tv zz zz zz zz)⟩
 clear hk7
 refine am (af (ac ?_))
 obtain ⟨x8,hx8,hr⟩:=bq hr
 refine ae (aM (enc:=Styled.cs) (L:=st) (row:=[dI x8.ID,dI (x8.Style 0),dI (x8.Style 1),dI (x8.Style 2),dI (x8.Style 3),dI (x8.Style 4),dI (x8.Style 5),dI (x8.Style 6),dI (x8.Style 7),dI (x8.Style 8),dI (x8.Style 9),dI (x8.Style 10),dI (x8.Style 11),dI (x8.Style 12),dI (x8.Style 13),dI (x8.Style 14),dI (x8.Style 15),dI (x8.Style 16),dI (x8.Style 17),dI (x8.Style 18),dI (x8.Style 19),dI (x8.Style 20),dI (x8.Style 21)]) hx8 zz zz zz zz (fun _=>zz) tv zz) (aa (.agg [cI x8.ID,cI (x8.Style 0),cI (x8.Style 1),cI (x8.Style 2),cI (x8.Style 3),cI (x8.Style 4),cI (x8.Style 5),cI (x8.Style 6),cI (x8.Style 7),cI (x8.Style 8),cI (x8.Style 9),cI (x8.Style 10),cI (x8.Style 11),cI (x8.Style 12),cI (x8.Style 13),cI (x8.Style 14),cI (x8.Style 15),cI (x8.Style 16),cI (x8.Style 17),cI (x8.Style 18),cI (x8.Style 19),cI (x8.Style 20),cI (x8.Style 21)]) (ak 0 (aw (j:=0) (cs:=[cI 0,cI 0,cI 0,cI 0,cI 0,cI 0,cI 0,cI 0,cI 0,cI 0,cI 0,cI 0,cI 0,cI 0,cI 0,cI 0,cI 0,cI 0,cI 0,cI 0,cI 0,cI 0,cI 0]) zz zz zz zz) (aq (al (cs':=[cI x8.ID,cI (x8.Style 0),cI (x8.Style 1),cI (x8.Style 2),cI (x8.Style 3),cI (x8.Style 4),cI (x8.Style 5),cI (x8.Style 6),cI (x8.Style 7),cI (x8.Style 8),cI (x8.Style 9),cI (x8.Style 10),cI (x8.Style 11),cI (x8.Style 12),cI (x8.Style 13),cI (x8.Style 14),cI (x8.Style 15),cI (x8.Style 16),cI (x8.Style 17),cI (x8.Style 18),cI (x8.Style 19),cI (x8.Style 20),cI (x8.Style 21)]) zz zz zz zz zz zz zz zz (by kernel_rfl)) (ab (af (ac (aa (.c (.loc 0 1)) (aa (.agg [cI (x8.Style 0),cI (x8.Style 1),cI (x8.Style 2),cI (x8.Style 3),cI (x8.Style 4),cI (x8.Style 5),cI (x8.Style 6),cI (x8.Style 7),cI (x8.Style 8),cI (x8.Style 9),cI (x8.Style 10),cI (x8.Style 11),cI (x8.Style 12),cI (x8.Style 13),cI (x8.Style 14),cI (x8.Style 15),cI (x8.Style 16),cI (x8.Style 17),cI (x8.Style 18),cI (x8.Style 19),cI (x8.Style 20),cI (x8.Style 21)]) (aa (aI 0) (ab ?_))))))))))
 obtain ⟨k10,hk10,hr⟩:=ax hr
 refine bZ (fun (s9:Unit)=>⟨[(7,.s (aV (((lM Styled.cs st))))),(8,.s (aI (st.length:Int))),(9,.s (aI s3))],[],0⟩) k10 r (fun s9 hr=>?_) ?_
 rw [hk10] at hr
 exact ⟨(),hr,(Conv.mk (tau []) ⟨cl zz,cl zz,cl zz,tv⟩ tv zz zz zz zz)⟩
 clear hk10
 refine am (az (fun (s11:Int)=>⟨[(7,.s (aV (((lM Styled.cs st))))),(8,.s (aI (st.length:Int))),(9,.s (aI s3)),(14,.s (.agg [cI (x8.Style 0),cI (x8.Style 1),cI (x8.Style 2),cI (x8.Style 3),cI (x8.Style 4),cI (x8.Style 5),cI (x8.Style 6),cI (x8.Style 7),cI (x8.Style 8),cI (x8.Style 9),cI (x8.Style 10),cI (x8.Style 11),cI (x8.Style 12),cI (x8.Style 13),cI (x8.Style 14),cI (x8.Style 15),cI (x8.Style 16),cI (x8.Style 17),cI (x8.Style 18),cI (x8.Style 19),cI (x8.Style 20),cI (x8.Style 21)])),(15,.s (aI s11))],[],0⟩) hr (Conv.mk (tau []) ⟨cl zz,cl zz,cl zz,cl zz,cl zz,tv⟩ tv zz zz zz zz) ?_)
 clear hr
 intro again12 s11 hr
 unfold b9 at hr
 refine af (ac (aa (aB (decide (s11<22))) (ab (af ?_))))
 refine ah (b:=decide (s11<22)) zz (fun h13=>?_) (fun h13=>?_)
 have hr:=selT h13 hr
 refine aj (af (am (af (ac (aa (aI s11) ?_)))))
 obtain ⟨x14,hx14,hr⟩:=bq hr
 refine ae (sb (c:=cI (x8.Style x14)) hx14 zz zz zz zz (xU (e1:=dInt .i64) (a:=x8.Style) (e9 hx14).2) tv zz) (aa (aI s11) (aa (aI (x8.Style x14)) (ab (af (ac (aa (aI s11) (aa (aI (x8.Style x14)) ?_)))))))
 obtain ⟨x15,hx15,hr⟩:=bq hr
 refine ae (aL (tau []) (.s (aB x15)) [] (iA _ _ hx15) zz ⟨.inl zz,.inl zz,tv⟩ tv xt tv) (aa (aB (!x15)) (ab ?_))
 refine ah (b:=!x15) zz (fun h16=>?_) (fun h16=>?_)
 have hr:=selT h16 hr
 refine af (ac (aa (aB false) (ab (ao ?_))))
 obtain rfl:=sq hr
 exact ⟨_,zz,.inl zz,tv⟩
 have hr:=selF h16 hr
 refine aj (ac (aa (aI (wq (s11+1))) (aa (aI (wq (s11+1))) (ab ?_))))
 exact ⟨wq (s11+1),hr,(Conv.mk (tau []) ⟨cl zz,cl zz,cl zz,cl zz,cl zz,tv⟩ tv zz zz zz zz)⟩
 have hr:=selF h13 hr
 refine aE ?_
 exact ⟨(),hr,(Conv.mk (tau []) ⟨cl zz,cl zz,cl zz,tv⟩ tv zz zz zz zz)⟩
 have hr:=selF h5 hr
 refine aE ?_
 exact ⟨(),hr,(Conv.mk (tau []) tv tv zz zz zz zz)⟩
theorem cY (p_x:layout_scene) (id:Int) {r:Bool×layout_scene} (hr:a5 p_x id=some r):Con Tryz.prog 157 [.c (.loc 0 0),aI id] [(0,.blk [cI p_x.t.Root,cI p_x.t.Next,dV ((lM Node.cs p_x.t.Nodes)),dV ((lM Font.cs p_x.fonts)),.d (.mp true (encM (kInt .i64) Node.cs p_x.nodes)),.d (.mp true (encM (kInt .i64) (eArr 22 (dInt .i64)) p_x.style)),.own 1,.tl 2 (lI p_x.shown),.d (.mp false (encM (kInt .i64) eI p_x.least)),.d (.mp false (encM (kInt .i64) eI p_x.most)),.d (.mp false (encM (kPair .i64) eI p_x.tall)),.d (.mp false (encM (kPair .i64) eI p_x.first))] 166),(1,.mp false (encM (kInt .i64) (eJ 1) p_x.kids)),(2,.tail 1)] (.s (aB r.1)) [(0,.blk [cI r.2.t.Root,cI r.2.t.Next,dV ((lM Node.cs r.2.t.Nodes)),dV ((lM Font.cs r.2.fonts)),.d (.mp true (encM (kInt .i64) Node.cs r.2.nodes)),.d (.mp true (encM (kInt .i64) (eArr 22 (dInt .i64)) r.2.style)),.own 3000,.tl 3001 (lI r.2.shown),.d (.mp false (encM (kInt .i64) eI r.2.least)),.d (.mp false (encM (kInt .i64) eI r.2.most)),.d (.mp false (encM (kPair .i64) eI r.2.tall)),.d (.mp false (encM (kPair .i64) eI r.2.first))] 166),(1,.dead),(2,.dead),(3000,.mp false (encM (kInt .i64) (eJ 1) r.2.kids)),(3001,.tail 1)]:=by
 unfold a5 at hr
 refine ap 23 0 [.tmp 4] [(0,.s (.c (.loc 0 0))),(1,.s (aI id))] Tryz.func157 zz zz zz zz zz zz zz zz fun w g M ρ _=>(af (ac (aa (aB false) (ab (af (ac (aa (.c (.loc 0 0)) (aa (.c (.loc 0 0)) (aa (.c (.loc 0 5)) (aa (.c (.d (.mp true (encM (kInt .i64) (eArr 22 (dInt .i64)) p_x.style)))) (aa (aI id) ?_)))))))))))
 obtain ⟨x1,hx1,hr⟩:=bq hr
 refine ae (gv (agg:=true) (ek:=(kInt .i64)) (ev:=(eArr 22 (dInt .i64))) (L:=p_x.style) (r:=.agg [cI (x1.1 0),cI (x1.1 1),cI (x1.1 2),cI (x1.1 3),cI (x1.1 4),cI (x1.1 5),cI (x1.1 6),cI (x1.1 7),cI (x1.1 8),cI (x1.1 9),cI (x1.1 10),cI (x1.1 11),cI (x1.1 12),cI (x1.1 13),cI (x1.1 14),cI (x1.1 15),cI (x1.1 16),cI (x1.1 17),cI (x1.1 18),cI (x1.1 19),cI (x1.1 20),cI (x1.1 21)]) hx1 zz zz zz (keyInt Tryz.underlying3) zz zz (fun h=>by cases h) zz tv zz) ?_
 refine ae (sb (k:=5) (c:=cI (x1.1 5)) zz zz zz zz zz zz tv zz) (aa (aB ((x1.1 5)==0)) (aa (aB ((x1.1 5)==0)) (ae (ai (x:=.c (.loc 0 0)) zz zz tv zz) (ae (ai (x:=.c (.loc 0 0)) zz zz ⟨fun h=>h,tv⟩ zz) (ae (ai (x:=.c (.loc 0 4)) zz zz ⟨fun h=>h,tv⟩ zz) (ae (ai (x:=.c (.d (.mp true (encM (kInt .i64) Node.cs p_x.nodes)))) zz zz ⟨fun h=>h,tv⟩ zz) (ae (ai (x:=aI id) zz zz tv zz) ?_)))))))
 obtain ⟨x2,hx2,hr⟩:=bq hr
 refine ae (kN (agg:=true) (ek:=(kInt .i64)) (ev:=Node.cs) (L:=p_x.nodes) (r:=.agg [cI x2.1.ID,cI x2.1.Parent,cI x2.1.Kind,cS x2.1.Key,dV ((lM Attr.cs x2.1.Attrs)),dV ((lM Action.cs x2.1.Actions)),dV ((lI x2.1.Kids))]) (cQ hx2) zz zz zz zz (keyInt Tryz.underlying3) zz zz (fun h=>by cases h) zz ⟨fun h=>h,⟨fun h=>h,tv⟩⟩ zz) ?_
 refine ae (ai (x:=aV (((lM Attr.cs x2.1.Attrs)))) zz zz ⟨fun h=>h,tv⟩ zz) ?_
 obtain ⟨x3,hx3,hr⟩:=bq hr
 refine ae (a9 (x:=aB x3) (fun hg=>mG _ _ (cQ hx3 hg)) zz zz ⟨.inl zz,.inl zz,tv⟩ ⟨fun h=>h,tv⟩ rR zz zz zz) ?_
 refine ae (bj zz zz (fun h=>by rw [h];rfl) zz) ?_
 refine aa (aB (((x1.1 5)==0)||x3)) (ab (Ok.conv (T:=⟨[(4,.s (aB (((x1.1 5)==0)||x3)))],[(0,.blk [cI p_x.t.Root,cI p_x.t.Next,dV ((lM Node.cs p_x.t.Nodes)),dV ((lM Font.cs p_x.fonts)),.d (.mp true (encM (kInt .i64) Node.cs p_x.nodes)),.d (.mp true (encM (kInt .i64) (eArr 22 (dInt .i64)) p_x.style)),.own 3000,.tl 3001 (lI p_x.shown),.d (.mp false (encM (kInt .i64) eI p_x.least)),.d (.mp false (encM (kInt .i64) eI p_x.most)),.d (.mp false (encM (kPair .i64) eI p_x.tall)),.d (.mp false (encM (kPair .i64) eI p_x.first))] 166),(1,.dead),(2,.dead),(3000,.mp false (encM (kInt .i64) (eJ 1) p_x.kids)),(3001,.tail 1)],0⟩) (Conv.mk (tau [(3000,1),(3001,2)]) ⟨cl zz,tv⟩ ⟨zz,zz,zz,tv⟩ zz zz zz zz) (ao ?_)))
 obtain rfl:=sq hr
 exact ⟨_,zz,.inl zz,⟨zz,(fun h=>by cases h),(fun h=>by cases h),zz,zz,tv⟩⟩
theorem fH (self0:layout_scene→Int→Option layout_scene) (hself0:∀ (p_x:layout_scene) (id:Int) {r:layout_scene},self0 p_x id=some r→Con Tryz.prog 158 [.c (.loc 0 0),aI id] [(0,.blk [cI p_x.t.Root,cI p_x.t.Next,dV ((lM Node.cs p_x.t.Nodes)),dV ((lM Font.cs p_x.fonts)),.d (.mp true (encM (kInt .i64) Node.cs p_x.nodes)),.d (.mp true (encM (kInt .i64) (eArr 22 (dInt .i64)) p_x.style)),.own 1,.tl 2 (lI p_x.shown),.d (.mp false (encM (kInt .i64) eI p_x.least)),.d (.mp false (encM (kInt .i64) eI p_x.most)),.d (.mp false (encM (kPair .i64) eI p_x.tall)),.d (.mp false (encM (kPair .i64) eI p_x.first))] 166),(1,.mp false (encM (kInt .i64) (eJ 1) p_x.kids)),(2,.tail 1)] (.tup []) [(0,.blk [cI r.t.Root,cI r.t.Next,dV ((lM Node.cs r.t.Nodes)),dV ((lM Font.cs r.fonts)),.d (.mp true (encM (kInt .i64) Node.cs r.nodes)),.d (.mp true (encM (kInt .i64) (eArr 22 (dInt .i64)) r.style)),.own 3000,.tl 3001 (lI r.shown),.d (.mp false (encM (kInt .i64) eI r.least)),.d (.mp false (encM (kInt .i64) eI r.most)),.d (.mp false (encM (kPair .i64) eI r.tall)),.d (.mp false (encM (kPair .i64) eI r.first))] 166),(1,.dead),(2,.dead),(3000,.mp false (encM (kInt .i64) (eJ 1) r.kids)),(3001,.tail 1)]) (p_x:layout_scene) (id:Int) {r:layout_scene} (hr:bi self0 p_x id=some r):Con Tryz.prog 158 [.c (.loc 0 0),aI id] [(0,.blk [cI p_x.t.Root,cI p_x.t.Next,dV ((lM Node.cs p_x.t.Nodes)),dV ((lM Font.cs p_x.fonts)),.d (.mp true (encM (kInt .i64) Node.cs p_x.nodes)),.d (.mp true (encM (kInt .i64) (eArr 22 (dInt .i64)) p_x.style)),.own 1,.tl 2 (lI p_x.shown),.d (.mp false (encM (kInt .i64) eI p_x.least)),.d (.mp false (encM (kInt .i64) eI p_x.most)),.d (.mp false (encM (kPair .i64) eI p_x.tall)),.d (.mp false (encM (kPair .i64) eI p_x.first))] 166),(1,.mp false (encM (kInt .i64) (eJ 1) p_x.kids)),(2,.tail 1)] (.tup []) [(0,.blk [cI r.t.Root,cI r.t.Next,dV ((lM Node.cs r.t.Nodes)),dV ((lM Font.cs r.fonts)),.d (.mp true (encM (kInt .i64) Node.cs r.nodes)),.d (.mp true (encM (kInt .i64) (eArr 22 (dInt .i64)) r.style)),.own 3000,.tl 3001 (lI r.shown),.d (.mp false (encM (kInt .i64) eI r.least)),.d (.mp false (encM (kInt .i64) eI r.most)),.d (.mp false (encM (kPair .i64) eI r.tall)),.d (.mp false (encM (kPair .i64) eI r.first))] 166),(1,.dead),(2,.dead),(3000,.mp false (encM (kInt .i64) (eJ 1) r.kids)),(3001,.tail 1)]:=by
 unfold bi at hr
 refine ap 60 0 [] [(0,.s (.c (.loc 0 0))),(1,.s (aI id))] Tryz.func158 zz zz zz zz zz zz zz zz fun w g M ρ _=>(af (ac (aa (.c (.loc 0 0)) (aa (.c (.loc 0 0)) (aa (.c (.loc 0 0)) (aa (.c (.loc 0 7)) (aa (.c (.tl 2 (lI p_x.shown))) (aa (aI id) (ak 0 (cp (sz:=1) (enc:=eI) (j:=3) ([id]) zz zz zz zz zz zz zz zz (fun _=>zz) tv zz zz) ?_)))))))))
 obtain ⟨x1,hx1,hr⟩:=bq hr
 refine bW 0 (dQ (enc:=eI) (L:=p_x.shown) (X:=[id]) (j:=2) (j':=4) hx1 zz zz zz zz zz zz (fun _=>zz) (fun _=>zz) (by decide) tv zz zz) (aa (.c (.loc 0 0)) (aa (.c (.loc 0 7)) (aq (al (cs':=[cI p_x.t.Root,cI p_x.t.Next,dV ((lM Node.cs p_x.t.Nodes)),dV ((lM Font.cs p_x.fonts)),.d (.mp true (encM (kInt .i64) Node.cs p_x.nodes)),.d (.mp true (encM (kInt .i64) (eArr 22 (dInt .i64)) p_x.style)),.own 1,.tl 4 (lI x1),.d (.mp false (encM (kInt .i64) eI p_x.least)),.d (.mp false (encM (kInt .i64) eI p_x.most)),.d (.mp false (encM (kPair .i64) eI p_x.tall)),.d (.mp false (encM (kPair .i64) eI p_x.first))]) zz zz zz zz zz zz zz zz zz) (ab (af (ac (aa (.c (.loc 0 0)) (aa (.c (.loc 0 0)) (aa (.c (.loc 0 4)) (aa (.c (.d (.mp true (encM (kInt .i64) Node.cs p_x.nodes)))) (aa (aI id) ?_)))))))))))
 obtain ⟨x2,hx2,hr⟩:=bq hr
 refine ae (gv (agg:=true) (ek:=(kInt .i64)) (ev:=Node.cs) (L:=p_x.nodes) (r:=.agg [cI x2.1.ID,cI x2.1.Parent,cI x2.1.Kind,cS x2.1.Key,dV ((lM Attr.cs x2.1.Attrs)),dV ((lM Action.cs x2.1.Actions)),dV ((lI x2.1.Kids))]) hx2 zz zz zz (keyInt Tryz.underlying3) zz zz (fun h=>by cases h) zz tv zz) ?_
 refine ak 0 (aw (j:=5) (cs:=[cI 0,cI 0,cI 0,cS ByteArray.empty,.d (.v (.slice none 0 0)),.d (.v (.slice none 0 0)),.d (.v (.slice none 0 0))]) zz zz zz zz) (aq (al (cs':=[cI x2.1.ID,cI x2.1.Parent,cI x2.1.Kind,cS x2.1.Key,dV ((lM Attr.cs x2.1.Attrs)),dV ((lM Action.cs x2.1.Actions)),dV ((lI x2.1.Kids))]) zz zz zz zz zz zz zz zz zz) (ab (af (af (ac (aa (.c (.loc 5 2)) (aa (aI x2.1.Kind) ?_)))))))
 obtain ⟨x3,hx3,hr⟩:=bq hr
 refine ae (aL (tau []) (.s (aB x3)) [] (iC _ hx3) zz ⟨.inl zz,tv⟩ tv xi tv) (aa (aB x3) (ae (ai (x:=.c (.loc 5 2)) zz zz tv zz) (ae (ai (x:=aI x2.1.Kind) zz zz ⟨fun h=>h,tv⟩ zz) ?_)))
 obtain ⟨x4,hx4,hr⟩:=bq hr
 refine ae (a9 (x:=aB x4) (fun hg=>gU _ (cQ hx4 hg)) zz zz ⟨.inl zz,tv⟩ ⟨fun h=>h,tv⟩ xh zz zz zz) ?_
 refine ae (bj zz zz (fun h=>by rw [h];rfl) zz) ?_
 refine ab ?_
 refine ah (b:=x3||x4) zz (fun h5=>?_) (fun h5=>?_)
 have hr:=selT h5 hr
 refine Ok.conv (T:=⟨[],[(0,.blk [cI p_x.t.Root,cI p_x.t.Next,dV ((lM Node.cs p_x.t.Nodes)),dV ((lM Font.cs p_x.fonts)),.d (.mp true (encM (kInt .i64) Node.cs p_x.nodes)),.d (.mp true (encM (kInt .i64) (eArr 22 (dInt .i64)) p_x.style)),.own 3000,.tl 3001 (lI x1),.d (.mp false (encM (kInt .i64) eI p_x.least)),.d (.mp false (encM (kInt .i64) eI p_x.most)),.d (.mp false (encM (kPair .i64) eI p_x.tall)),.d (.mp false (encM (kPair .i64) eI p_x.first))] 166),(1,.dead),(2,.dead),(3000,.mp false (encM (kInt .i64) (eJ 1) p_x.kids)),(3001,.tail 1)],0⟩) (Conv.mk (tau [(3000,1),(3001,4)]) tv ⟨zz,zz,zz,tv⟩ zz zz zz zz) (ao ?_)
 obtain rfl:=sq hr
 exact ⟨_,zz,.inl zz,⟨zz,(fun h=>by cases h),(fun h=>by cases h),zz,zz,tv⟩⟩
 have hr:=selF h5 hr
 refine aj (af (ac (aa (.c (.loc 5 6)) (aa (aV (((lI x2.1.Kids)))) (ae (aK (enc:=eI) x2.1.Kids zz zz tv zz) (aa (aI 0) (ab (am (az (fun (s6:Int×Int×Int×(List Node)×(List Font)×(List (Int×Node))×(List (Int×(Nat→Int)))×(List (Int×Nat))×(List Int)×(List (Int×Int))×(List (Int×Int))×(List ((Int×Int)×Int))×(List ((Int×Int)×Int)))=>⟨[(0,.s (.c (.loc 0 0))),(1,.s (aI id)),(32,.s (aV (((lI x2.1.Kids))))),(33,.s (aI (x2.1.Kids.length:Int))),(34,.s (aI s6.1))],[(0,.blk [cI s6.2.1,cI s6.2.2.1,dV ((lM Node.cs s6.2.2.2.1)),dV ((lM Font.cs s6.2.2.2.2.1)),.d (.mp true (encM (kInt .i64) Node.cs s6.2.2.2.2.2.1)),.d (.mp true (encM (kInt .i64) (eArr 22 (dInt .i64)) s6.2.2.2.2.2.2.1)),.own 1004,.tl 1005 (lI s6.2.2.2.2.2.2.2.2.1),.d (.mp false (encM (kInt .i64) eI s6.2.2.2.2.2.2.2.2.2.1)),.d (.mp false (encM (kInt .i64) eI s6.2.2.2.2.2.2.2.2.2.2.1)),.d (.mp false (encM (kPair .i64) eI s6.2.2.2.2.2.2.2.2.2.2.2.1)),.d (.mp false (encM (kPair .i64) eI s6.2.2.2.2.2.2.2.2.2.2.2.2))] 166),(1,.dead),(2,.dead),(1004,.mp false (encM (kInt .i64) (eJ 1) s6.2.2.2.2.2.2.2.1)),(1005,.tail 1)],0⟩) hr (Conv.mk (tau [(1004,1),(1005,4)]) ⟨cl zz,cl zz,cl zz,cl zz,cl zz,tv⟩ ⟨zz,zz,zz,tv⟩ zz zz zz zz) ?_)))))))))
 clear hr
 intro again7 s6 hr
 unfold bL at hr
 refine af (ac (aa (aB (decide (s6.1<(x2.1.Kids.length:Int)))) (ab (af ?_))))
 refine ah (b:=decide (s6.1<(x2.1.Kids.length:Int))) zz (fun h8=>?_) (fun h8=>?_)
 have hr:=selT h8 hr
 refine aj ?_
 obtain ⟨k10,hk10,hr⟩:=ax hr
 refine ay (fun (s9:Int×Int×(List Node)×(List Font)×(List (Int×Node))×(List (Int×(Nat→Int)))×(List (Int×Nat))×(List Int)×(List (Int×Int))×(List (Int×Int))×(List ((Int×Int)×Int))×(List ((Int×Int)×Int)))=>⟨[(0,.s (.c (.loc 0 0))),(1,.s (aI id)),(32,.s (aV (((lI x2.1.Kids))))),(33,.s (aI (x2.1.Kids.length:Int))),(34,.s (aI s6.1))],[(0,.blk [cI s9.1,cI s9.2.1,dV ((lM Node.cs s9.2.2.1)),dV ((lM Font.cs s9.2.2.2.1)),.d (.mp true (encM (kInt .i64) Node.cs s9.2.2.2.2.1)),.d (.mp true (encM (kInt .i64) (eArr 22 (dInt .i64)) s9.2.2.2.2.2.1)),.own 1010,.tl 1011 (lI s9.2.2.2.2.2.2.2.1),.d (.mp false (encM (kInt .i64) eI s9.2.2.2.2.2.2.2.2.1)),.d (.mp false (encM (kInt .i64) eI s9.2.2.2.2.2.2.2.2.2.1)),.d (.mp false (encM (kPair .i64) eI s9.2.2.2.2.2.2.2.2.2.2.1)),.d (.mp false (encM (kPair .i64) eI s9.2.2.2.2.2.2.2.2.2.2.2))] 166),(1,.dead),(2,.dead),(1010,.mp false (encM (kInt .i64) (eJ 1) s9.2.2.2.2.2.2.1)),(1011,.tail 1)],0⟩) k10 r (fun s9 hr=>?_) ?_
 rw [hk10] at hr
 refine ac (aa (aI (wq (s6.1+1))) (aa (aI (wq (s6.1+1))) (ab ?_)))
 exact ⟨(wq (s6.1+1),s9.1,s9.2.1,s9.2.2.1,s9.2.2.2.1,s9.2.2.2.2.1,s9.2.2.2.2.2.1,s9.2.2.2.2.2.2.1,s9.2.2.2.2.2.2.2.1,s9.2.2.2.2.2.2.2.2.1,s9.2.2.2.2.2.2.2.2.2.1,s9.2.2.2.2.2.2.2.2.2.2.1,s9.2.2.2.2.2.2.2.2.2.2.2),hr,(Conv.mk (tau [(1004,1010),(1005,1011)]) ⟨cl zz,cl zz,cl zz,cl zz,cl zz,tv⟩ ⟨zz,zz,zz,tv⟩ zz zz zz zz)⟩
 clear hk10
 refine am (af (ac ?_))
 obtain ⟨x11,hx11,hr⟩:=bq hr
 refine ae (aM (enc:=eI) (L:=x2.1.Kids) (row:=[dI x11]) hx11 zz zz zz zz (fun _=>zz) tv zz) (aa (aI x11) (aa (aI x11) (ab (af (ac (aa (.c (.loc 0 0)) (aa (aI x11) ?_)))))))
 obtain ⟨x12,hx12,hr⟩:=bq hr
 refine OkOps.wq [(0,.blk [cI x12.2.t.Root,cI x12.2.t.Next,dV ((lM Node.cs x12.2.t.Nodes)),dV ((lM Font.cs x12.2.fonts)),.d (.mp true (encM (kInt .i64) Node.cs x12.2.nodes)),.d (.mp true (encM (kInt .i64) (eArr 22 (dInt .i64)) x12.2.style)),.own 6,.tl 7 (lI x12.2.shown),.d (.mp false (encM (kInt .i64) eI x12.2.least)),.d (.mp false (encM (kInt .i64) eI x12.2.most)),.d (.mp false (encM (kPair .i64) eI x12.2.tall)),.d (.mp false (encM (kPair .i64) eI x12.2.first))] 166),(1004,.dead),(1005,.dead),(6,.mp false (encM (kInt .i64) (eJ 1) x12.2.kids)),(7,.tail 1)] (bQ (tau [(0,0),(1,1004),(2,1005),(3000,6),(3001,7)]) (.s (aB x12.1)) [(0,.blk [cI x12.2.t.Root,cI x12.2.t.Next,dV ((lM Node.cs x12.2.t.Nodes)),dV ((lM Font.cs x12.2.fonts)),.d (.mp true (encM (kInt .i64) Node.cs x12.2.nodes)),.d (.mp true (encM (kInt .i64) (eArr 22 (dInt .i64)) x12.2.style)),.own 6,.tl 7 (lI x12.2.shown),.d (.mp false (encM (kInt .i64) eI x12.2.least)),.d (.mp false (encM (kInt .i64) eI x12.2.most)),.d (.mp false (encM (kPair .i64) eI x12.2.tall)),.d (.mp false (encM (kPair .i64) eI x12.2.first))] 166),(1004,.dead),(1005,.dead),(6,.mp false (encM (kInt .i64) (eJ 1) x12.2.kids)),(7,.tail 1)] (cY _ _ hx12) zz ⟨.inl zz,.inl zz,tv⟩ tv ti ⟨zz,zz,zz,tv⟩ zz zz zz zz ⟨zz,zz,tv⟩ zz zz zz) (aa (aB (!x12.1)) (ab ?_))
 refine ah (b:=!x12.1) zz (fun h13=>?_) (fun h13=>?_)
 have hr:=selT h13 hr
 refine af (aF (by kernel_rfl) (ar (.c (.loc 0 0)) zz tv zz (ar (.c (.loc 0 0)) zz tv zz (ar (.c (.loc 0 6)) zz tv zz (ar (.c (.own 6)) zz tv zz (ar (aI id) zz tv zz (ar (.c (.loc 0 0)) zz tv zz (ar (.c (.loc 0 0)) zz tv zz (ar (.c (.loc 0 6)) zz tv zz (ar (.c (.own 6)) zz tv zz (ar (aI id) zz tv zz ?_)))))))))))
 obtain ⟨x14,hx14,hr⟩:=bq hr
 refine av (wI (sz:=1) (L:=x12.2.kids) hx14 zz zz zz (keyInt Tryz.underlying3) zz tv zz) (ar (aI x11) zz tv zz (gY 0 (cp (sz:=1) (enc:=eI) (j:=8) ([x11]) zz zz zz zz zz zz zz zz (fun _=>zz) tv zz zz) ?_))
 obtain ⟨x15,hx15,hr⟩:=bq hr
 refine av (yn (enc:=eI) (X:=[x11]) hx15 zz zz zz zz zz (fun _=>zz) (fun _=>zz) tv zz) (iz (hC (ek:=(kInt .i64)) (ev:=eJ 1) (L:=x12.2.kids) (z:=x15) zz zz zz zz zz zz (keyInt Tryz.underlying3) (fun _ _=>zz) zz tv) (aY (by kernel_rfl) (ac (aa (.c (.loc 0 0)) (aa (aI x11) ?_)))))
 obtain ⟨x16,hx16,hr⟩:=bq hr
 refine OkOps.wq [(0,.blk [cI x16.t.Root,cI x16.t.Next,dV ((lM Node.cs x16.t.Nodes)),dV ((lM Font.cs x16.fonts)),.d (.mp true (encM (kInt .i64) Node.cs x16.nodes)),.d (.mp true (encM (kInt .i64) (eArr 22 (dInt .i64)) x16.style)),.own 9,.tl 10 (lI x16.shown),.d (.mp false (encM (kInt .i64) eI x16.least)),.d (.mp false (encM (kInt .i64) eI x16.most)),.d (.mp false (encM (kPair .i64) eI x16.tall)),.d (.mp false (encM (kPair .i64) eI x16.first))] 166),(6,.dead),(7,.dead),(9,.mp false (encM (kInt .i64) (eJ 1) x16.kids)),(10,.tail 1)] (bQ (tau [(0,0),(1,6),(2,7),(3000,9),(3001,10)]) (.tup []) [(0,.blk [cI x16.t.Root,cI x16.t.Next,dV ((lM Node.cs x16.t.Nodes)),dV ((lM Font.cs x16.fonts)),.d (.mp true (encM (kInt .i64) Node.cs x16.nodes)),.d (.mp true (encM (kInt .i64) (eArr 22 (dInt .i64)) x16.style)),.own 9,.tl 10 (lI x16.shown),.d (.mp false (encM (kInt .i64) eI x16.least)),.d (.mp false (encM (kInt .i64) eI x16.most)),.d (.mp false (encM (kPair .i64) eI x16.tall)),.d (.mp false (encM (kPair .i64) eI x16.first))] 166),(6,.dead),(7,.dead),(9,.mp false (encM (kInt .i64) (eJ 1) x16.kids)),(10,.tail 1)] (hself0 _ _ hx16) zz ⟨.inl zz,.inl zz,tv⟩ tv th ⟨zz,zz,zz,tv⟩ zz zz zz zz ⟨zz,zz,tv⟩ zz zz zz) (ab ?_)
 exact ⟨(x16.t.Root,x16.t.Next,x16.t.Nodes,x16.fonts,x16.nodes,x16.style,x16.kids,x16.shown,x16.least,x16.most,x16.tall,x16.first),hr,(Conv.mk (tau [(1010,9),(1011,10)]) ⟨cl zz,cl zz,cl zz,cl zz,cl zz,tv⟩ ⟨zz,zz,zz,tv⟩ zz zz zz zz)⟩
 have hr:=selF h13 hr
 refine aj ?_
 exact ⟨(x12.2.t.Root,x12.2.t.Next,x12.2.t.Nodes,x12.2.fonts,x12.2.nodes,x12.2.style,x12.2.kids,x12.2.shown,x12.2.least,x12.2.most,x12.2.tall,x12.2.first),hr,(Conv.mk (tau [(1010,6),(1011,7)]) ⟨cl zz,cl zz,cl zz,cl zz,cl zz,tv⟩ ⟨zz,zz,zz,tv⟩ zz zz zz zz)⟩
 have hr:=selF h8 hr
 refine Ok.conv (T:=⟨[],[(0,.blk [cI s6.2.1,cI s6.2.2.1,dV ((lM Node.cs s6.2.2.2.1)),dV ((lM Font.cs s6.2.2.2.2.1)),.d (.mp true (encM (kInt .i64) Node.cs s6.2.2.2.2.2.1)),.d (.mp true (encM (kInt .i64) (eArr 22 (dInt .i64)) s6.2.2.2.2.2.2.1)),.own 3000,.tl 3001 (lI s6.2.2.2.2.2.2.2.2.1),.d (.mp false (encM (kInt .i64) eI s6.2.2.2.2.2.2.2.2.2.1)),.d (.mp false (encM (kInt .i64) eI s6.2.2.2.2.2.2.2.2.2.2.1)),.d (.mp false (encM (kPair .i64) eI s6.2.2.2.2.2.2.2.2.2.2.2.1)),.d (.mp false (encM (kPair .i64) eI s6.2.2.2.2.2.2.2.2.2.2.2.2))] 166),(1,.dead),(2,.dead),(3000,.mp false (encM (kInt .i64) (eJ 1) s6.2.2.2.2.2.2.2.1)),(3001,.tail 1)],0⟩) (Conv.mk (tau [(3000,1004),(3001,1005)]) tv ⟨zz,zz,zz,tv⟩ zz zz zz zz) (aE ?_)
 obtain rfl:=sq hr
 exact ⟨_,zz,.inl zz,⟨zz,(fun h=>by cases h),(fun h=>by cases h),zz,zz,tv⟩⟩
theorem fG:∀ n:Nat,(∀ (p_x:layout_scene) (id:Int) {r:layout_scene},be n p_x id=some r→Con Tryz.prog 158 [.c (.loc 0 0),aI id] [(0,.blk [cI p_x.t.Root,cI p_x.t.Next,dV ((lM Node.cs p_x.t.Nodes)),dV ((lM Font.cs p_x.fonts)),.d (.mp true (encM (kInt .i64) Node.cs p_x.nodes)),.d (.mp true (encM (kInt .i64) (eArr 22 (dInt .i64)) p_x.style)),.own 1,.tl 2 (lI p_x.shown),.d (.mp false (encM (kInt .i64) eI p_x.least)),.d (.mp false (encM (kInt .i64) eI p_x.most)),.d (.mp false (encM (kPair .i64) eI p_x.tall)),.d (.mp false (encM (kPair .i64) eI p_x.first))] 166),(1,.mp false (encM (kInt .i64) (eJ 1) p_x.kids)),(2,.tail 1)] (.tup []) [(0,.blk [cI r.t.Root,cI r.t.Next,dV ((lM Node.cs r.t.Nodes)),dV ((lM Font.cs r.fonts)),.d (.mp true (encM (kInt .i64) Node.cs r.nodes)),.d (.mp true (encM (kInt .i64) (eArr 22 (dInt .i64)) r.style)),.own 3000,.tl 3001 (lI r.shown),.d (.mp false (encM (kInt .i64) eI r.least)),.d (.mp false (encM (kInt .i64) eI r.most)),.d (.mp false (encM (kPair .i64) eI r.tall)),.d (.mp false (encM (kPair .i64) eI r.first))] 166),(1,.dead),(2,.dead),(3000,.mp false (encM (kInt .i64) (eJ 1) r.kids)),(3001,.tail 1)])∧True:=by
 intro n
 induction n with
 | zero=>exact ⟨(by intros;rename_i hr;cases hr),tv⟩
 | succ n ih=>exact ⟨(by intros;rename_i hr;exact fH _ ih.1 _ _ hr),tv⟩
theorem fU (n:Nat) (p_x:layout_scene) (id:Int) {r:layout_scene} (hr:be n p_x id=some r):Con Tryz.prog 158 [.c (.loc 0 0),aI id] [(0,.blk [cI p_x.t.Root,cI p_x.t.Next,dV ((lM Node.cs p_x.t.Nodes)),dV ((lM Font.cs p_x.fonts)),.d (.mp true (encM (kInt .i64) Node.cs p_x.nodes)),.d (.mp true (encM (kInt .i64) (eArr 22 (dInt .i64)) p_x.style)),.own 1,.tl 2 (lI p_x.shown),.d (.mp false (encM (kInt .i64) eI p_x.least)),.d (.mp false (encM (kInt .i64) eI p_x.most)),.d (.mp false (encM (kPair .i64) eI p_x.tall)),.d (.mp false (encM (kPair .i64) eI p_x.first))] 166),(1,.mp false (encM (kInt .i64) (eJ 1) p_x.kids)),(2,.tail 1)] (.tup []) [(0,.blk [cI r.t.Root,cI r.t.Next,dV ((lM Node.cs r.t.Nodes)),dV ((lM Font.cs r.fonts)),.d (.mp true (encM (kInt .i64) Node.cs r.nodes)),.d (.mp true (encM (kInt .i64) (eArr 22 (dInt .i64)) r.style)),.own 3000,.tl 3001 (lI r.shown),.d (.mp false (encM (kInt .i64) eI r.least)),.d (.mp false (encM (kInt .i64) eI r.most)),.d (.mp false (encM (kPair .i64) eI r.tall)),.d (.mp false (encM (kPair .i64) eI r.first))] 166),(1,.dead),(2,.dead),(3000,.mp false (encM (kInt .i64) (eJ 1) r.kids)),(3001,.tail 1)]:=(fG n).1 p_x id hr
theorem jg (t:Tree) (st:(List Styled)) (fonts:(List Font)) {r:layout_scene} (hr:bD t st fonts=some r):Con Tryz.prog 118 [.agg (tC t),aV (((lM Styled.cs st))),aV (((lM Font.cs fonts)))] [] (.s (.c (.loc 8 0))) [(8,.blk [cI r.t.Root,cI r.t.Next,dV ((lM Node.cs r.t.Nodes)),dV ((lM Font.cs r.fonts)),.d (.mp true (encM (kInt .i64) Node.cs r.nodes)),.d (.mp true (encM (kInt .i64) (eArr 22 (dInt .i64)) r.style)),.d (.mp false (encM (kInt .i64) (eJ 1) r.kids)),dV ((lI r.shown)),.d (.mp false (encM (kInt .i64) eI r.least)),.d (.mp false (encM (kInt .i64) eI r.most)),.d (.mp false (encM (kPair .i64) eI r.tall)),.d (.mp false (encM (kPair .i64) eI r.first))] 166)]:=by
 unfold bD at hr
 refine ap 62 0 [.tmp 6] [(0,.s (.agg (tC t))),(1,.s (aV (((lM Styled.cs st))))),(2,.s (aV (((lM Font.cs fonts)))))] Tryz.func118 zz zz zz zz zz zz zz zz fun w g M ρ _=>(af (ac (ak 0 (aP (j:=0) (cs:=(tC t)) zz zz zz zz zz) (aa (.c (.d (.v (.pointer none)))) (ab (af (ac (aa (.agg (tC t)) (aa (aV (((lM Font.cs fonts)))) (ak 0 (g9 (j:=1) true zz zz) (ak 0 (g9 (j:=2) true zz zz) (ak 0 (g9 (j:=3) false zz zz) (ak 0 (g9 (j:=4) false zz zz) (ak 0 (g9 (j:=5) false zz zz) (ak 0 (g9 (j:=6) false zz zz) ?_)))))))))))))))
 refine ak 0 (g9 (j:=7) false zz zz) (ae (pM (x:=.agg [cI t.Root,cI t.Next,dV ((lM Node.cs t.Nodes)),dV ((lM Font.cs fonts)),.own 1,.own 2,.own 3,.d (.v (.slice none 0 0)),.own 4,.own 5,.own 6,.own 7]) zz zz tv zz) (ak 0 (aP (j:=8) (cs:=[cI t.Root,cI t.Next,dV ((lM Node.cs t.Nodes)),dV ((lM Font.cs fonts)),.own 1,.own 2,.own 3,.d (.v (.slice none 0 0)),.own 4,.own 5,.own 6,.own 7]) zz zz zz zz zz) (aa (.c (.loc 8 0)) (ab ?_))))
 obtain ⟨k2,hk2,hr⟩:=ax hr
 refine ay (fun (s1:(List (Int×Node))×(List (Int×(Nat→Int))))=>⟨[(3,.s (.c (.loc 0 0))),(7,.s (.c (.loc 8 0)))],[(0,.blk (tC t) 30),(1,.mp true (encM (kInt .i64) Node.cs s1.1)),(2,.mp true (encM (kInt .i64) (eArr 22 (dInt .i64)) s1.2)),(3,.mp false (encM (kInt .i64) (eJ 1) ([]:(List (Int×Nat))))),(4,.mp false (encM (kInt .i64) eI ([]:(List (Int×Int))))),(5,.mp false (encM (kInt .i64) eI ([]:(List (Int×Int))))),(6,.mp false (encM (kPair .i64) eI ([]:(List ((Int×Int)×Int))))),(7,.mp false (encM (kPair .i64) eI ([]:(List ((Int×Int)×Int))))),(8,.blk [cI t.Root,cI t.Next,dV ((lM Node.cs t.Nodes)),dV ((lM Font.cs fonts)),.own 1,.own 2,.own 3,.d (.v (.slice none 0 0)),.own 4,.own 5,.own 6,.own 7] 166)],0⟩) k2 r (fun s1 hr=>?_) ?_
 rw [hk2] at hr
 obtain ⟨k4,hk4,hr⟩:=ax hr
 refine ay (fun (s3:Int×Int×(List Node)×(List Font)×(List (Int×Node))×(List (Int×(Nat→Int)))×(List (Int×Nat))×(List Int)×(List (Int×Int))×(List (Int×Int))×(List ((Int×Int)×Int))×(List ((Int×Int)×Int)))=>⟨[(7,.s (.c (.loc 8 0)))],[(8,.blk [cI s3.1,cI s3.2.1,dV ((lM Node.cs s3.2.2.1)),dV ((lM Font.cs s3.2.2.2.1)),.d (.mp true (encM (kInt .i64) Node.cs s3.2.2.2.2.1)),.d (.mp true (encM (kInt .i64) (eArr 22 (dInt .i64)) s3.2.2.2.2.2.1)),.own 1000,.tl 1001 (lI s3.2.2.2.2.2.2.2.1),.d (.mp false (encM (kInt .i64) eI s3.2.2.2.2.2.2.2.2.1)),.d (.mp false (encM (kInt .i64) eI s3.2.2.2.2.2.2.2.2.2.1)),.d (.mp false (encM (kPair .i64) eI s3.2.2.2.2.2.2.2.2.2.2.1)),.d (.mp false (encM (kPair .i64) eI s3.2.2.2.2.2.2.2.2.2.2.2))] 166),(1000,.mp false (encM (kInt .i64) (eJ 1) s3.2.2.2.2.2.2.1)),(1001,.tail 1)],0⟩) k4 r (fun s3 hr=>?_) ?_
 rw [hk4] at hr
 refine af (ac (aa (.c (.loc 8 0)) (aa (.c (.loc 8 0)) (ab (Ok.conv (bH [] [(8,.blk [cI s3.1,cI s3.2.1,dV ((lM Node.cs s3.2.2.1)),dV ((lM Font.cs s3.2.2.2.1)),.d (.mp true (encM (kInt .i64) Node.cs s3.2.2.2.2.1)),.d (.mp true (encM (kInt .i64) (eArr 22 (dInt .i64)) s3.2.2.2.2.2.1)),.d (.mp false (encM (kInt .i64) (eJ 1) s3.2.2.2.2.2.2.1)),.tl 1001 (lI s3.2.2.2.2.2.2.2.1),.d (.mp false (encM (kInt .i64) eI s3.2.2.2.2.2.2.2.2.1)),.d (.mp false (encM (kInt .i64) eI s3.2.2.2.2.2.2.2.2.2.1)),.d (.mp false (encM (kPair .i64) eI s3.2.2.2.2.2.2.2.2.2.2.1)),.d (.mp false (encM (kPair .i64) eI s3.2.2.2.2.2.2.2.2.2.2.2))] 166)] 1000 0 zz tv ⟨⟨_,_,zz,zz⟩,tv⟩) (Ok.conv (Conv.norm 8 [cI s3.1,cI s3.2.1,dV ((lM Node.cs s3.2.2.1)),dV ((lM Font.cs s3.2.2.2.1)),.d (.mp true (encM (kInt .i64) Node.cs s3.2.2.2.2.1)),.d (.mp true (encM (kInt .i64) (eArr 22 (dInt .i64)) s3.2.2.2.2.2.1)),.d (.mp false (encM (kInt .i64) (eJ 1) s3.2.2.2.2.2.2.1)),.tl 1001 (lI s3.2.2.2.2.2.2.2.1),.d (.mp false (encM (kInt .i64) eI s3.2.2.2.2.2.2.2.2.1)),.d (.mp false (encM (kInt .i64) eI s3.2.2.2.2.2.2.2.2.2.1)),.d (.mp false (encM (kPair .i64) eI s3.2.2.2.2.2.2.2.2.2.2.1)),.d (.mp false (encM (kPair .i64) eI s3.2.2.2.2.2.2.2.2.2.2.2))] [cI s3.1,cI s3.2.1,dV ((lM Node.cs s3.2.2.1)),dV ((lM Font.cs s3.2.2.2.1)),.d (.mp true (encM (kInt .i64) Node.cs s3.2.2.2.2.1)),.d (.mp true (encM (kInt .i64) (eArr 22 (dInt .i64)) s3.2.2.2.2.2.1)),.d (.mp false (encM (kInt .i64) (eJ 1) s3.2.2.2.2.2.2.1)),dV ((lI s3.2.2.2.2.2.2.2.1)),.d (.mp false (encM (kInt .i64) eI s3.2.2.2.2.2.2.2.2.1)),.d (.mp false (encM (kInt .i64) eI s3.2.2.2.2.2.2.2.2.2.1)),.d (.mp false (encM (kPair .i64) eI s3.2.2.2.2.2.2.2.2.2.2.1)),.d (.mp false (encM (kPair .i64) eI s3.2.2.2.2.2.2.2.2.2.2.2))] 166 0 zz zz) (ao ?_)))))))
 obtain rfl:=sq hr
 exact ⟨_,zz,.inl zz,⟨zz,tv⟩⟩
 clear hk4
 refine af (ac (aa (.c (.loc 8 0)) (aa (.c (.loc 0 0)) (aa (aI t.Root) (OkOps.conv (wB 8 7 9 (.tail 1) (.tl 9 (lI ([]:(List Int)))) [cI t.Root,cI t.Next,dV ((lM Node.cs t.Nodes)),dV ((lM Font.cs fonts)),.own 1,.own 2,.own 3,.d (.v (.slice none 0 0)),.own 4,.own 5,.own 6,.own 7] [cI t.Root,cI t.Next,dV ((lM Node.cs t.Nodes)),dV ((lM Font.cs fonts)),.own 1,.own 2,.own 3,.tl 9 (lI ([]:(List Int))),.own 4,.own 5,.own 6,.own 7] 166 0 zz zz zz zz (mv 1 9) (fun _ _ h=>⟨h.symm,Rep.nil⟩)) (OkOps.conv (bH [] [(8,.blk [cI t.Root,cI t.Next,dV ((lM Node.cs t.Nodes)),dV ((lM Font.cs fonts)),.d (.mp true (encM (kInt .i64) Node.cs s1.1)),.own 2,.own 3,.tl 9 (lI ([]:(List Int))),.own 4,.own 5,.own 6,.own 7] 166)] 1 0 zz tv ⟨⟨_,_,zz,zz⟩,tv⟩) (OkOps.conv (bH [] [(8,.blk [cI t.Root,cI t.Next,dV ((lM Node.cs t.Nodes)),dV ((lM Font.cs fonts)),.d (.mp true (encM (kInt .i64) Node.cs s1.1)),.d (.mp true (encM (kInt .i64) (eArr 22 (dInt .i64)) s1.2)),.own 3,.tl 9 (lI ([]:(List Int))),.own 4,.own 5,.own 6,.own 7] 166)] 2 0 zz tv ⟨⟨_,_,zz,zz⟩,tv⟩) (OkOps.conv (bH [] [(8,.blk [cI t.Root,cI t.Next,dV ((lM Node.cs t.Nodes)),dV ((lM Font.cs fonts)),.d (.mp true (encM (kInt .i64) Node.cs s1.1)),.d (.mp true (encM (kInt .i64) (eArr 22 (dInt .i64)) s1.2)),.own 3,.tl 9 (lI ([]:(List Int))),.d (.mp false (encM (kInt .i64) eI ([]:(List (Int×Int))))),.own 5,.own 6,.own 7] 166)] 4 0 zz tv ⟨⟨_,_,zz,zz⟩,tv⟩) (OkOps.conv (bH [] [(8,.blk [cI t.Root,cI t.Next,dV ((lM Node.cs t.Nodes)),dV ((lM Font.cs fonts)),.d (.mp true (encM (kInt .i64) Node.cs s1.1)),.d (.mp true (encM (kInt .i64) (eArr 22 (dInt .i64)) s1.2)),.own 3,.tl 9 (lI ([]:(List Int))),.d (.mp false (encM (kInt .i64) eI ([]:(List (Int×Int))))),.d (.mp false (encM (kInt .i64) eI ([]:(List (Int×Int))))),.own 6,.own 7] 166)] 5 0 zz tv ⟨⟨_,_,zz,zz⟩,tv⟩) (OkOps.conv (bH [] [(8,.blk [cI t.Root,cI t.Next,dV ((lM Node.cs t.Nodes)),dV ((lM Font.cs fonts)),.d (.mp true (encM (kInt .i64) Node.cs s1.1)),.d (.mp true (encM (kInt .i64) (eArr 22 (dInt .i64)) s1.2)),.own 3,.tl 9 (lI ([]:(List Int))),.d (.mp false (encM (kInt .i64) eI ([]:(List (Int×Int))))),.d (.mp false (encM (kInt .i64) eI ([]:(List (Int×Int))))),.d (.mp false (encM (kPair .i64) eI ([]:(List ((Int×Int)×Int))))),.own 7] 166)] 6 0 zz tv ⟨⟨_,_,zz,zz⟩,tv⟩) (OkOps.conv (bH [] [(8,.blk [cI t.Root,cI t.Next,dV ((lM Node.cs t.Nodes)),dV ((lM Font.cs fonts)),.d (.mp true (encM (kInt .i64) Node.cs s1.1)),.d (.mp true (encM (kInt .i64) (eArr 22 (dInt .i64)) s1.2)),.own 3,.tl 9 (lI ([]:(List Int))),.d (.mp false (encM (kInt .i64) eI ([]:(List (Int×Int))))),.d (.mp false (encM (kInt .i64) eI ([]:(List (Int×Int))))),.d (.mp false (encM (kPair .i64) eI ([]:(List ((Int×Int)×Int))))),.d (.mp false (encM (kPair .i64) eI ([]:(List ((Int×Int)×Int)))))] 166)] 7 0 zz tv ⟨⟨_,_,zz,zz⟩,tv⟩) ?_)))))))))))
 obtain ⟨x5,hx5,hr⟩:=bq hr
 refine OkOps.wq [(8,.blk [cI x5.2.t.Root,cI x5.2.t.Next,dV ((lM Node.cs x5.2.t.Nodes)),dV ((lM Font.cs x5.2.fonts)),.d (.mp true (encM (kInt .i64) Node.cs x5.2.nodes)),.d (.mp true (encM (kInt .i64) (eArr 22 (dInt .i64)) x5.2.style)),.own 10,.tl 11 (lI x5.2.shown),.d (.mp false (encM (kInt .i64) eI x5.2.least)),.d (.mp false (encM (kInt .i64) eI x5.2.most)),.d (.mp false (encM (kPair .i64) eI x5.2.tall)),.d (.mp false (encM (kPair .i64) eI x5.2.first))] 166),(3,.dead),(9,.dead),(10,.mp false (encM (kInt .i64) (eJ 1) x5.2.kids)),(11,.tail 1)] (bQ (tau [(0,8),(1,3),(2,9),(3000,10),(3001,11)]) (.s (aB x5.1)) [(8,.blk [cI x5.2.t.Root,cI x5.2.t.Next,dV ((lM Node.cs x5.2.t.Nodes)),dV ((lM Font.cs x5.2.fonts)),.d (.mp true (encM (kInt .i64) Node.cs x5.2.nodes)),.d (.mp true (encM (kInt .i64) (eArr 22 (dInt .i64)) x5.2.style)),.own 10,.tl 11 (lI x5.2.shown),.d (.mp false (encM (kInt .i64) eI x5.2.least)),.d (.mp false (encM (kInt .i64) eI x5.2.most)),.d (.mp false (encM (kPair .i64) eI x5.2.tall)),.d (.mp false (encM (kPair .i64) eI x5.2.first))] 166),(3,.dead),(9,.dead),(10,.mp false (encM (kInt .i64) (eJ 1) x5.2.kids)),(11,.tail 1)] (cY _ _ hx5) zz ⟨.inl zz,.inl zz,tv⟩ tv ti ⟨zz,zz,zz,tv⟩ zz zz zz zz ⟨zz,zz,tv⟩ zz zz zz) (aa (aB (!x5.1)) (ab ?_))
 refine ah (b:=!x5.1) zz (fun h6=>?_) (fun h6=>?_)
 have hr:=selT h6 hr
 refine ac (aa (.c (.loc 8 0)) (aa (.c (.loc 0 0)) (aa (aI t.Root) ?_)))
 obtain ⟨x7,hx7,hr⟩:=bq hr
 refine OkOps.wq [(8,.blk [cI x7.t.Root,cI x7.t.Next,dV ((lM Node.cs x7.t.Nodes)),dV ((lM Font.cs x7.fonts)),.d (.mp true (encM (kInt .i64) Node.cs x7.nodes)),.d (.mp true (encM (kInt .i64) (eArr 22 (dInt .i64)) x7.style)),.own 12,.tl 13 (lI x7.shown),.d (.mp false (encM (kInt .i64) eI x7.least)),.d (.mp false (encM (kInt .i64) eI x7.most)),.d (.mp false (encM (kPair .i64) eI x7.tall)),.d (.mp false (encM (kPair .i64) eI x7.first))] 166),(10,.dead),(11,.dead),(12,.mp false (encM (kInt .i64) (eJ 1) x7.kids)),(13,.tail 1)] (bQ (tau [(0,8),(1,10),(2,11),(3000,12),(3001,13)]) (.tup []) [(8,.blk [cI x7.t.Root,cI x7.t.Next,dV ((lM Node.cs x7.t.Nodes)),dV ((lM Font.cs x7.fonts)),.d (.mp true (encM (kInt .i64) Node.cs x7.nodes)),.d (.mp true (encM (kInt .i64) (eArr 22 (dInt .i64)) x7.style)),.own 12,.tl 13 (lI x7.shown),.d (.mp false (encM (kInt .i64) eI x7.least)),.d (.mp false (encM (kInt .i64) eI x7.most)),.d (.mp false (encM (kPair .i64) eI x7.tall)),.d (.mp false (encM (kPair .i64) eI x7.first))] 166),(10,.dead),(11,.dead),(12,.mp false (encM (kInt .i64) (eJ 1) x7.kids)),(13,.tail 1)] (fU _ _ _ hx7) zz ⟨.inl zz,.inl zz,tv⟩ tv th ⟨zz,zz,zz,tv⟩ zz zz zz zz ⟨zz,zz,tv⟩ zz zz zz) (ab ?_)
 exact ⟨(x7.t.Root,x7.t.Next,x7.t.Nodes,x7.fonts,x7.nodes,x7.style,x7.kids,x7.shown,x7.least,x7.most,x7.tall,x7.first),hr,(Conv.mk (tau [(1000,12),(1001,13)]) ⟨cl zz,tv⟩ ⟨zz,zz,zz,tv⟩ zz zz zz zz)⟩
 have hr:=selF h6 hr
 refine aj ?_
 exact ⟨(x5.2.t.Root,x5.2.t.Next,x5.2.t.Nodes,x5.2.fonts,x5.2.nodes,x5.2.style,x5.2.kids,x5.2.shown,x5.2.least,x5.2.most,x5.2.tall,x5.2.first),hr,(Conv.mk (tau [(1000,10),(1001,11)]) ⟨cl zz,tv⟩ ⟨zz,zz,zz,tv⟩ zz zz zz zz)⟩
 clear hk2
 refine af (ac (aa (.c (.loc 0 2)) (aa (aV (((lM Node.cs t.Nodes)))) (ae (aK (enc:=Node.cs) t.Nodes zz zz tv zz) (aa (aI 0) (ab (am (az (fun (s8:Int×(List (Int×Node))×(List (Int×(Nat→Int))))=>⟨[(1,.s (aV (((lM Styled.cs st))))),(3,.s (.c (.loc 0 0))),(7,.s (.c (.loc 8 0))),(22,.s (aV (((lM Node.cs t.Nodes))))),(23,.s (aI (t.Nodes.length:Int))),(24,.s (aI s8.1))],[(0,.blk (tC t) 30),(1,.mp true (encM (kInt .i64) Node.cs s8.2.1)),(2,.mp true (encM (kInt .i64) (eArr 22 (dInt .i64)) s8.2.2)),(3,.mp false (encM (kInt .i64) (eJ 1) ([]:(List (Int×Nat))))),(4,.mp false (encM (kInt .i64) eI ([]:(List (Int×Int))))),(5,.mp false (encM (kInt .i64) eI ([]:(List (Int×Int))))),(6,.mp false (encM (kPair .i64) eI ([]:(List ((Int×Int)×Int))))),(7,.mp false (encM (kPair .i64) eI ([]:(List ((Int×Int)×Int))))),(8,.blk [cI t.Root,cI t.Next,dV ((lM Node.cs t.Nodes)),dV ((lM Font.cs fonts)),.own 1,.own 2,.own 3,.d (.v (.slice none 0 0)),.own 4,.own 5,.own 6,.own 7] 166)],0⟩) hr (Conv.mk (tau []) ⟨cl zz,cl zz,cl zz,cl zz,cl zz,cl zz,tv⟩ ⟨zz,zz,zz,zz,zz,zz,zz,zz,zz,tv⟩ zz zz zz zz) ?_))))))))
 clear hr
 intro again9 s8 hr
 unfold cg at hr
 refine af (ac (aa (aB (decide (s8.1<(t.Nodes.length:Int)))) (ab (af ?_))))
 refine ah (b:=decide (s8.1<(t.Nodes.length:Int))) zz (fun h10=>?_) (fun h10=>?_)
 have hr:=selT h10 hr
 refine aj (af (am (af (ac (aa (aI s8.1) ?_)))))
 obtain ⟨x11,hx11,hr⟩:=bq hr
 refine ae (aM (enc:=Node.cs) (L:=t.Nodes) (row:=[dI x11.ID,dI x11.Parent,dI x11.Kind,dS x11.Key,.sl (lM Attr.cs x11.Attrs),.sl (lM Action.cs x11.Actions),.sl (lI x11.Kids)]) hx11 zz zz zz zz (fun _=>zz) tv zz) (aa (.agg [cI x11.ID,cI x11.Parent,cI x11.Kind,cS x11.Key,dV ((lM Attr.cs x11.Attrs)),dV ((lM Action.cs x11.Actions)),dV ((lI x11.Kids))]) (ak 0 (aw (j:=14) (cs:=[cI 0,cI 0,cI 0,cS ByteArray.empty,.d (.v (.slice none 0 0)),.d (.v (.slice none 0 0)),.d (.v (.slice none 0 0))]) zz zz zz zz) (aa (aI s8.1) (aq (al (cs':=[cI x11.ID,cI x11.Parent,cI x11.Kind,cS x11.Key,dV ((lM Attr.cs x11.Attrs)),dV ((lM Action.cs x11.Actions)),dV ((lI x11.Kids))]) zz zz zz zz zz zz zz zz zz) (ab (aF (by kernel_rfl) (ar (.c (.loc 8 0)) zz tv zz (ar (.c (.loc 8 0)) zz tv zz (ar (.c (.loc 8 4)) zz tv zz (ar (.c (.own 1)) zz tv zz (ar (.c (.loc 14 0)) zz tv zz (ar (aI x11.ID) zz tv zz (ar (.c (.loc 8 0)) zz tv zz (ar (.c (.loc 8 0)) zz tv zz (ar (.c (.loc 8 5)) zz tv zz ?_)))))))))))))))
 refine ar (.c (.own 2)) zz tv zz (ar (.c (.loc 14 0)) zz tv zz (ar (aI x11.ID) zz tv zz (ar (.agg [cI x11.ID,cI x11.Parent,cI x11.Kind,cS x11.Key,dV ((lM Attr.cs x11.Attrs)),dV ((lM Action.cs x11.Actions)),dV ((lI x11.Kids))]) zz tv zz (ar (aV (((lM Styled.cs st)))) zz tv zz (ar (aI s8.1) zz tv zz ?_)))))
 obtain ⟨x12,hx12,hr⟩:=bq hr
 refine av (aM (enc:=Styled.cs) (L:=st) (row:=[dI x12.ID,dI (x12.Style 0),dI (x12.Style 1),dI (x12.Style 2),dI (x12.Style 3),dI (x12.Style 4),dI (x12.Style 5),dI (x12.Style 6),dI (x12.Style 7),dI (x12.Style 8),dI (x12.Style 9),dI (x12.Style 10),dI (x12.Style 11),dI (x12.Style 12),dI (x12.Style 13),dI (x12.Style 14),dI (x12.Style 15),dI (x12.Style 16),dI (x12.Style 17),dI (x12.Style 18),dI (x12.Style 19),dI (x12.Style 20),dI (x12.Style 21)]) hx12 zz zz zz zz (fun _=>zz) tv zz) (ar (.c (.pt [dI (x12.Style 0),dI (x12.Style 1),dI (x12.Style 2),dI (x12.Style 3),dI (x12.Style 4),dI (x12.Style 5),dI (x12.Style 6),dI (x12.Style 7),dI (x12.Style 8),dI (x12.Style 9),dI (x12.Style 10),dI (x12.Style 11),dI (x12.Style 12),dI (x12.Style 13),dI (x12.Style 14),dI (x12.Style 15),dI (x12.Style 16),dI (x12.Style 17),dI (x12.Style 18),dI (x12.Style 19),dI (x12.Style 20),dI (x12.Style 21)])) zz tv zz (ar (.agg [cI (x12.Style 0),cI (x12.Style 1),cI (x12.Style 2),cI (x12.Style 3),cI (x12.Style 4),cI (x12.Style 5),cI (x12.Style 6),cI (x12.Style 7),cI (x12.Style 8),cI (x12.Style 9),cI (x12.Style 10),cI (x12.Style 11),cI (x12.Style 12),cI (x12.Style 13),cI (x12.Style 14),cI (x12.Style 15),cI (x12.Style 16),cI (x12.Style 17),cI (x12.Style 18),cI (x12.Style 19),cI (x12.Style 20),cI (x12.Style 21)]) zz tv zz ?_))
 obtain ⟨x13,hx13,hr⟩:=bq hr
 refine gY 0 (mJ (ek:=(kInt .i64)) (ev:=Node.cs) (L:=s8.2.1) (yo:=x13) (r:=.agg [cI x13.1.ID,cI x13.1.Parent,cI x13.1.Kind,cS x13.1.Key,dV ((lM Attr.cs x13.1.Attrs)),dV ((lM Action.cs x13.1.Actions)),dV ((lI x13.1.Kids))]) hx13 zz zz zz zz (keyInt Tryz.underlying3) zz zz (fun h=>by cases h) zz zz tv zz) ?_
 refine ar (aI (((midx (msetL s8.2.1 x11.ID x13.1) x11.ID).getD 0:Nat):Int)) zz tv zz ?_
 refine iz (kO (ek:=(kInt .i64)) (ev:=Node.cs) (L:=msetL s8.2.1 x11.ID x13.1) (k:=x11.ID) (z:=x11) (m7 s8.2.1 x11.ID x13.1) zz zz zz zz zz zz (keyInt Tryz.underlying3) (fun h=>by cases h) (ko s8.2.1 x11.ID x13.1 x11) tv) ?_
 obtain ⟨x14,hx14,hr⟩:=bq hr
 refine gY 0 (mJ (ek:=(kInt .i64)) (ev:=(eArr 22 (dInt .i64))) (L:=s8.2.2) (yo:=x14) (r:=.agg [cI (x14.1 0),cI (x14.1 1),cI (x14.1 2),cI (x14.1 3),cI (x14.1 4),cI (x14.1 5),cI (x14.1 6),cI (x14.1 7),cI (x14.1 8),cI (x14.1 9),cI (x14.1 10),cI (x14.1 11),cI (x14.1 12),cI (x14.1 13),cI (x14.1 14),cI (x14.1 15),cI (x14.1 16),cI (x14.1 17),cI (x14.1 18),cI (x14.1 19),cI (x14.1 20),cI (x14.1 21)]) hx14 zz zz zz zz (keyInt Tryz.underlying3) zz zz (fun h=>by cases h) zz zz tv zz) ?_
 refine ar (aI (((midx (msetL s8.2.2 x11.ID x14.1) x11.ID).getD 0:Nat):Int)) zz tv zz ?_
 refine iz (kO (ek:=(kInt .i64)) (ev:=(eArr 22 (dInt .i64))) (L:=msetL s8.2.2 x11.ID x14.1) (k:=x11.ID) (z:=x12.Style) (m7 s8.2.2 x11.ID x14.1) zz zz zz zz zz zz (keyInt Tryz.underlying3) (fun h=>by cases h) (ko s8.2.2 x11.ID x14.1 x12.Style) tv) ?_
 refine aY (by kernel_rfl) (ac (aa (aI (wq (s8.1+1))) (aa (aI (wq (s8.1+1))) (ab ?_))))
 exact ⟨(wq (s8.1+1),msetL s8.2.1 x11.ID x11,msetL s8.2.2 x11.ID x12.Style),hr,(Conv.mk (tau []) ⟨cl zz,cl zz,cl zz,cl zz,cl zz,cl zz,tv⟩ ⟨zz,zz,zz,zz,zz,zz,zz,zz,zz,tv⟩ zz zz zz zz)⟩
 have hr:=selF h10 hr
 refine aE ?_
 exact ⟨(s8.2.1,s8.2.2),hr,(Conv.mk (tau []) ⟨cl zz,cl zz,tv⟩ ⟨zz,zz,zz,zz,zz,zz,zz,zz,zz,tv⟩ zz zz zz zz)⟩
theorem iR (t:Tree) (st:(List Styled)) {r:(List Int)} (hr:cc t st=some r):Con Tryz.prog 78 [.agg (tC t),aV (((lM Styled.cs st)))] [] (.s (aV (((lI r))))) []:=by
 unfold cc at hr
 refine ap 25 0 [.tmp 4] [(0,.s (.agg (tC t))),(1,.s (aV (((lM Styled.cs st)))))] Tryz.func78 zz zz zz zz zz zz zz zz fun w g M ρ _=>(af (ac (ak 0 (aP (j:=0) (cs:=(tC t)) zz zz zz zz zz) (aa (.c (.d (.v (.slice none 0 0)))) (ab (af (af (ac (aa (.agg (tC t)) ?_)))))))))
 obtain ⟨x1,hx1,hr⟩:=bq hr
 refine ae (aL (tau []) (.s (aI x1)) [] (tS _ hx1) zz ⟨.inl zz,tv⟩ tv xI tv) (aa (aB (x1 != 0)) (aa (aB (x1 != 0)) (ae (ai (x:=.agg (tC t)) zz zz tv zz) (ae (ai (x:=aV (((lM Styled.cs st)))) zz zz tv zz) ?_))))
 obtain ⟨x2,hx2,hr⟩:=bq hr
 refine ae (a9 (x:=aB x2) (fun hg=>gV _ _ (cQ hx2 hg)) zz zz ⟨.inl zz,.inl zz,tv⟩ ⟨fun h=>h,⟨fun h=>h,tv⟩⟩ xH zz zz zz) (ae (ai (x:=aB (!x2)) zz zz ⟨fun h=>h,tv⟩ zz) ?_)
 refine ae (bj zz zz (fun h=>by rw [h];rfl) zz) ?_
 refine aa (aB ((x1 != 0)||(!x2))) (ae (ai (x:=aV (((lM Styled.cs st)))) zz zz tv zz) ?_)
 obtain ⟨x3,hx3,hr⟩:=bq hr
 refine ae (a9 (x:=aB x3) (fun hg=>iB _ (cQ hx3 hg)) zz zz ⟨.inl zz,tv⟩ ⟨fun h=>h,tv⟩ xG zz zz zz) (ae (ai (x:=aB (!x3)) zz zz ⟨fun h=>h,tv⟩ zz) ?_)
 refine ae (bj zz zz (fun h=>by rw [h];rfl) zz) ?_
 refine ab ?_
 refine ah (b:=((x1 != 0)||(!x2))||(!x3)) zz (fun h4=>?_) (fun h4=>?_)
 have hr:=selT h4 hr
 refine af (ac (aa (.c (.d (.v (.slice none 0 0)))) (ab (ao ?_))))
 obtain rfl:=sq hr
 exact ⟨_,zz,.inr zz,tv⟩
 have hr:=selF h4 hr
 refine aj (af (ac (aa (.agg (tC t)) (aa (aV (((lM Styled.cs st)))) ?_))))
 obtain ⟨x5,hx5,hr⟩:=bq hr
 refine ak 0 (bQ (tau [(8,1)]) (.s (.c (.loc 1 0))) [(1,.blk [cI x5.t.Root,cI x5.t.Next,dV ((lM Node.cs x5.t.Nodes)),dV ((lM Font.cs x5.fonts)),.d (.mp true (encM (kInt .i64) Node.cs x5.nodes)),.d (.mp true (encM (kInt .i64) (eArr 22 (dInt .i64)) x5.style)),.d (.mp false (encM (kInt .i64) (eJ 1) x5.kids)),dV ((lI x5.shown)),.d (.mp false (encM (kInt .i64) eI x5.least)),.d (.mp false (encM (kInt .i64) eI x5.most)),.d (.mp false (encM (kPair .i64) eI x5.tall)),.d (.mp false (encM (kPair .i64) eI x5.first))] 166)] (jg _ _ _ hx5) zz ⟨.inl zz,.inl zz,.inr zz,tv⟩ tv xF tv zz zz zz zz ⟨zz,tv⟩ zz zz zz) (aa (.c (.loc 1 0)) (aa (.c (.loc 1 7)) (aa (aV (((lI x5.shown)))) (aa (aV (((lI x5.shown)))) (ab (ao ?_))))))
 obtain rfl:=sq hr
 exact ⟨_,zz,.inl zz,tv⟩
end Go.Proofs.YtfoigppmcelgfaaGreatDoor
end
section
set_option maxRecDepth 100000
namespace Go.Proofs.YtfoigppmcelgfaaGreatDoor
open Go Go.E2
theorem iv (s:(List Int)) {r:(List Int)} (hr:ch s=some r):Con Tryz.prog 54 [aV (((lI s)))] [] (.s (.c (.tl 2000 (lI r)))) [(2000,.tail 1)]:=by
 unfold ch at hr
 refine ap 8 0 [.tmp 2] [(0,.s (aV (((lI s)))))] Tryz.func54 zz zz zz zz zz zz zz zz fun w g M ρ _=>(af (ac (ae (r8 (x:=.c (.d (.v (.slice none 0 0)))) zz tv zz) (ab (af (af (ac (ae (r8 (x:=aV (((lI s)))) zz tv zz) ?_))))))))
 refine nw (e:=3) zz (by kernel_rfl) tv zz (fun b hb=>?_)
 refine ab ?_
 refine ah (b:=b) zz (fun h=>?_) (fun h=>?_)
 obtain rfl:s=[]:=by simpa using hb h
 obtain rfl:r=[]:=((lr hr).2:_)
 refine af (ac (ae (r8 (x:=.c (.d (.v (.slice none 0 0)))) zz tv zz) (ab (Ok.conv (Conv.nil 2 2000 1 0 zz zz) (ao ?_)))))
 exact ⟨_,zz,.inl zz,⟨zz,tv⟩⟩
 refine aj (af (ac (ak 0 (cp (sz:=1) (enc:=eI) (j:=0) [] zz zz zz zz zz zz zz zz (fun _=>zz) tv zz zz) (ae (r8 (x:=aV (((lI s)))) zz tv zz) (bW 0 (dQ (enc:=eI) (L:=[]) (X:=s) (j:=0) (j':=2000) hr zz zz zz zz zz zz (fun _=>zz) (fun _=>zz) (by decide) tv zz zz) (ae (r8 (x:=.c (.tl 2000 (lI r))) zz tv zz) (ab (ao ?_))))))))
 exact ⟨_,zz,.inl zz,⟨zz,tv⟩⟩
theorem pJ (t:Tree) (id:Int) {r:Node×Bool} (hr:jk t id=some r):Con Tryz.prog 36 [.agg (tC t),aI id] [] (.tup [.agg [cI r.1.ID,cI r.1.Parent,cI r.1.Kind,cS r.1.Key,dV ((lM Attr.cs r.1.Attrs)),dV ((lM Action.cs r.1.Actions)),dV ((lI r.1.Kids))],aB r.2]) []:=by
 unfold jk at hr
 refine ap 36 0 [.cell 4 61,.tmp 5] [(0,.s (.agg (tC t))),(1,.s (aI id))] Tryz.func36 zz zz zz zz zz zz zz zz fun w g M ρ _=>(af (ac (ak 0 (aP (j:=0) (cs:=(tC t)) zz zz zz zz zz) (ak 0 (aw (j:=1) (cs:=[cI 0,cI 0,cI 0,cS ByteArray.empty,.d (.v (.slice none 0 0)),.d (.v (.slice none 0 0)),.d (.v (.slice none 0 0))]) zz zz zz zz) (aa (aB false) (ab ?_))))))
 obtain ⟨k2,hk2,hr⟩:=ax hr
 refine ay (fun (s1:Unit)=>⟨[(4,.s (.c (.loc 1 0)))],[(1,.blk [cI 0,cI 0,cI 0,cS ByteArray.empty,.d (.v (.slice none 0 0)),.d (.v (.slice none 0 0)),.d (.v (.slice none 0 0))] 61)],0⟩) k2 r (fun s1 hr=>?_) ?_
 rw [hk2] at hr
 refine af (ac (aa (.agg [cI 0,cI 0,cI 0,cS ByteArray.empty,.d (.v (.slice none 0 0)),.d (.v (.slice none 0 0)),.d (.v (.slice none 0 0))]) (aq (al (cs':=[cI 0,cI 0,cI 0,cS ByteArray.empty,.d (.v (.slice none 0 0)),.d (.v (.slice none 0 0)),.d (.v (.slice none 0 0))]) zz zz zz zz zz zz zz zz zz) (aa (aB false) (ab (ao ?_))))))
 obtain rfl:=sq hr
 exact ⟨_,zz,.inr zz,tv⟩
 clear hk2
 refine af (ac (aa (.c (.loc 0 2)) (aa (aV (((lM Node.cs t.Nodes)))) (ae (aK (enc:=Node.cs) t.Nodes zz zz tv zz) (aa (aI 0) (ab (am (az (fun (s3:Int)=>⟨[(1,.s (aI id)),(4,.s (.c (.loc 1 0))),(9,.s (aV (((lM Node.cs t.Nodes))))),(10,.s (aI (t.Nodes.length:Int))),(11,.s (aI s3))],[(1,.blk [cI 0,cI 0,cI 0,cS ByteArray.empty,.d (.v (.slice none 0 0)),.d (.v (.slice none 0 0)),.d (.v (.slice none 0 0))] 61)],0⟩) hr (Conv.mk (tau []) ⟨cl zz,cl zz,cl zz,cl zz,cl zz,tv⟩ ⟨zz,tv⟩ zz zz zz zz) ?_))))))))
 clear hr
 intro again4 s3 hr
 unfold jI at hr
 refine af (ac (aa (aB (decide (s3<(t.Nodes.length:Int)))) (ab (af ?_))))
 refine ah (b:=decide (s3<(t.Nodes.length:Int))) zz (fun h5=>?_) (fun h5=>?_)
 have hr:=selT h5 hr
 refine aj (af (am (af (ac ?_))))
 obtain ⟨x6,hx6,hr⟩:=bq hr
 refine ae (aM (enc:=Node.cs) (L:=t.Nodes) (row:=[dI x6.ID,dI x6.Parent,dI x6.Kind,dS x6.Key,.sl (lM Attr.cs x6.Attrs),.sl (lM Action.cs x6.Actions),.sl (lI x6.Kids)]) hx6 zz zz zz zz (fun _=>zz) tv zz) (aa (.agg [cI x6.ID,cI x6.Parent,cI x6.Kind,cS x6.Key,dV ((lM Attr.cs x6.Attrs)),dV ((lM Action.cs x6.Actions)),dV ((lI x6.Kids))]) (ak 0 (aw (j:=2) (cs:=[cI 0,cI 0,cI 0,cS ByteArray.empty,.d (.v (.slice none 0 0)),.d (.v (.slice none 0 0)),.d (.v (.slice none 0 0))]) zz zz zz zz) (aq (al (cs':=[cI x6.ID,cI x6.Parent,cI x6.Kind,cS x6.Key,dV ((lM Attr.cs x6.Attrs)),dV ((lM Action.cs x6.Actions)),dV ((lI x6.Kids))]) zz zz zz zz zz zz zz zz zz) (ab (af (af (ac (aa (.c (.loc 2 0)) (aa (aI x6.ID) (aa (aI id) (aa (aB (x6.ID != id)) (ab ?_))))))))))))
 refine ah (b:=x6.ID != id) zz (fun h7=>?_) (fun h7=>?_)
 have hr:=selT h7 hr
 refine aE (ac (aa (aI (wq (s3+1))) (aa (aI (wq (s3+1))) (ab ?_))))
 exact ⟨wq (s3+1),hr,(Conv.mk (tau []) ⟨cl zz,cl zz,cl zz,cl zz,cl zz,tv⟩ ⟨zz,tv⟩ zz zz zz zz)⟩
 have hr:=selF h7 hr
 refine aj (af (ac (aa (.c (.loc 2 4)) (aa (aV (((lM Attr.cs x6.Attrs)))) (aa (.c (.loc 2 5)) (aa (aV (((lM Action.cs x6.Actions)))) ?_))))))
 obtain ⟨x8,hx8,hr⟩:=bq hr
 refine ae (aL (tau []) (.tup [aV (((lM Attr.cs x8.1))),aV (((lM Action.cs x8.2)))]) [] (qQ _ _ hx8) zz ⟨.inl zz,.inl zz,tv⟩ tv y4 tv) (ae (dk (v:=.tup [aV (((lM Attr.cs x8.1))),aV (((lM Action.cs x8.2)))]) zz zz) (aa (aV (((lM Attr.cs x8.1)))) (aa (aV (((lM Action.cs x8.2)))) (aa (.c (.loc 2 4)) (aq (al (cs':=[cI x6.ID,cI x6.Parent,cI x6.Kind,cS x6.Key,dV ((lM Attr.cs x8.1)),dV ((lM Action.cs x6.Actions)),dV ((lI x6.Kids))]) zz zz zz zz zz zz zz zz zz) (aa (.c (.loc 2 5)) (aq (al (cs':=[cI x6.ID,cI x6.Parent,cI x6.Kind,cS x6.Key,dV ((lM Attr.cs x8.1)),dV ((lM Action.cs x8.2)),dV ((lI x6.Kids))]) zz zz zz zz zz zz zz zz zz) (ab (af (ac (aa (.c (.loc 2 6)) (aa (aV (((lI x6.Kids)))) ?_))))))))))))
 obtain ⟨x9,hx9,hr⟩:=bq hr
 refine ak 0 (bQ (tau [(2000,3)]) (.s (.c (.tl 3 (lI x9)))) [(3,.tail 1)] (iv _ hx9) zz ⟨.inl zz,tv⟩ tv ph tv zz zz zz zz ⟨zz,tv⟩ zz zz zz) (aa (.c (.loc 2 6)) (aq (al (cs':=[cI x6.ID,cI x6.Parent,cI x6.Kind,cS x6.Key,dV ((lM Attr.cs x8.1)),dV ((lM Action.cs x8.2)),.tl 3 (lI x9)]) zz zz zz zz zz zz zz zz zz) (ab (af (ac (aa (.agg [cI x6.ID,cI x6.Parent,cI x6.Kind,cS x6.Key,dV ((lM Attr.cs x8.1)),dV ((lM Action.cs x8.2)),.tl 3 (lI x9)]) (aq (al (cs':=[cI x6.ID,cI x6.Parent,cI x6.Kind,cS x6.Key,dV ((lM Attr.cs x8.1)),dV ((lM Action.cs x8.2)),.tl 3 (lI x9)]) zz zz zz zz zz zz zz zz zz) (aa (aB true) (ab (ao ?_))))))))))
 obtain rfl:=sq hr
 exact ⟨_,zz,.inr zz,tv⟩
 have hr:=selF h5 hr
 refine aE ?_
 exact ⟨(),hr,(Conv.mk (tau []) ⟨cl zz,tv⟩ ⟨zz,tv⟩ zz zz zz zz)⟩
theorem tR (t:Tree) {r:(List Int)} (hr:iS t=some r):Con Tryz.prog 90 [.agg (tC t)] [] (.s (aV (((lI r))))) []:=by
 unfold iS at hr
 refine ap 16 0 [.tmp 2] [(0,.s (.agg (tC t)))] Tryz.func90 zz zz zz zz zz zz zz zz fun w g M ρ _=>(af (ac (ak 0 (aP (j:=0) (cs:=(tC t)) zz zz zz zz zz) (aa (.c (.d (.v (.slice none 0 0)))) (ab (af (ac (aa (.agg (tC t)) ?_))))))))
 obtain ⟨x1,hx1,hr⟩:=bq hr
 refine ae (aL (tau []) (.tup [.c (.d (.mp true (encM (kInt .i64) Node.cs x1.1))),aB x1.2]) [] (tP _ hx1) zz ⟨.inl zz,tv⟩ tv yY tv) (ae (dk (v:=.tup [.c (.d (.mp true (encM (kInt .i64) Node.cs x1.1))),aB x1.2]) zz zz) (aa (.c (.d (.mp true (encM (kInt .i64) Node.cs x1.1)))) (aa (aB x1.2) (aa (.c (.d (.mp true (encM (kInt .i64) Node.cs x1.1)))) (aa (aB x1.2) (ab (af (af (ac (aa (aB x1.2) (aa (aB (!x1.2)) (ab ?_))))))))))))
 refine ah (b:=!x1.2) zz (fun h2=>?_) (fun h2=>?_)
 have hr:=selT h2 hr
 refine af (ac (aa (.c (.d (.v (.slice none 0 0)))) (ab (ao ?_))))
 obtain rfl:=sq hr
 exact ⟨_,zz,.inr zz,tv⟩
 have hr:=selF h2 hr
 refine aj (af (ac (aa (.c (.d (.mp true (encM (kInt .i64) Node.cs x1.1)))) (aa (.c (.loc 0 0)) (aa (aI t.Root) ?_)))))
 obtain ⟨x3,hx3,hr⟩:=bq hr
 refine ae (aL (tau []) (.s (aV (((lI x3))))) [] (kH _ _ _ hx3) zz ⟨.inl zz,.inl zz,tv⟩ tv pp tv) (aa (aV (((lI x3)))) (ab (ao ?_)))
 obtain rfl:=sq hr
 exact ⟨_,zz,.inl zz,tv⟩
end Go.Proofs.YtfoigppmcelgfaaGreatDoor
end
